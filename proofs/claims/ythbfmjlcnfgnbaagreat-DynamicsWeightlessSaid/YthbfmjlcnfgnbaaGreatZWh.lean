/-
  Part of the proof: see the last text.
-/
import Derived.Test.YthbfmjlcnfgnbaaGreatZWg
set_option linter.unusedVariables false
set_option maxHeartbeats 8000000
open Array renaming getElem?_eq_some_iff→aB,replicate→dn
open List renaming cons_append→dw,mem_cons→ag,mem_cons_of_mem→aT,mem_cons_self→aA,mem_map→aeZ,nil_append→dD,not_mem_nil→ae,range→dh,replicate→az
open Go.Proofs.Tryz renaming f45→aeU,prog→aa
open Go.World renaming cell?→bS
section
namespace Go.Proofs
open Go.Sm Go.RowKit En
variable {w0 w:World} {nc n:Nat}
theorem uB (hc:∀(b o:Nat) (v:Value),b<w0.heap.size→b≠nc→w0.cell? ⟨b,o,none⟩=some v→w.cell? ⟨b,o,none⟩=some v) {oa:Option Addr} {rows:List (List Value)} (hr:∀r∈rows,r≠[]) (ha:∀a,oa=some a→a.block≠nc) (h:Sl w0 oa n rows):Sl w oa n rows:=by
 intro h0
 obtain ⟨b,off,e,h1⟩:=h h0
 have hb:=ha _ e
 have key:∀i r,rows[i]?=some r→∀k v,r[k]?=some v→w.cell? ⟨b,off+(i*n+k),none⟩=some v:=fun i r hi k v hv=>hc b _ v h1.lt hb (h1.c i r hi k v hv)
 refine ⟨b,off,e,?_,key⟩
 obtain ⟨r,l,rfl⟩:∃r l,rows=r::l:=by cases rows with | nil=>exact absurd rfl h0 | cons r l=>exact ⟨r,l,rfl⟩
 obtain ⟨v,t,rfl⟩:∃v t,r=v::t:=by cases r with | nil=>exact absurd rfl (hr [] aA) | cons v t=>exact ⟨v,t,rfl⟩
 obtain ⟨cs,_,_,k1,_⟩:=tZ (key 0 _ rfl 0 v rfl)
 exact (aB.1 k1).1
theorem kX (ks:List Int):∀r∈fF ks,r≠[]:=fun r hr e=>by
 simp only [fF,aeZ] at hr
 obtain ⟨k,_,rfl⟩:=hr
 cases e
theorem y7 (nc:Nat) (vs:List V6):∀r∈vs.map (V6.cs nc),r≠[]:=fun r hr e=>by
 obtain ⟨k,_,rfl⟩:=aeZ.1 hr
 cases e
theorem ZI (ms:List MB):∀r∈ms.map MB.row,r≠[]:=fun r hr e=>by
 obtain ⟨k,_,rfl⟩:=aeZ.1 hr
 cases e
theorem sD.move (hc:∀(b o:Nat) (v:Value),b<w0.heap.size→b≠nc→w0.cell? ⟨b,o,none⟩=some v→w.cell? ⟨b,o,none⟩=some v) {m:MB} (h:sD w0 nc n m):sD w nc n m :=
 { h with qU:=uB hc (kX _) h.aJ h.qU,dJ:=uB hc (y7 _ _) h.aV h.dJ }
theorem mO {l:List Int} {bs:List Bool} {sl:List dY} (h:za (gB (w0,[nc]) l bs sl) w):∀(b o:Nat) (v:Value),b<w0.heap.size→b≠nc→w0.cell? ⟨b,o,none⟩=some v→w.cell? ⟨b,o,none⟩=some v :=
 fun _ _ _ h1 h2 hv=>Yd rfl h h1 (by simpa using h2) hv
theorem UC (rs:List (Int×Int)) (f:Bool) (j:Nat) (v u:V6) (n:Int):vg rs f j v u n=((vg rs false j v u n).1,f||(vg rs false j v u n).2):=by
 simp only [vg,Bool.false_or,Bool.or_assoc]
theorem Kl (m:MB) (u:V6) (rs:List (Int×Int)) (f:Bool):∀i,jI m u (rs,f) i=((jI m u (rs,false) i).1,f||(jI m u (rs,false) i).2)
 | 0=>by simp [jI]
 | i+1=>by
  simp only [jI]
  rw [Kl m u rs f i,UC _ (f||_),UC _ (jI m u (rs,false) i).2]
  simp only [Bool.or_assoc]
theorem yg (ms:List MB) (us:List V6) (rs:List (Int×Int)) (f:Bool):∀k,gm ms us (rs,f) k=((gm ms us (rs,false) k).1,f||(gm ms us (rs,false) k).2)
 | 0=>by simp [gm]
 | k+1=>by
  simp only [gm]
  rw [yg ms us rs f k,Kl _ _ _ (f||_)]
  rw [show jI (ms.getD k .z) (us.getD k .z) (gm ms us (rs,false) k) (ms.getD k .z).ks.length=jI (ms.getD k .z) (us.getD k .z) ((gm ms us (rs,false) k).1,(gm ms us (rs,false) k).2) (ms.getD k .z).ks.length from rfl,Kl _ _ _ (gm ms us (rs,false) k).2]
  simp only [Bool.or_assoc]
structure kr (w:World) (nc n:Nat) (B0 B3:dY) (ms:List MB):Prop where
 n1:1≤n∧n≤3
 b0:B0.2.1=n
 b3:B3.2.1=ms.length
 m2:ms.length≤2
 rows:Sl w B3.1 3 (ms.map MB.row)
 aM:∀a,B3.1=some a→a.block≠nc
 ok:∀(i:Nat) (m:MB),ms[i]?=some m→sD w nc n m
theorem kr.move {w0 w:World} {nc n:Nat} {B0 B3:dY} {ms:List MB} (h:kr w0 nc n B0 B3 ms) (hc:∀(b o:Nat) (v:Value),b<w0.heap.size→b≠nc→w0.cell? ⟨b,o,none⟩=some v→w.cell? ⟨b,o,none⟩=some v):kr w nc n B0 B3 ms :=
 { h with rows:=uB hc (ZI _) h.aM h.rows,ok:=fun i m hm=>(h.ok i m hm).move hc }
theorem O0 (vs:List V6) (nc:Nat):∀(i:Nat) (r:List Value),(vs.map (V6.cs nc))[i]?=some r→∀(k:Nat) (v:Value),r[k]?=some v→(vs.flatMap (V6.cs nc))[i*7+k]?=some v:=by
 intro i r hi k v hv
 have:=flat_get (vs.map (V6.cs nc)) 7 (fun r hr=>by obtain ⟨x,_,rfl⟩:=aeZ.1 hr; rfl) i r hi k v hv
 simpa [List.flatMap] using this
variable {B0 B1 B2 B3:dY}
theorem X9 {g1:Nat} {c:Bool} {ms:List MB} {us:List V6} (hb:kr w nc n B0 B3 ms) (hl:us.length=ms.length) (hne:g1≠nc) (hfl:w.heap[nc]?=some (.cells #[.bool c] 88 (0,0))) (hv:w.heap[g1]?=some (.cells ⟨us.flatMap (V6.cs nc)⟩ 98 (0,0))) :
  Calls aa 44 #[.agg ⟨[dK nc,dJ B0,dJ B1,dJ B2,dJ B3]⟩,.slice (some ⟨g1,0,none⟩) us.length us.length] w fun r w'=>∃gl,w.heap.size≤gl∧gl<w'.heap.size∧r=.returned (.slice (some ⟨gl,0,none⟩) n n)∧w'.heap[gl]?=some (.cells ⟨(eP (gm ms us (az n (0,0),false) ms.length).1).map num⟩ 23 (0,0))∧jL w nc 88 (c||(gm ms us (az n (0,0),false) ms.length).2) w':=by
 have:=zu nc n c B0 B1 B2 B3 (some ⟨g1,0,none⟩,us.length,us.length) w ms us hb.n1 hb.b0 hb.b3 rfl hl (by have:=hb.m2; omega) hfl hb.rows hb.aM (fun _=>⟨g1,0,rfl,(aB.1 hv).1,fun i r hi k v hk=>by
  have:=O0 us nc i r hi k v hk
  simp [bS,hv,this]⟩) (fun a e=>by injection e with e; subst e; exact hne) hb.ok
 refine this.mono fun r w' h=>?_
 rw [yg] at h
 exact h
def gV (x y z:Int):V6:=⟨Du x,Dv x,Du y,Dv y,Du z,Dv z⟩
def iP (r:Int×Int):Int×Int:=(mE r.1 r.2,mF r.1 r.2)
def nG (i:Nat):List Value:=[mI 1240 [var i],mI 1241 [var i]]
def gC:List Value:=.pointer (some ⟨0,0,none⟩)::(nG 0++nG 1++nG 2)
def uM:List Value:=[.pointer (some ⟨0,0,none⟩),dM 0,dM 1,dM 2,dM 3]
def U2 (m:Nat):eG:=dQ ((dh m).flatMap fun _=>gC) 98
def C9 (n:Nat):eG:=dQ ((dh (2*n)).map fun i=>var (3+i)) 23
def uI (n m:Nat):List pq:=[⟨44,[.agg ⟨uM⟩,.slice (some ⟨1,0,none⟩) m m],[U2 m],.slice (some ⟨2,0,none⟩) n n,mB 1 [.int .i64 1],[C9 n]⟩]
def qo (x y z:Int) (rs:List (Int×Int)):List Int:=[x,y,z]++eP rs
variable {x y z:Int} {f b:Bool}
theorem wJ {m:Nat} {ms:List MB} (hb:kr w0 nc n B0 B3 ms) (hm:ms.length=m) {rs:List (Int×Int)} (hr:gm ms (az m (gV x y z)) (az n (0,0),false) ms.length=(rs,b))
  (e1:∀g1,eQ (fP (gB (w0,[nc]) (qo x y z rs) [f,b] [B0,B1,B2,B3]) ⟨[nc,g1],[]⟩ 5) [.agg ⟨uM⟩,.slice (some ⟨1,0,none⟩) m m]=some [.agg ⟨[dK nc,dJ B0,dJ B1,dJ B2,dJ B3]⟩,.slice (some ⟨g1,0,none⟩) m m])
  (e2:∀g1,eQ (fP (gB (w0,[nc]) (qo x y z rs) [f,b] [B0,B1,B2,B3]) ⟨[nc,g1],[]⟩ 4) (U2 m).cells=some ((az m (gV x y z)).flatMap (V6.cs nc)))
  (e3:∀g1 gl,eQ (fP (gB (w0,[nc]) (qo x y z rs) [f,b] [B0,B1,B2,B3]) ⟨[nc,g1,gl],[]⟩ 4) (C9 n).cells=some ((eP rs).map num)):∀t∈uI n m,Af aa (gB (w0,[nc]) (qo x y z rs) [f,b] [B0,B1,B2,B3]) 88 t:=by
 intro t ht
 simp only [uI,ag,ae,or_false] at ht
 subst ht
 intro nc' ga c w hga hnd hf0 hfz hF hfl hbk
 match ga,hga with
 | [g1],_ =>
 have hnc:nc'=nc:=hf0 nc rfl
 subst hnc
 have hvec:=hbk 0 _ g1 rfl rfl _ (e2 g1)
 refine ⟨_,b,e1 g1,by kernel_rfl,?_⟩
 have hlen:(az m (gV x y z)).length=m:=by simp
 have:=X9 (B1:=B1) (B2:=B2) (c:=c) (us:=az m (gV x y z)) (hb.move (mO hF)) (by rw [hlen,hm]) (by simp at hnd; omega) hfl hvec
 rw [hr,hlen] at this
 refine this.mono ?_
 rintro r w' ⟨gl,k1,k2,rfl,k4,k5⟩
 exact ⟨[gl],_,rfl,by simpa using ⟨k1,k2⟩,by simp,rfl,rfl,fun i bi g hi hg=>by
  match i,hi,hg with
  | 0,hi,hg=>simp at hi hg; subst hi; subst hg; exact ⟨_,e3 g1 _,k4⟩
  | _+1,hi,_=>simp at hi,k5⟩
theorem wH:(dN aeU)=fB [dZ ((dN aeU)),dZ ((fU (dN aeU))),dZ ((fU (fU (dN aeU)))),dZ ((sR 3 (dN aeU))),dZ ((sR 4 (dN aeU))),dZ ((sR 5 (dN aeU)))] ((sR 6 (dN aeU))):=by kernel_rfl
variable {gl:Nat} {r0:Int×Int} {a:Act} {R:Ending→World→Prop}
theorem KN (hown:∀g∈[nc,gl]++[],g∈[nc]∨w0.heap.size≤g) (hnd:([nc,gl]++[]).Nodup) (h:dP (dS 58 [(10,.slice (some ⟨gl,0,none⟩) 1 1)]) [(nc,[.bool f],88),(gl,(eP [r0]).map num,23)] [] a w) (hk:dO w0 [nc] w)
  (hQ:∀a' w',dP (dS 58 [(10,.slice (some ⟨gl,0,none⟩) 1 1)]) [(nc,[.bool f],88),(gl,(eP [iP r0]).map num,23)] [] a' w'→dO w0 [nc] w'→R (.returned (.slice (some ⟨gl,0,none⟩) 1 1)) w') :
  ((sR 6 (dN aeU))).wp aa (bodyPost aa aeU R) a w :=
 qQ (qo 0 0 0 [r0]) [f] [] (g:=[]) (wt:=[]) (lt:=[]) (sb:=[]) (T:=[]) (K:=[]) (RT:=[]) (wb:=[]) (ws:=[]) (fr:=fK 58 [(10,.slice (some ⟨1,0,none⟩) 1 1)]) (H:=[dQ [mB 1 [.int .i64 0]] 88,C9 1]) (lo:=[]) (u:=.slice (some ⟨gl,0,none⟩) 1 1) 45 [0,1] [] (by kernel_rfl) (by kernel_rfl) (by exact hnd) ⟨ed _,gG,gD,fT,il _ _,fw (by exact hown),gH,fun _=>iI⟩ h hk hQ
theorem acJ {ms:List MB} (hb:kr w nc 1 B0 B3 ms) (hm:ms.length=0) (hr:gm ms (az 0 (gV x y z)) (az 1 (0,0),false) ms.length=([r0],b)) (hfl:w.heap[nc]?=some (.cells #[.bool f] 88 (0,0))) :
  Calls aa 45 #[.agg ⟨[dK nc,dJ B0,dJ B1,dJ B2,dJ B3]⟩,.agg ⟨[num x,num y,num z]⟩] w (uH w nc 1 ([iP r0],f||b)):=by
 have hnc:nc<w.heap.size:=(aB.1 hfl).1
 refine calls_of_wp Tryz.func45 (c:=(dN aeU)) (by kernel_rfl) ?_
 rw [wH]
 have hst:dP ([some (.agg ⟨[dK nc,dJ B0,dJ B1,dJ B2,dJ B3]⟩),some (.agg ⟨[num x,num y,num z]⟩)]++az 56 (some undef)) [(nc,[.bool f],88)] [] { tmps:=#[.agg ⟨[dK nc,dJ B0,dJ B1,dJ B2,dJ B3]⟩,.agg ⟨[num x,num y,num z]⟩]++dn (aeU.ntmps - 2) undef,defers:=[] } w :=
  qF (xs:=[.agg ⟨[dK nc,dJ B0,dJ B1,dJ B2,dJ B3]⟩,.agg ⟨[num x,num y,num z]⟩]) (m:=56) rfl (by simp [hfl]) (by simp)
 refine jZ (qo x y z [r0]) [f,b] [B0,B1,B2,B3] (g:=[]) (wt:=[]) (lt:=[(3,.int .i64 0)]) (sb:=[]) (T:=[]) (K:=uI 1 0) (RT:=[]) (wb:=[]) (ws:=[]) (fr:=[.agg ⟨uM⟩,.agg ⟨[var 0,var 1,var 2]⟩]++az 56 undef) (H:=[dQ [mB 1 [.int .i64 0]] 88]) (lo:=[]) (us':=fun ng _=>dS 58 [(10,.slice (some ⟨ng.getD 1 0,0,none⟩) 1 1)]) (gs':=fun ng _=>[(nc,[.bool (f||b)],88),(ng.getD 1 0,(eP [r0]).map num,23)]) (ls':=fun _ _=>[]) 45 _ [0,2] [] [8,10] [] (fun ng nl e1 e2=>?_) (by kernel_rfl) (fun ng nl e1 e2 e3=>?_) ⟨ed _,gG,?_,fT,il _ _,fw (by simp),gH,fun _=>?_⟩ hst (dO.refl w [nc]) (fun a' w' ng nl e1 e2 e3 e4 hs hk'=>?_)
 ·match ng,nl,e1,e2 with
  | [g1,g2],[],_,_=>show (_:Option _)=_; kernel_rfl
 ·match ng,nl,e1,e2 with
  | [g1,g2],[],_,_=>simp at e3 ⊢; exact e3.1.2
 ·exact wJ hb hm hr (fun _=>by kernel_rfl) (fun _=>by kernel_rfl) (fun _ _=>by kernel_rfl)
 ·refine ⟨(fun e he=>by cases he),fun e he=>?_,fun e he=>by cases he⟩
  simp only [fG,ag,ae,or_false] at he
  subst he
  exact ⟨2,by show some (num 0)=some (.int .i64 (B3.2.1:Nat)); rw [hb.b3,hm]; rfl⟩
 ·match ng,nl,e1,e2 with
  | [g1,g2],[],_,_ =>
   have h2:=e4 g2 (by simp)
   refine KN (f:=f||b) (fun g hg=>?_) (by simp at e3 ⊢; exact e3.1.2) hs hk' fun a6 w6 s6 k6=>?_
   ·simp only [dw,dD,ag,ae,or_false] at hg
    rcases hg with rfl | rfl
    ·exact .inl (by simp)
    ·exact .inr h2.1
   ·have q1:=s6.gl _ aA
    have q2:=s6.gl _ (aT _ aA)
    exact ⟨g2,h2.1,(aB.1 q2).1,rfl,q2,uP k6 q1⟩
theorem acK {ms:List MB} (hb:kr w nc 1 B0 B3 ms) (hm:ms.length=1) (hr:gm ms (az 1 (gV x y z)) (az 1 (0,0),false) ms.length=([r0],b)) (hfl:w.heap[nc]?=some (.cells #[.bool f] 88 (0,0))) :
  Calls aa 45 #[.agg ⟨[dK nc,dJ B0,dJ B1,dJ B2,dJ B3]⟩,.agg ⟨[num x,num y,num z]⟩] w (uH w nc 1 ([iP r0],f||b)):=by
 have hnc:nc<w.heap.size:=(aB.1 hfl).1
 refine calls_of_wp Tryz.func45 (c:=(dN aeU)) (by kernel_rfl) ?_
 rw [wH]
 have hst:dP ([some (.agg ⟨[dK nc,dJ B0,dJ B1,dJ B2,dJ B3]⟩),some (.agg ⟨[num x,num y,num z]⟩)]++az 56 (some undef)) [(nc,[.bool f],88)] [] { tmps:=#[.agg ⟨[dK nc,dJ B0,dJ B1,dJ B2,dJ B3]⟩,.agg ⟨[num x,num y,num z]⟩]++dn (aeU.ntmps - 2) undef,defers:=[] } w :=
  qF (xs:=[.agg ⟨[dK nc,dJ B0,dJ B1,dJ B2,dJ B3]⟩,.agg ⟨[num x,num y,num z]⟩]) (m:=56) rfl (by simp [hfl]) (by simp)
 refine jZ (qo x y z [r0]) [f,b] [B0,B1,B2,B3] (g:=[]) (wt:=[]) (lt:=[(3,.int .i64 1)]) (sb:=[]) (T:=[]) (K:=uI 1 1) (RT:=[]) (wb:=[]) (ws:=[]) (fr:=[.agg ⟨uM⟩,.agg ⟨[var 0,var 1,var 2]⟩]++az 56 undef) (H:=[dQ [mB 1 [.int .i64 0]] 88]) (lo:=[]) (us':=fun ng _=>dS 58 [(10,.slice (some ⟨ng.getD 1 0,0,none⟩) 1 1)]) (gs':=fun ng _=>[(nc,[.bool (f||b)],88),(ng.getD 1 0,(eP [r0]).map num,23)]) (ls':=fun _ _=>[]) 45 _ [0,2] [] [8,10] [] (fun ng nl e1 e2=>?_) (by kernel_rfl) (fun ng nl e1 e2 e3=>?_) ⟨ed _,gG,?_,fT,il _ _,fw (by simp),gH,fun _=>?_⟩ hst (dO.refl w [nc]) (fun a' w' ng nl e1 e2 e3 e4 hs hk'=>?_)
 ·match ng,nl,e1,e2 with
  | [g1,g2],[],_,_=>show (_:Option _)=_; kernel_rfl
 ·match ng,nl,e1,e2 with
  | [g1,g2],[],_,_=>simp at e3 ⊢; exact e3.1.2
 ·exact wJ hb hm hr (fun _=>by kernel_rfl) (fun _=>by kernel_rfl) (fun _ _=>by kernel_rfl)
 ·refine ⟨(fun e he=>by cases he),fun e he=>?_,fun e he=>by cases he⟩
  simp only [fG,ag,ae,or_false] at he
  subst he
  exact ⟨2,by show some (num 1)=some (.int .i64 (B3.2.1:Nat)); rw [hb.b3,hm]; rfl⟩
 ·match ng,nl,e1,e2 with
  | [g1,g2],[],_,_ =>
   have h2:=e4 g2 (by simp)
   refine KN (f:=f||b) (fun g hg=>?_) (by simp at e3 ⊢; exact e3.1.2) hs hk' fun a6 w6 s6 k6=>?_
   ·simp only [dw,dD,ag,ae,or_false] at hg
    rcases hg with rfl | rfl
    ·exact .inl (by simp)
    ·exact .inr h2.1
   ·have q1:=s6.gl _ aA
    have q2:=s6.gl _ (aT _ aA)
    exact ⟨g2,h2.1,(aB.1 q2).1,rfl,q2,uP k6 q1⟩
theorem acL {ms:List MB} (hb:kr w nc 1 B0 B3 ms) (hm:ms.length=2) (hr:gm ms (az 2 (gV x y z)) (az 1 (0,0),false) ms.length=([r0],b)) (hfl:w.heap[nc]?=some (.cells #[.bool f] 88 (0,0))) :
  Calls aa 45 #[.agg ⟨[dK nc,dJ B0,dJ B1,dJ B2,dJ B3]⟩,.agg ⟨[num x,num y,num z]⟩] w (uH w nc 1 ([iP r0],f||b)):=by
 have hnc:nc<w.heap.size:=(aB.1 hfl).1
 refine calls_of_wp Tryz.func45 (c:=(dN aeU)) (by kernel_rfl) ?_
 rw [wH]
 have hst:dP ([some (.agg ⟨[dK nc,dJ B0,dJ B1,dJ B2,dJ B3]⟩),some (.agg ⟨[num x,num y,num z]⟩)]++az 56 (some undef)) [(nc,[.bool f],88)] [] { tmps:=#[.agg ⟨[dK nc,dJ B0,dJ B1,dJ B2,dJ B3]⟩,.agg ⟨[num x,num y,num z]⟩]++dn (aeU.ntmps - 2) undef,defers:=[] } w :=
  qF (xs:=[.agg ⟨[dK nc,dJ B0,dJ B1,dJ B2,dJ B3]⟩,.agg ⟨[num x,num y,num z]⟩]) (m:=56) rfl (by simp [hfl]) (by simp)
 refine jZ (qo x y z [r0]) [f,b] [B0,B1,B2,B3] (g:=[]) (wt:=[]) (lt:=[(3,.int .i64 2)]) (sb:=[]) (T:=[]) (K:=uI 1 2) (RT:=[]) (wb:=[]) (ws:=[]) (fr:=[.agg ⟨uM⟩,.agg ⟨[var 0,var 1,var 2]⟩]++az 56 undef) (H:=[dQ [mB 1 [.int .i64 0]] 88]) (lo:=[]) (us':=fun ng _=>dS 58 [(10,.slice (some ⟨ng.getD 1 0,0,none⟩) 1 1)]) (gs':=fun ng _=>[(nc,[.bool (f||b)],88),(ng.getD 1 0,(eP [r0]).map num,23)]) (ls':=fun _ _=>[]) 45 _ [0,2] [] [8,10] [] (fun ng nl e1 e2=>?_) (by kernel_rfl) (fun ng nl e1 e2 e3=>?_) ⟨ed _,gG,?_,fT,il _ _,fw (by simp),gH,fun _=>?_⟩ hst (dO.refl w [nc]) (fun a' w' ng nl e1 e2 e3 e4 hs hk'=>?_)
 ·match ng,nl,e1,e2 with
  | [g1,g2],[],_,_=>show (_:Option _)=_; kernel_rfl
 ·match ng,nl,e1,e2 with
  | [g1,g2],[],_,_=>simp at e3 ⊢; exact e3.1.2
 ·exact wJ hb hm hr (fun _=>by kernel_rfl) (fun _=>by kernel_rfl) (fun _ _=>by kernel_rfl)
 ·refine ⟨(fun e he=>by cases he),fun e he=>?_,fun e he=>by cases he⟩
  simp only [fG,ag,ae,or_false] at he
  subst he
  exact ⟨2,by show some (num 2)=some (.int .i64 (B3.2.1:Nat)); rw [hb.b3,hm]; rfl⟩
 ·match ng,nl,e1,e2 with
  | [g1,g2],[],_,_ =>
   have h2:=e4 g2 (by simp)
   refine KN (f:=f||b) (fun g hg=>?_) (by simp at e3 ⊢; exact e3.1.2) hs hk' fun a6 w6 s6 k6=>?_
   ·simp only [dw,dD,ag,ae,or_false] at hg
    rcases hg with rfl | rfl
    ·exact .inl (by simp)
    ·exact .inr h2.1
   ·have q1:=s6.gl _ aA
    have q2:=s6.gl _ (aT _ aA)
    exact ⟨g2,h2.1,(aB.1 q2).1,rfl,q2,uP k6 q1⟩
variable {r1:Int×Int}
theorem KO (hown:∀g∈[nc,gl]++[],g∈[nc]∨w0.heap.size≤g) (hnd:([nc,gl]++[]).Nodup) (h:dP (dS 58 [(10,.slice (some ⟨gl,0,none⟩) 2 2)]) [(nc,[.bool f],88),(gl,(eP [r0,r1]).map num,23)] [] a w) (hk:dO w0 [nc] w)
  (hQ:∀a' w',dP (dS 58 [(10,.slice (some ⟨gl,0,none⟩) 2 2)]) [(nc,[.bool f],88),(gl,(eP [iP r0,iP r1]).map num,23)] [] a' w'→dO w0 [nc] w'→R (.returned (.slice (some ⟨gl,0,none⟩) 2 2)) w') :
  ((sR 6 (dN aeU))).wp aa (bodyPost aa aeU R) a w :=
 qQ (qo 0 0 0 [r0,r1]) [f] [] (g:=[]) (wt:=[]) (lt:=[]) (sb:=[]) (T:=[]) (K:=[]) (RT:=[]) (wb:=[]) (ws:=[]) (fr:=fK 58 [(10,.slice (some ⟨1,0,none⟩) 2 2)]) (H:=[dQ [mB 1 [.int .i64 0]] 88,C9 2]) (lo:=[]) (u:=.slice (some ⟨gl,0,none⟩) 2 2) 45 [0,1] [] (by kernel_rfl) (by kernel_rfl) (by exact hnd) ⟨ed _,gG,gD,fT,il _ _,fw (by exact hown),gH,fun _=>iI⟩ h hk hQ
theorem acM {ms:List MB} (hb:kr w nc 2 B0 B3 ms) (hm:ms.length=0) (hr:gm ms (az 0 (gV x y z)) (az 2 (0,0),false) ms.length=([r0,r1],b)) (hfl:w.heap[nc]?=some (.cells #[.bool f] 88 (0,0))) :
  Calls aa 45 #[.agg ⟨[dK nc,dJ B0,dJ B1,dJ B2,dJ B3]⟩,.agg ⟨[num x,num y,num z]⟩] w (uH w nc 2 ([iP r0,iP r1],f||b)):=by
 have hnc:nc<w.heap.size:=(aB.1 hfl).1
 refine calls_of_wp Tryz.func45 (c:=(dN aeU)) (by kernel_rfl) ?_
 rw [wH]
 have hst:dP ([some (.agg ⟨[dK nc,dJ B0,dJ B1,dJ B2,dJ B3]⟩),some (.agg ⟨[num x,num y,num z]⟩)]++az 56 (some undef)) [(nc,[.bool f],88)] [] { tmps:=#[.agg ⟨[dK nc,dJ B0,dJ B1,dJ B2,dJ B3]⟩,.agg ⟨[num x,num y,num z]⟩]++dn (aeU.ntmps - 2) undef,defers:=[] } w :=
  qF (xs:=[.agg ⟨[dK nc,dJ B0,dJ B1,dJ B2,dJ B3]⟩,.agg ⟨[num x,num y,num z]⟩]) (m:=56) rfl (by simp [hfl]) (by simp)
 refine jZ (qo x y z [r0,r1]) [f,b] [B0,B1,B2,B3] (g:=[]) (wt:=[]) (lt:=[(3,.int .i64 0)]) (sb:=[]) (T:=[]) (K:=uI 2 0) (RT:=[]) (wb:=[]) (ws:=[]) (fr:=[.agg ⟨uM⟩,.agg ⟨[var 0,var 1,var 2]⟩]++az 56 undef) (H:=[dQ [mB 1 [.int .i64 0]] 88]) (lo:=[]) (us':=fun ng _=>dS 58 [(10,.slice (some ⟨ng.getD 1 0,0,none⟩) 2 2)]) (gs':=fun ng _=>[(nc,[.bool (f||b)],88),(ng.getD 1 0,(eP [r0,r1]).map num,23)]) (ls':=fun _ _=>[]) 45 _ [0,2] [] [8,10] [] (fun ng nl e1 e2=>?_) (by kernel_rfl) (fun ng nl e1 e2 e3=>?_) ⟨ed _,gG,?_,fT,il _ _,fw (by simp),gH,fun _=>?_⟩ hst (dO.refl w [nc]) (fun a' w' ng nl e1 e2 e3 e4 hs hk'=>?_)
 ·match ng,nl,e1,e2 with
  | [g1,g2],[],_,_=>show (_:Option _)=_; kernel_rfl
 ·match ng,nl,e1,e2 with
  | [g1,g2],[],_,_=>simp at e3 ⊢; exact e3.1.2
 ·exact wJ hb hm hr (fun _=>by kernel_rfl) (fun _=>by kernel_rfl) (fun _ _=>by kernel_rfl)
 ·refine ⟨(fun e he=>by cases he),fun e he=>?_,fun e he=>by cases he⟩
  simp only [fG,ag,ae,or_false] at he
  subst he
  exact ⟨2,by show some (num 0)=some (.int .i64 (B3.2.1:Nat)); rw [hb.b3,hm]; rfl⟩
 ·match ng,nl,e1,e2 with
  | [g1,g2],[],_,_ =>
   have h2:=e4 g2 (by simp)
   refine KO (f:=f||b) (fun g hg=>?_) (by simp at e3 ⊢; exact e3.1.2) hs hk' fun a6 w6 s6 k6=>?_
   ·simp only [dw,dD,ag,ae,or_false] at hg
    rcases hg with rfl | rfl
    ·exact .inl (by simp)
    ·exact .inr h2.1
   ·have q1:=s6.gl _ aA
    have q2:=s6.gl _ (aT _ aA)
    exact ⟨g2,h2.1,(aB.1 q2).1,rfl,q2,uP k6 q1⟩
theorem acN {ms:List MB} (hb:kr w nc 2 B0 B3 ms) (hm:ms.length=1) (hr:gm ms (az 1 (gV x y z)) (az 2 (0,0),false) ms.length=([r0,r1],b)) (hfl:w.heap[nc]?=some (.cells #[.bool f] 88 (0,0))) :
  Calls aa 45 #[.agg ⟨[dK nc,dJ B0,dJ B1,dJ B2,dJ B3]⟩,.agg ⟨[num x,num y,num z]⟩] w (uH w nc 2 ([iP r0,iP r1],f||b)):=by
 have hnc:nc<w.heap.size:=(aB.1 hfl).1
 refine calls_of_wp Tryz.func45 (c:=(dN aeU)) (by kernel_rfl) ?_
 rw [wH]
 have hst:dP ([some (.agg ⟨[dK nc,dJ B0,dJ B1,dJ B2,dJ B3]⟩),some (.agg ⟨[num x,num y,num z]⟩)]++az 56 (some undef)) [(nc,[.bool f],88)] [] { tmps:=#[.agg ⟨[dK nc,dJ B0,dJ B1,dJ B2,dJ B3]⟩,.agg ⟨[num x,num y,num z]⟩]++dn (aeU.ntmps - 2) undef,defers:=[] } w :=
  qF (xs:=[.agg ⟨[dK nc,dJ B0,dJ B1,dJ B2,dJ B3]⟩,.agg ⟨[num x,num y,num z]⟩]) (m:=56) rfl (by simp [hfl]) (by simp)
 refine jZ (qo x y z [r0,r1]) [f,b] [B0,B1,B2,B3] (g:=[]) (wt:=[]) (lt:=[(3,.int .i64 1)]) (sb:=[]) (T:=[]) (K:=uI 2 1) (RT:=[]) (wb:=[]) (ws:=[]) (fr:=[.agg ⟨uM⟩,.agg ⟨[var 0,var 1,var 2]⟩]++az 56 undef) (H:=[dQ [mB 1 [.int .i64 0]] 88]) (lo:=[]) (us':=fun ng _=>dS 58 [(10,.slice (some ⟨ng.getD 1 0,0,none⟩) 2 2)]) (gs':=fun ng _=>[(nc,[.bool (f||b)],88),(ng.getD 1 0,(eP [r0,r1]).map num,23)]) (ls':=fun _ _=>[]) 45 _ [0,2] [] [8,10] [] (fun ng nl e1 e2=>?_) (by kernel_rfl) (fun ng nl e1 e2 e3=>?_) ⟨ed _,gG,?_,fT,il _ _,fw (by simp),gH,fun _=>?_⟩ hst (dO.refl w [nc]) (fun a' w' ng nl e1 e2 e3 e4 hs hk'=>?_)
 ·match ng,nl,e1,e2 with
  | [g1,g2],[],_,_=>show (_:Option _)=_; kernel_rfl
 ·match ng,nl,e1,e2 with
  | [g1,g2],[],_,_=>simp at e3 ⊢; exact e3.1.2
 ·exact wJ hb hm hr (fun _=>by kernel_rfl) (fun _=>by kernel_rfl) (fun _ _=>by kernel_rfl)
 ·refine ⟨(fun e he=>by cases he),fun e he=>?_,fun e he=>by cases he⟩
  simp only [fG,ag,ae,or_false] at he
  subst he
  exact ⟨2,by show some (num 1)=some (.int .i64 (B3.2.1:Nat)); rw [hb.b3,hm]; rfl⟩
 ·match ng,nl,e1,e2 with
  | [g1,g2],[],_,_ =>
   have h2:=e4 g2 (by simp)
   refine KO (f:=f||b) (fun g hg=>?_) (by simp at e3 ⊢; exact e3.1.2) hs hk' fun a6 w6 s6 k6=>?_
   ·simp only [dw,dD,ag,ae,or_false] at hg
    rcases hg with rfl | rfl
    ·exact .inl (by simp)
    ·exact .inr h2.1
   ·have q1:=s6.gl _ aA
    have q2:=s6.gl _ (aT _ aA)
    exact ⟨g2,h2.1,(aB.1 q2).1,rfl,q2,uP k6 q1⟩
theorem acO {ms:List MB} (hb:kr w nc 2 B0 B3 ms) (hm:ms.length=2) (hr:gm ms (az 2 (gV x y z)) (az 2 (0,0),false) ms.length=([r0,r1],b)) (hfl:w.heap[nc]?=some (.cells #[.bool f] 88 (0,0))) :
  Calls aa 45 #[.agg ⟨[dK nc,dJ B0,dJ B1,dJ B2,dJ B3]⟩,.agg ⟨[num x,num y,num z]⟩] w (uH w nc 2 ([iP r0,iP r1],f||b)):=by
 have hnc:nc<w.heap.size:=(aB.1 hfl).1
 refine calls_of_wp Tryz.func45 (c:=(dN aeU)) (by kernel_rfl) ?_
 rw [wH]
 have hst:dP ([some (.agg ⟨[dK nc,dJ B0,dJ B1,dJ B2,dJ B3]⟩),some (.agg ⟨[num x,num y,num z]⟩)]++az 56 (some undef)) [(nc,[.bool f],88)] [] { tmps:=#[.agg ⟨[dK nc,dJ B0,dJ B1,dJ B2,dJ B3]⟩,.agg ⟨[num x,num y,num z]⟩]++dn (aeU.ntmps - 2) undef,defers:=[] } w :=
  qF (xs:=[.agg ⟨[dK nc,dJ B0,dJ B1,dJ B2,dJ B3]⟩,.agg ⟨[num x,num y,num z]⟩]) (m:=56) rfl (by simp [hfl]) (by simp)
 refine jZ (qo x y z [r0,r1]) [f,b] [B0,B1,B2,B3] (g:=[]) (wt:=[]) (lt:=[(3,.int .i64 2)]) (sb:=[]) (T:=[]) (K:=uI 2 2) (RT:=[]) (wb:=[]) (ws:=[]) (fr:=[.agg ⟨uM⟩,.agg ⟨[var 0,var 1,var 2]⟩]++az 56 undef) (H:=[dQ [mB 1 [.int .i64 0]] 88]) (lo:=[]) (us':=fun ng _=>dS 58 [(10,.slice (some ⟨ng.getD 1 0,0,none⟩) 2 2)]) (gs':=fun ng _=>[(nc,[.bool (f||b)],88),(ng.getD 1 0,(eP [r0,r1]).map num,23)]) (ls':=fun _ _=>[]) 45 _ [0,2] [] [8,10] [] (fun ng nl e1 e2=>?_) (by kernel_rfl) (fun ng nl e1 e2 e3=>?_) ⟨ed _,gG,?_,fT,il _ _,fw (by simp),gH,fun _=>?_⟩ hst (dO.refl w [nc]) (fun a' w' ng nl e1 e2 e3 e4 hs hk'=>?_)
 ·match ng,nl,e1,e2 with
  | [g1,g2],[],_,_=>show (_:Option _)=_; kernel_rfl
 ·match ng,nl,e1,e2 with
  | [g1,g2],[],_,_=>simp at e3 ⊢; exact e3.1.2
 ·exact wJ hb hm hr (fun _=>by kernel_rfl) (fun _=>by kernel_rfl) (fun _ _=>by kernel_rfl)
 ·refine ⟨(fun e he=>by cases he),fun e he=>?_,fun e he=>by cases he⟩
  simp only [fG,ag,ae,or_false] at he
  subst he
  exact ⟨2,by show some (num 2)=some (.int .i64 (B3.2.1:Nat)); rw [hb.b3,hm]; rfl⟩
 ·match ng,nl,e1,e2 with
  | [g1,g2],[],_,_ =>
   have h2:=e4 g2 (by simp)
   refine KO (f:=f||b) (fun g hg=>?_) (by simp at e3 ⊢; exact e3.1.2) hs hk' fun a6 w6 s6 k6=>?_
   ·simp only [dw,dD,ag,ae,or_false] at hg
    rcases hg with rfl | rfl
    ·exact .inl (by simp)
    ·exact .inr h2.1
   ·have q1:=s6.gl _ aA
    have q2:=s6.gl _ (aT _ aA)
    exact ⟨g2,h2.1,(aB.1 q2).1,rfl,q2,uP k6 q1⟩
variable {r2:Int×Int}
theorem KP (hown:∀g∈[nc,gl]++[],g∈[nc]∨w0.heap.size≤g) (hnd:([nc,gl]++[]).Nodup) (h:dP (dS 58 [(10,.slice (some ⟨gl,0,none⟩) 3 3)]) [(nc,[.bool f],88),(gl,(eP [r0,r1,r2]).map num,23)] [] a w) (hk:dO w0 [nc] w)
  (hQ:∀a' w',dP (dS 58 [(10,.slice (some ⟨gl,0,none⟩) 3 3)]) [(nc,[.bool f],88),(gl,(eP [iP r0,iP r1,iP r2]).map num,23)] [] a' w'→dO w0 [nc] w'→R (.returned (.slice (some ⟨gl,0,none⟩) 3 3)) w') :
  ((sR 6 (dN aeU))).wp aa (bodyPost aa aeU R) a w :=
 qQ (qo 0 0 0 [r0,r1,r2]) [f] [] (g:=[]) (wt:=[]) (lt:=[]) (sb:=[]) (T:=[]) (K:=[]) (RT:=[]) (wb:=[]) (ws:=[]) (fr:=fK 58 [(10,.slice (some ⟨1,0,none⟩) 3 3)]) (H:=[dQ [mB 1 [.int .i64 0]] 88,C9 3]) (lo:=[]) (u:=.slice (some ⟨gl,0,none⟩) 3 3) 45 [0,1] [] (by kernel_rfl) (by kernel_rfl) (by exact hnd) ⟨ed _,gG,gD,fT,il _ _,fw (by exact hown),gH,fun _=>iI⟩ h hk hQ
theorem acP {ms:List MB} (hb:kr w nc 3 B0 B3 ms) (hm:ms.length=0) (hr:gm ms (az 0 (gV x y z)) (az 3 (0,0),false) ms.length=([r0,r1,r2],b)) (hfl:w.heap[nc]?=some (.cells #[.bool f] 88 (0,0))) :
  Calls aa 45 #[.agg ⟨[dK nc,dJ B0,dJ B1,dJ B2,dJ B3]⟩,.agg ⟨[num x,num y,num z]⟩] w (uH w nc 3 ([iP r0,iP r1,iP r2],f||b)):=by
 have hnc:nc<w.heap.size:=(aB.1 hfl).1
 refine calls_of_wp Tryz.func45 (c:=(dN aeU)) (by kernel_rfl) ?_
 rw [wH]
 have hst:dP ([some (.agg ⟨[dK nc,dJ B0,dJ B1,dJ B2,dJ B3]⟩),some (.agg ⟨[num x,num y,num z]⟩)]++az 56 (some undef)) [(nc,[.bool f],88)] [] { tmps:=#[.agg ⟨[dK nc,dJ B0,dJ B1,dJ B2,dJ B3]⟩,.agg ⟨[num x,num y,num z]⟩]++dn (aeU.ntmps - 2) undef,defers:=[] } w :=
  qF (xs:=[.agg ⟨[dK nc,dJ B0,dJ B1,dJ B2,dJ B3]⟩,.agg ⟨[num x,num y,num z]⟩]) (m:=56) rfl (by simp [hfl]) (by simp)
 refine jZ (qo x y z [r0,r1,r2]) [f,b] [B0,B1,B2,B3] (g:=[]) (wt:=[]) (lt:=[(3,.int .i64 0)]) (sb:=[]) (T:=[]) (K:=uI 3 0) (RT:=[]) (wb:=[]) (ws:=[]) (fr:=[.agg ⟨uM⟩,.agg ⟨[var 0,var 1,var 2]⟩]++az 56 undef) (H:=[dQ [mB 1 [.int .i64 0]] 88]) (lo:=[]) (us':=fun ng _=>dS 58 [(10,.slice (some ⟨ng.getD 1 0,0,none⟩) 3 3)]) (gs':=fun ng _=>[(nc,[.bool (f||b)],88),(ng.getD 1 0,(eP [r0,r1,r2]).map num,23)]) (ls':=fun _ _=>[]) 45 _ [0,2] [] [8,10] [] (fun ng nl e1 e2=>?_) (by kernel_rfl) (fun ng nl e1 e2 e3=>?_) ⟨ed _,gG,?_,fT,il _ _,fw (by simp),gH,fun _=>?_⟩ hst (dO.refl w [nc]) (fun a' w' ng nl e1 e2 e3 e4 hs hk'=>?_)
 ·match ng,nl,e1,e2 with
  | [g1,g2],[],_,_=>show (_:Option _)=_; kernel_rfl
 ·match ng,nl,e1,e2 with
  | [g1,g2],[],_,_=>simp at e3 ⊢; exact e3.1.2
 ·exact wJ hb hm hr (fun _=>by kernel_rfl) (fun _=>by kernel_rfl) (fun _ _=>by kernel_rfl)
 ·refine ⟨(fun e he=>by cases he),fun e he=>?_,fun e he=>by cases he⟩
  simp only [fG,ag,ae,or_false] at he
  subst he
  exact ⟨2,by show some (num 0)=some (.int .i64 (B3.2.1:Nat)); rw [hb.b3,hm]; rfl⟩
 ·match ng,nl,e1,e2 with
  | [g1,g2],[],_,_ =>
   have h2:=e4 g2 (by simp)
   refine KP (f:=f||b) (fun g hg=>?_) (by simp at e3 ⊢; exact e3.1.2) hs hk' fun a6 w6 s6 k6=>?_
   ·simp only [dw,dD,ag,ae,or_false] at hg
    rcases hg with rfl | rfl
    ·exact .inl (by simp)
    ·exact .inr h2.1
   ·have q1:=s6.gl _ aA
    have q2:=s6.gl _ (aT _ aA)
    exact ⟨g2,h2.1,(aB.1 q2).1,rfl,q2,uP k6 q1⟩
theorem acQ {ms:List MB} (hb:kr w nc 3 B0 B3 ms) (hm:ms.length=1) (hr:gm ms (az 1 (gV x y z)) (az 3 (0,0),false) ms.length=([r0,r1,r2],b)) (hfl:w.heap[nc]?=some (.cells #[.bool f] 88 (0,0))) :
  Calls aa 45 #[.agg ⟨[dK nc,dJ B0,dJ B1,dJ B2,dJ B3]⟩,.agg ⟨[num x,num y,num z]⟩] w (uH w nc 3 ([iP r0,iP r1,iP r2],f||b)):=by
 have hnc:nc<w.heap.size:=(aB.1 hfl).1
 refine calls_of_wp Tryz.func45 (c:=(dN aeU)) (by kernel_rfl) ?_
 rw [wH]
 have hst:dP ([some (.agg ⟨[dK nc,dJ B0,dJ B1,dJ B2,dJ B3]⟩),some (.agg ⟨[num x,num y,num z]⟩)]++az 56 (some undef)) [(nc,[.bool f],88)] [] { tmps:=#[.agg ⟨[dK nc,dJ B0,dJ B1,dJ B2,dJ B3]⟩,.agg ⟨[num x,num y,num z]⟩]++dn (aeU.ntmps - 2) undef,defers:=[] } w :=
  qF (xs:=[.agg ⟨[dK nc,dJ B0,dJ B1,dJ B2,dJ B3]⟩,.agg ⟨[num x,num y,num z]⟩]) (m:=56) rfl (by simp [hfl]) (by simp)
 refine jZ (qo x y z [r0,r1,r2]) [f,b] [B0,B1,B2,B3] (g:=[]) (wt:=[]) (lt:=[(3,.int .i64 1)]) (sb:=[]) (T:=[]) (K:=uI 3 1) (RT:=[]) (wb:=[]) (ws:=[]) (fr:=[.agg ⟨uM⟩,.agg ⟨[var 0,var 1,var 2]⟩]++az 56 undef) (H:=[dQ [mB 1 [.int .i64 0]] 88]) (lo:=[]) (us':=fun ng _=>dS 58 [(10,.slice (some ⟨ng.getD 1 0,0,none⟩) 3 3)]) (gs':=fun ng _=>[(nc,[.bool (f||b)],88),(ng.getD 1 0,(eP [r0,r1,r2]).map num,23)]) (ls':=fun _ _=>[]) 45 _ [0,2] [] [8,10] [] (fun ng nl e1 e2=>?_) (by kernel_rfl) (fun ng nl e1 e2 e3=>?_) ⟨ed _,gG,?_,fT,il _ _,fw (by simp),gH,fun _=>?_⟩ hst (dO.refl w [nc]) (fun a' w' ng nl e1 e2 e3 e4 hs hk'=>?_)
 ·match ng,nl,e1,e2 with
  | [g1,g2],[],_,_=>show (_:Option _)=_; kernel_rfl
 ·match ng,nl,e1,e2 with
  | [g1,g2],[],_,_=>simp at e3 ⊢; exact e3.1.2
 ·exact wJ hb hm hr (fun _=>by kernel_rfl) (fun _=>by kernel_rfl) (fun _ _=>by kernel_rfl)
 ·refine ⟨(fun e he=>by cases he),fun e he=>?_,fun e he=>by cases he⟩
  simp only [fG,ag,ae,or_false] at he
  subst he
  exact ⟨2,by show some (num 1)=some (.int .i64 (B3.2.1:Nat)); rw [hb.b3,hm]; rfl⟩
 ·match ng,nl,e1,e2 with
  | [g1,g2],[],_,_ =>
   have h2:=e4 g2 (by simp)
   refine KP (f:=f||b) (fun g hg=>?_) (by simp at e3 ⊢; exact e3.1.2) hs hk' fun a6 w6 s6 k6=>?_
   ·simp only [dw,dD,ag,ae,or_false] at hg
    rcases hg with rfl | rfl
    ·exact .inl (by simp)
    ·exact .inr h2.1
   ·have q1:=s6.gl _ aA
    have q2:=s6.gl _ (aT _ aA)
    exact ⟨g2,h2.1,(aB.1 q2).1,rfl,q2,uP k6 q1⟩
theorem acR {ms:List MB} (hb:kr w nc 3 B0 B3 ms) (hm:ms.length=2) (hr:gm ms (az 2 (gV x y z)) (az 3 (0,0),false) ms.length=([r0,r1,r2],b)) (hfl:w.heap[nc]?=some (.cells #[.bool f] 88 (0,0))) :
  Calls aa 45 #[.agg ⟨[dK nc,dJ B0,dJ B1,dJ B2,dJ B3]⟩,.agg ⟨[num x,num y,num z]⟩] w (uH w nc 3 ([iP r0,iP r1,iP r2],f||b)):=by
 have hnc:nc<w.heap.size:=(aB.1 hfl).1
 refine calls_of_wp Tryz.func45 (c:=(dN aeU)) (by kernel_rfl) ?_
 rw [wH]
 have hst:dP ([some (.agg ⟨[dK nc,dJ B0,dJ B1,dJ B2,dJ B3]⟩),some (.agg ⟨[num x,num y,num z]⟩)]++az 56 (some undef)) [(nc,[.bool f],88)] [] { tmps:=#[.agg ⟨[dK nc,dJ B0,dJ B1,dJ B2,dJ B3]⟩,.agg ⟨[num x,num y,num z]⟩]++dn (aeU.ntmps - 2) undef,defers:=[] } w :=
  qF (xs:=[.agg ⟨[dK nc,dJ B0,dJ B1,dJ B2,dJ B3]⟩,.agg ⟨[num x,num y,num z]⟩]) (m:=56) rfl (by simp [hfl]) (by simp)
 refine jZ (qo x y z [r0,r1,r2]) [f,b] [B0,B1,B2,B3] (g:=[]) (wt:=[]) (lt:=[(3,.int .i64 2)]) (sb:=[]) (T:=[]) (K:=uI 3 2) (RT:=[]) (wb:=[]) (ws:=[]) (fr:=[.agg ⟨uM⟩,.agg ⟨[var 0,var 1,var 2]⟩]++az 56 undef) (H:=[dQ [mB 1 [.int .i64 0]] 88]) (lo:=[]) (us':=fun ng _=>dS 58 [(10,.slice (some ⟨ng.getD 1 0,0,none⟩) 3 3)]) (gs':=fun ng _=>[(nc,[.bool (f||b)],88),(ng.getD 1 0,(eP [r0,r1,r2]).map num,23)]) (ls':=fun _ _=>[]) 45 _ [0,2] [] [8,10] [] (fun ng nl e1 e2=>?_) (by kernel_rfl) (fun ng nl e1 e2 e3=>?_) ⟨ed _,gG,?_,fT,il _ _,fw (by simp),gH,fun _=>?_⟩ hst (dO.refl w [nc]) (fun a' w' ng nl e1 e2 e3 e4 hs hk'=>?_)
 ·match ng,nl,e1,e2 with
  | [g1,g2],[],_,_=>show (_:Option _)=_; kernel_rfl
 ·match ng,nl,e1,e2 with
  | [g1,g2],[],_,_=>simp at e3 ⊢; exact e3.1.2
 ·exact wJ hb hm hr (fun _=>by kernel_rfl) (fun _=>by kernel_rfl) (fun _ _=>by kernel_rfl)
 ·refine ⟨(fun e he=>by cases he),fun e he=>?_,fun e he=>by cases he⟩
  simp only [fG,ag,ae,or_false] at he
  subst he
  exact ⟨2,by show some (num 2)=some (.int .i64 (B3.2.1:Nat)); rw [hb.b3,hm]; rfl⟩
 ·match ng,nl,e1,e2 with
  | [g1,g2],[],_,_ =>
   have h2:=e4 g2 (by simp)
   refine KP (f:=f||b) (fun g hg=>?_) (by simp at e3 ⊢; exact e3.1.2) hs hk' fun a6 w6 s6 k6=>?_
   ·simp only [dw,dD,ag,ae,or_false] at hg
    rcases hg with rfl | rfl
    ·exact .inl (by simp)
    ·exact .inr h2.1
   ·have q1:=s6.gl _ aA
    have q2:=s6.gl _ (aT _ aA)
    exact ⟨g2,h2.1,(aB.1 q2).1,rfl,q2,uP k6 q1⟩
def iU (ms:List MB) (n:Nat) (x y z:Int):List (Int×Int)×Bool:=gm ms (az ms.length (gV x y z)) (az n (0,0),false) ms.length
theorem KY {ms:List MB} (hb:kr w nc n B0 B3 ms) (hfl:w.heap[nc]?=some (.cells #[.bool f] 88 (0,0))) :
  Calls aa 45 #[.agg ⟨[dK nc,dJ B0,dJ B1,dJ B2,dJ B3]⟩,.agg ⟨[num x,num y,num z]⟩] w (uH w nc n ((iU ms n x y z).1.map iP,f||(iU ms n x y z).2)):=by
 generalize hq:iU ms n x y z=q
 obtain ⟨rs,b⟩:=q
 have hl:rs.length=n:=by
  have:=ry ms (az ms.length (gV x y z)) (az n (0,0),false) ms.length
  unfold iU at hq
  rw [hq] at this
  simpa using this
 unfold iU at hq
 obtain ⟨n1,n2⟩:=hb.n1
 have hm:ms.length=0∨ms.length=1∨ms.length=2:=by have:=hb.m2; omega
 obtain rfl | rfl | rfl:n=1∨n=2∨n=3:=by omega
 ·match rs,hl with
  | [r0],_ =>
   rcases hm with h | h | h
   ·exact acJ hb h (by rw [h] at hq ⊢; exact hq) hfl
   ·exact acK hb h (by rw [h] at hq ⊢; exact hq) hfl
   ·exact acL hb h (by rw [h] at hq ⊢; exact hq) hfl
 ·match rs,hl with
  | [r0,r1],_ =>
   rcases hm with h | h | h
   ·exact acM hb h (by rw [h] at hq ⊢; exact hq) hfl
   ·exact acN hb h (by rw [h] at hq ⊢; exact hq) hfl
   ·exact acO hb h (by rw [h] at hq ⊢; exact hq) hfl
 ·match rs,hl with
  | [r0,r1,r2],_ =>
   rcases hm with h | h | h
   ·exact acP hb h (by rw [h] at hq ⊢; exact hq) hfl
   ·exact acQ hb h (by rw [h] at hq ⊢; exact hq) hfl
   ·exact acR hb h (by rw [h] at hq ⊢; exact hq) hfl
end Go.Proofs
end
