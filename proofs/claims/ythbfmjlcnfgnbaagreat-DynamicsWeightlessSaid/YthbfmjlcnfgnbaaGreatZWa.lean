/-
  Part of the proof: see the last text.
-/
import Derived.Test.YthbfmjlcnfgnbaaGreatZVa
import Derived.Test.YthbfmjlcnfgnbaaGreatZSc
set_option linter.unusedVariables false
set_option maxHeartbeats 8000000
open Array renaming getD_eq_getD_getElem?→bI,getElem?_eq_some_iff→aB,replicate→dn
open Go.IntKind renaming i64→bg
open Go.IntWalk renaming i64_in→dz
open List renaming getElem?_append_left→aH,getElem?_append_right→bu,getElem?_eq_getElem→ah,getElem?_eq_some_iff→ai,getElem?_of_mem→cZ,mem_cons→ag,mem_of_getElem?→aN,not_mem_nil→ae,replicate→az
open Nat renaming le_trans→aZ,lt_of_lt_of_le→aC,succ_pos→aO
open Go.Proofs.Tryz renaming f42→aff,prog→aa
open Go.World renaming cell?→bS
section
namespace Go.Proofs
open Go.Sm Go.RowKit
def kR (l:List Int) (b:Bool) (sl:Nat→Option Addr×Nat×Nat):Env:=⟨fun i=>l.getD i 0,fun _=>b,FN,FB,sl,fun _=>none,[],none⟩
def kZ (l:List Int) (b:Bool) (sl:Nat→Option Addr×Nat×Nat) (g:List (Value×Value)) (ws:List (Nat×Value×Nat×Nat)) (ls:List (Nat×Value)):Go.Sm.Xt:=⟨Tryz.xt,kR l b sl,g,[23],ws,ls,[],[]⟩
theorem Ha (l:List Int) (b:Bool) (sl:Nat→Option Addr×Nat×Nat) (g:List (Value×Value)) (ws:List (Nat×Value×Nat×Nat)) (ls:List (Nat×Value)) (h:Sat (kR l b sl) g):Go.Sm.kD aa (kZ l b sl g ws ls):=⟨CK,h,Cy _ _ _⟩
def uW (P:Program) (esc:FuncId→Nat→Bool) (l:List Int) (b:Bool) (sl:Nat→Option Addr×Nat×Nat) (g:List (Value×Value)):ig:=kQ P (kZ l b sl g [] []) esc 200 (ym 89 (vZ (kZ l b sl g [] []) vP)) 12
theorem aaY (l:List Int) (b:Bool) (sl:Nat→Option Addr×Nat×Nat):∀e∈vP,fo aa (kR l b sl) e:=fun e h=>Cw (E:=eO []) (E':=kR l b sl) rfl rfl (FE [] e h)
theorem Bo (l:List Int) (b:Bool) (sl:Nat→Option Addr×Nat×Nat) (g:List (Value×Value)) (h:Sat (kR l b sl) g):iY aa (kR l b sl) (uW aa Tryz.esc l b sl g)∧jc (uW aa Tryz.esc l b sl g) :=
 zl (X:=kZ l b sl g [] []) Tryz.mixed Tryz.ky (Ha l b sl g [] [] h) (ES En.AY (BH (X:=kZ l b sl g [] []) h _ (aaY l b sl))) (ET (BI _ _)) (Plain.start ⟨rfl,⟨rfl,rfl⟩,rfl,rfl,fun _=>rfl,rfl⟩) 12
section
variable {l:List Int} {b:Bool} {sl:Nat→Option Addr×Nat×Nat} {g:List (Value×Value)} {ws:List (Nat×Value×Nat×Nat)} {ls:List (Nat×Value)} {f:Nat} {c D:Code} {p:Pl} {fr fr':List Value} {H H' loc loc':Hp} {wg:List Nat} {x:Ex} {a:Act} {w:World} {Q:Exit→Act→World→Prop}
theorem O6 (hg:Sat (kR l b sl) g) (hrun:exec aa (kZ l b sl g ws ls) (uW aa Tryz.esc l b sl g) (Tryz.esc f) 200 c ⟨fr,H,loc,[]⟩=some (x,⟨fr',H',loc',wg⟩)) (h:Pre (kR l b sl) p fr H loc a w) (hW:kv (kZ l b sl g ws ls) (iC (kR l b sl) p w))
  (hQ:∀a' w',Post (kR l b sl) p p w fr' H' loc' a' w'→Q (vS x) a' w'):c.wp aa Q a w :=
 Yb (X:=kZ l b sl g ws ls) Tryz.mixed Tryz.ky (Ha _ _ _ _ _ _ hg) (Bo l b sl g hg).1 (Bo l b sl g hg).2 hrun h hW hQ
variable {m:Mp} {w0:World} {s s':St}
theorem LM (hg:Sat (kR l b sl) g) {m0:Mp} {H0:Hp} (hE:qb (kZ l b sl g ws ls) m0) (hrun:exec aa (kZ l b sl g ws ls) (uW aa Tryz.esc l b sl g) (Tryz.esc f) 200 c s=some (.normal,s')) (hs:jQ m0 H0 w0 s m a w) (hQ:∀m' a' w',jQ m0 H0 w0 s' m' a' w'→D.wp aa Q a' w'):(Code.seq c D).wp aa Q a w :=
 adr (X:=kZ l b sl g ws ls) Tryz.mixed Tryz.ky (Ha _ _ _ _ _ _ hg) (Bo l b sl g hg).1 (Bo l b sl g hg).2 hE hrun hs hQ
variable {vs:List Value}
theorem acW (hg:Sat (kR l b sl) g) {fn:Func} {R:Ending→World→Prop} {u:Value} (hrun:exec aa (kZ l b sl g ws ls) (uW aa Tryz.esc l b sl g) (Tryz.esc f) 200 c ⟨fr,H,loc,[]⟩=some (.ret,s')) (h:Pre (kR l b sl) p fr H loc a w) (hW:kv (kZ l b sl g ws ls) (iC (kR l b sl) p w)) (hres:qP aa s' fn.results.toList=some vs) (hu:fP (kR l b sl) p 5 (kW vs)=some u)
  (hQ:∀a' w',Post (kR l b sl) p p w s'.fr s'.H s'.loc a' w'→R (.returned u) w'):c.wp aa (bodyPost aa fn R) a w :=
 O7 (X:=kZ l b sl g ws ls) Tryz.mixed Tryz.ky (Ha _ _ _ _ _ _ hg) (Bo l b sl g hg).1 (Bo l b sl g hg).2 hrun h hW hres hu hQ
theorem aaa {l:List Int} {b:Bool} {sl:Nat→Option Addr×Nat×Nat} {g:List (Value×Value)}:kv (kZ l b sl g [] []) m:=⟨(fun e he=>by cases he),(fun e he=>by cases he),(fun e he=>by cases he)⟩
end
theorem PM {f:Value→Option Value}:∀(l r:List Value),eQ f l=some r→∀(i:Nat) (v u:Value),l[i]?=some v→r[i]?=some u→f v=some u
 | [],r,_,i,v,u,h1,_=>by simp at h1
 | x::l,r,h,i,v,u,h1,h2=>by
  unfold eQ at h
  split at h
  ·rename_i y hy
   split at h
   ·rename_i s hs
    injection h with h; subst h
    cases i with
    | zero=>simp at h1 h2; subst h1; subst h2; exact hy
    | succ i=>exact PM l s hs i v u (by simpa using h1) (by simpa using h2)
   ·cases h
  ·cases h
variable {E:Env} {p:Pl} {H:Hp} {w:World} {n:Nat}
theorem acw {fr xs ys:List Value} (hf:fr=xs++az n undef) (h:eQ (fP E p 5) xs=some ys) (hg:sw E p w H p.gp) (h1:p.gp.Nodup) (h2:p.lp=[]) (hz:qc E p [] w) (h0:∀c,E.f0=some c→p.gp[0]?=some c):Pre E p fr H [] { tmps:=ys.toArray++dn n undef,defers:=[] } w:=by
 have hl:=nR _ _ h
 refine ⟨rfl,by rw [hf]; simp [hl],fun t v u e1 e2=>.inr ?_,(sw.at _ _ hg).2,fun i b hb=>(by simp at hb),(sw.at _ _ hg).1,by rw [h2]; rfl,fun i j g e e'=>?_,fun i j g s _ e'=>(by rw [h2] at e'; simp at e'),hz,h0,fun i j g s s' bi bj e=>(by rw [h2] at e; simp at e)⟩
 ·rw [hf] at e1
  by_cases ht:t<xs.length
  ·rw [aH ht] at e1
   rw [Array.getElem?_append_left (by simp; omega)] at e2
   exact PM xs ys h t v u e1 (by simpa using e2)
  ·rw [bu (by omega)] at e1
   rw [Array.getElem?_append_right (by simp; omega)] at e2
   have e3:=aN e1
   rw [(List.mem_replicate.1 e3).2]
   have e4:u=undef:=by
    rw [Array.getElem?_replicate] at e2
    split at e2
    ·injection e2 with e2; exact e2.symm
    ·cases e2
   rw [e4]
   rfl
 ·have hi:=(ai.1 e).1
  have hj:=(ai.1 e').1
  rw [ah hi] at e
  rw [ah hj] at e'
  injection e with e; injection e' with e'
  exact (List.getElem_inj h1).1 (e.trans e'.symm)
variable {q:Pl} {w':World} {fr' vs:List Value} {H' loc':Hp} {a':Act} {i g:Nat}
theorem wX (hp:Post E p q w fr' H' loc' a' w') {s:Nat} {cells:List Value} {e:TypeId} (h1:q.lp[i]?=some (g,s)) (h2:loc'[i]?=some ⟨cells,e,0,false,true⟩) (h3:eQ (fP E q 4) cells=some vs):w'.heap[g]?=some (.cells ⟨vs⟩ e (0,0)):=by
 obtain ⟨cs,t,f,k1,_,k2,k3⟩:=hp.lo i g s _ vs h1 h2 rfl h3
 obtain ⟨r1,_⟩:=k2 rfl
 obtain ⟨r2,r3⟩:=k3 rfl
 rw [k1,r1,r2,r3]
theorem KS (hp:Post E p q w fr' H' loc' a' w') (hg:g<w.heap.size) (h1:g∉p.gp) (h2:∀(i s:Nat),p.lp[i]?=some (g,s)→(∃b,loc'[i]?=some b∧b.loose=true∧b.eD≠0)∧∃cs t f,w.heap[g]?=some (.cells cs t f)):w'.heap[g]?=w.heap[g]?:=by
 by_cases hx:∃x∈p.lp,x.1=g
 ·obtain ⟨⟨g',s⟩,hm,rfl⟩:=hx
  obtain ⟨i,hi⟩:=cZ hm
  obtain ⟨⟨b,hb,hl,_⟩,cs,t,f,hw⟩:=h2 i s hi
  obtain ⟨cs',k1,k2,k3⟩:=hp.out i g' s b hi hb hl
  have ho:uV w g'=(cs,t,f):=by simp [uV,hw]
  rw [ho] at k1 k2 k3
  simp only at k1 k2 k3
  have:cs'=cs:=by
   apply Array.ext_getElem?
   intro o
   refine k3 o fun j s' bj e1 e2 e3=>?_
   obtain ⟨⟨b2,hb2,_,hz⟩,_⟩:=h2 j s' e1
   rw [e2] at hb2; injection hb2 with hb2; subst hb2
   exact absurd e3 hz
  rw [k1,hw,this]
 ·exact hp.frame g hg h1 fun x hm e=>hx ⟨x,hm,e⟩
theorem o9 {o:Option Addr} {rows:List (List Value)} (h:En.Sl w o n rows) {r:List Value} (hi:rows[i]?=some r):∃b off,o=some ⟨b,off,none⟩∧b<w.heap.size∧∀(k:Nat) (v:Value),r[k]?=some v→w.cell? ⟨b,off+i*n+k,none⟩=some v:=by
 have hne:rows≠[]:=by intro e; rw [e] at hi; simp at hi
 obtain ⟨b,off,e,hr⟩:=h hne
 exact ⟨b,off,e,hr.lt,fun k v hk=>by have:=hr.c i r hi k v hk; rwa [Nat.add_assoc]⟩
variable {m m':Mp} {s:St} {b:eG}
theorem FL (hs:jQ m H w s m' a' w') (h:m'.lb i=some g) (hb:s.loc[i]?=some b) (h1:b.live=true) (h2:b.loose=false):m'.sh i=0:=by
 obtain ⟨_,b',hb',hL⟩:=hs.ext.rel.iN i g h
 rw [hb] at hb'; injection hb' with hb'; subst hb'
 obtain ⟨_,_,_,_,_,_,k,_⟩:=hL.blk h1
 exact (k h2).1
theorem own_ne (hs:jQ m H w s m' a' w') {j g':Nat} {b':eG} (h:m'.lb i=some g) (h':m'.lb j=some g') (hb:s.loc[i]?=some b) (hb':s.loc[j]?=some b') (h1:b.loose=false) (hij:i≠j):g≠g':=by
 intro e
 subst e
 rcases hs.ext.rel.pJ i j g b b' h h' hb hb' with r | ⟨_,_,r,_⟩
 ·exact hij r
 ·rw [h1] at r; cases r
variable {w0:World}
theorem JQ {nc:Nat} {f f':Bool} (h:jL w0 nc 88 f w) (h1:w'.os=w.os) (h2:w'.tape=w.tape) (h3:w'.output=w.output) (h4:w.heap.size≤w'.heap.size) (h5:∀g,g<w0.heap.size→g≠nc→w'.heap[g]?=w.heap[g]?) (h6:w'.heap[nc]?=some (.cells #[.bool f'] 88 (0,0))):jL w0 nc 88 f' w' :=
 ⟨h1.trans h.os,h2.trans h.tape,h3.trans h.output,aZ h.size h4,fun g hg hn=>(h5 g hg hn).trans (h.frame g hg hn),h6⟩
def dZ:Code→Code | .seq a _=>a | c=>c
def fU:Code→Code | .seq _ b=>b | c=>c
def sR:Nat→Code→Code
 | 0,c=>c
 | n+1,c=>fU (sR n c)
def sN:Code→Code | .block _ b=>b | c=>c
def yo:Code→Code | .loop b=>b | c=>c
def uT (c : Code) : Code := sN (dZ (fU (fU (yo (sN (fU (dZ (sR 5 c))))))))
def nN (c : Code) : Code := sN (dZ (fU (fU (yo (sN (fU (dZ (sR 3 (uT c)))))))))
def iW (c : Code) : Code := yo (sN (fU (dZ (fU (fU c)))))
def nP (c : Code) : Code := yo (sN (fU (fU (sN (dZ (fU (fU (iW c))))))))
def jK (c : Code) : Code := dZ (fU (fU c))
def lT (c : Code) : Code := sN (fU (yo (sN (jK c))))
def CS (c : Code) : Code := dZ (sR 3 (uT c))
def rD (c : Code) : Code := sN (dZ (fU (fU (iW c))))
def jT (c : Code) : Code := dZ (sR 5 c)
def rE (c : Code) : Code := yo (sN (fU (CS c)))
def jM (c : Code) : Code := dZ (fU c)
def qg (c : Code) : Code := dZ (sR 5 (nN c))
def uU (c : Code) : Code := yo (sN (fU (jT c)))
def kS (c : Code) : Code := dZ (sR 3 c)
def uk (c : Code) : Code := yo (sN (jK c))
def qj (c : Code) : Code := sR 6 (nN c)
def qm (c : Code) : Code := sR 4 (uT c)
def rz (c : Code) : Code := dZ (sR 6 c)
def rC (c : Code) : Code := dZ (sR 7 c)
def qN (c : Code) : Code := dZ (CS c)
def dN (fn:Func):Code:=fn.body.getD .skip
structure V6 where
 a:Int
 b:Int
 c:Int
 d:Int
 e:Int
 f:Int
def V6.cs (nc:Nat) (v:V6):List Value:=[.pointer (some ⟨nc,0,none⟩),num v.a,num v.b,num v.c,num v.d,num v.e,num v.f]
def V6.val (nc:Nat) (v:V6):Value:=.agg ⟨v.cs nc⟩
def V6.z:V6:=⟨0,0,0,0,0,0⟩
def plusV (v u:V6):V6:=⟨U4 v.a v.b v.c v.d v.e v.f u.a u.b u.c u.d u.e u.f,U5 v.a v.b v.c v.d v.e v.f u.a u.b u.c u.d u.e u.f,U6 v.a v.b v.c v.d v.e v.f u.a u.b u.c u.d u.e u.f,U7 v.a v.b v.c v.d v.e v.f u.a u.b u.c u.d u.e u.f,U8 v.a v.b v.c v.d v.e v.f u.a u.b u.c u.d u.e u.f,U9 v.a v.b v.c v.d v.e v.f u.a u.b u.c u.d u.e u.f⟩
def uZ (k:Bool) (v u:V6):Bool:=DJ k v.a v.b v.c v.d v.e v.f u.a u.b u.c u.d u.e u.f
def iK (v:V6) (r:Int×Int):V6:=⟨Ve v.a v.b v.c v.d v.e v.f r.1 r.2,Vf v.a v.b v.c v.d v.e v.f r.1 r.2,Vg v.a v.b v.c v.d v.e v.f r.1 r.2,Vh v.a v.b v.c v.d v.e v.f r.1 r.2,Vi v.a v.b v.c v.d v.e v.f r.1 r.2,Vj v.a v.b v.c v.d v.e v.f r.1 r.2⟩
def tJ (k:Bool) (v:V6) (r:Int×Int):Bool:=DR k v.a v.b v.c v.d v.e v.f r.1 r.2
def dJ (x:Option Addr×Nat×Nat):Value:=.slice x.1 x.2.1 x.2.2
def JP (rs:List (Int×Int)) (st:V6×Bool) (k:Int) (v:V6):V6×Bool :=
 (plusV st.1 (iK v (rs.getD k.toNat (0,0))),uZ (tJ st.2 v (rs.getD k.toNat (0,0))) st.1 (iK v (rs.getD k.toNat (0,0))))
def mM (rs:List (Int×Int)) (ks:List Int) (vs:List V6) (f:Bool):Nat→V6×Bool
 | 0=>(.z,f)
 | k+1=>JP rs (mM rs ks vs f k) (ks.getD k 0) (vs.getD k .z)
end Go.Proofs
end
section
namespace Go.Proofs
open Go.Sm Go.RowKit En
theorem WR:dN aff=.seq (dZ (dN aff)) (.seq (jM (dN aff)) (.seq (.seq (dZ (jK (dN aff))) (.block 0 (.loop (iW (dN aff))))) (sR 3 (dN aff)))):=by kernel_rfl
def Ri:St:=⟨[.agg ⟨[.pointer (some ⟨0,0,none⟩),dM 3,dM 4,dM 5,dM 6]⟩,.agg ⟨[var 2,dM 1,dM 2]⟩,dM 0,.pointer (some ⟨0,0,some 0⟩),.pointer (some ⟨1,0,some 0⟩),undef,.pointer (some ⟨2,0,some 0⟩),undef,undef,undef,undef,undef,undef,undef,undef,undef,undef,undef,undef,undef,undef,undef,undef,undef,undef,undef,undef,undef,undef,undef,undef,undef,undef,undef,undef],
 [⟨[mB 1 [.int .i64 (0)]],88,0,false,true⟩],
 [⟨[.pointer (some ⟨0,0,none⟩),dM 3,dM 4,dM 5,dM 6],92,0,false,true⟩,⟨[var 2,dM 1,dM 2],95,0,false,true⟩,⟨[.pointer none,.int .i64 (0),.int .i64 (0),.int .i64 (0),.int .i64 (0),.int .i64 (0),.int .i64 (0)],98,0,false,true⟩],[]⟩
def Rj:St:=⟨[.agg ⟨[.pointer (some ⟨0,0,none⟩),dM 3,dM 4,dM 5,dM 6]⟩,.agg ⟨[var 2,dM 1,dM 2]⟩,dM 0,.pointer (some ⟨0,0,some 0⟩),.pointer (some ⟨1,0,some 0⟩),undef,.pointer (some ⟨2,0,some 0⟩),.pointer (some ⟨3,0,some 0⟩),undef,undef,.pointer (some ⟨0,0,some 0⟩),.pointer (some ⟨0,0,none⟩),.agg ⟨[.pointer (some ⟨0,0,none⟩),.int .i64 (0),.int .i64 (0),.int .i64 (0),.int .i64 (0),.int .i64 (0),.int .i64 (0)]⟩,undef,undef,undef,undef,undef,undef,undef,undef,undef,undef,undef,undef,undef,undef,undef,undef,undef,undef,undef,undef,undef,undef],
 [⟨[mB 1 [.int .i64 (0)]],88,0,false,true⟩],
 [⟨[.pointer (some ⟨0,0,none⟩),dM 3,dM 4,dM 5,dM 6],92,0,false,true⟩,⟨[var 2,dM 1,dM 2],95,0,false,true⟩,⟨[.pointer none,.int .i64 (0),.int .i64 (0),.int .i64 (0),.int .i64 (0),.int .i64 (0),.int .i64 (0)],98,0,false,true⟩,⟨[.pointer (some ⟨0,0,none⟩),.int .i64 (0),.int .i64 (0),.int .i64 (0),.int .i64 (0),.int .i64 (0),.int .i64 (0)],98,0,false,true⟩],[]⟩
def adj:St:=⟨[.agg ⟨[.pointer (some ⟨0,0,none⟩),dM 3,dM 4,dM 5,dM 6]⟩,.agg ⟨[var 2,dM 1,dM 2]⟩,dM 0,.pointer (some ⟨0,0,some 0⟩),.pointer (some ⟨1,0,some 0⟩),undef,.pointer (some ⟨2,0,some 0⟩),.pointer (some ⟨3,0,some 0⟩),undef,undef,.pointer (some ⟨0,0,some 0⟩),.pointer (some ⟨0,0,none⟩),.agg ⟨[.pointer (some ⟨0,0,none⟩),.int .i64 (0),.int .i64 (0),.int .i64 (0),.int .i64 (0),.int .i64 (0),.int .i64 (0)]⟩,.pointer (some ⟨1,1,some 0⟩),dM 1,var 1,.int .i64 (0),undef,undef,undef,undef,undef,undef,undef,undef,undef,undef,undef,undef,undef,undef,undef,undef,undef,undef],
 [⟨[mB 1 [.int .i64 (0)]],88,0,false,true⟩],
 [⟨[.pointer (some ⟨0,0,none⟩),dM 3,dM 4,dM 5,dM 6],92,0,false,true⟩,⟨[var 2,dM 1,dM 2],95,0,false,true⟩,⟨[.pointer none,.int .i64 (0),.int .i64 (0),.int .i64 (0),.int .i64 (0),.int .i64 (0),.int .i64 (0)],98,0,false,true⟩,⟨[.pointer (some ⟨0,0,none⟩),.int .i64 (0),.int .i64 (0),.int .i64 (0),.int .i64 (0),.int .i64 (0),.int .i64 (0)],98,0,false,true⟩],[]⟩
def adl:St:=⟨[eu,eu,dM 0,eu,.pointer (some ⟨0,0,some 0⟩),eu,.pointer (some ⟨1,0,some 0⟩),.pointer (some ⟨2,0,some 0⟩),var 0,var 9,eu,eu,eu,eu,dM 1,var 1,mI 2 [var 0,.int .i64 (1)],.bool true,var 0,.pointer (some ⟨3,0,some 0⟩),var 9,.agg ⟨[.pointer (some ⟨0,0,none⟩),var 3,var 4,var 5,var 6,var 7,var 8]⟩,.pointer (some ⟨0,2,some 0⟩),dM 2,var 0,.pointer (some ⟨4,0,some 0⟩),.agg ⟨[.pointer (some ⟨0,0,none⟩),var 10,var 11,var 12,var 13,var 14,var 15]⟩,dM 0,var 9,.pointer (some ⟨5,0,some 0⟩),.agg ⟨[var 16,var 17]⟩,.agg ⟨[.pointer (some ⟨0,0,none⟩),mI 1246 [var 10,var 11,var 16,var 17],mI 1247 [var 10,var 11,var 16,var 17],mI 1246 [var 12,var 13,var 16,var 17],mI 1247 [var 12,var 13,var 16,var 17],mI 1246 [var 14,var 15,var 16,var 17],mI 1247 [var 14,var 15,var 16,var 17]]⟩,.agg ⟨[.pointer (some ⟨0,0,none⟩),mI 1243 [var 3,var 4,mI 1246 [var 10,var 11,var 16,var 17],mI 1247 [var 10,var 11,var 16,var 17]],mI 1244 [var 3,var 4,mI 1246 [var 10,var 11,var 16,var 17],mI 1247 [var 10,var 11,var 16,var 17]],mI 1243 [var 5,var 6,mI 1246 [var 12,var 13,var 16,var 17],mI 1247 [var 12,var 13,var 16,var 17]],mI 1244 [var 5,var 6,mI 1246 [var 12,var 13,var 16,var 17],mI 1247 [var 12,var 13,var 16,var 17]],mI 1243 [var 7,var 8,mI 1246 [var 14,var 15,var 16,var 17],mI 1247 [var 14,var 15,var 16,var 17]],mI 1244 [var 7,var 8,mI 1246 [var 14,var 15,var 16,var 17],mI 1247 [var 14,var 15,var 16,var 17]]]⟩,mI 2 [var 0,.int .i64 (1)],eu],
 [⟨[mB 27 [mB 27 [mB 27 [mB 27 [mB 27 [mB 27 [mB 1 [.int .i64 (0)],mB 26 [mB 1248 [var 10,var 11,var 16,var 17]]],mB 26 [mB 1248 [var 12,var 13,var 16,var 17]]],mB 26 [mB 1248 [var 14,var 15,var 16,var 17]]],mB 26 [mB 1245 [var 3,var 4,mI 1246 [var 10,var 11,var 16,var 17],mI 1247 [var 10,var 11,var 16,var 17]]]],mB 26 [mB 1245 [var 5,var 6,mI 1246 [var 12,var 13,var 16,var 17],mI 1247 [var 12,var 13,var 16,var 17]]]],mB 26 [mB 1245 [var 7,var 8,mI 1246 [var 14,var 15,var 16,var 17],mI 1247 [var 14,var 15,var 16,var 17]]]]],88,0,false,true⟩],
 [⟨[var 2,dM 1,dM 2],95,0,false,true⟩,⟨[.pointer none,.int .i64 (0),.int .i64 (0),.int .i64 (0),.int .i64 (0),.int .i64 (0),.int .i64 (0)],98,0,false,true⟩,⟨[.pointer (some ⟨0,0,none⟩),mI 1243 [var 3,var 4,mI 1246 [var 10,var 11,var 16,var 17],mI 1247 [var 10,var 11,var 16,var 17]],mI 1244 [var 3,var 4,mI 1246 [var 10,var 11,var 16,var 17],mI 1247 [var 10,var 11,var 16,var 17]],mI 1243 [var 5,var 6,mI 1246 [var 12,var 13,var 16,var 17],mI 1247 [var 12,var 13,var 16,var 17]],mI 1244 [var 5,var 6,mI 1246 [var 12,var 13,var 16,var 17],mI 1247 [var 12,var 13,var 16,var 17]],mI 1243 [var 7,var 8,mI 1246 [var 14,var 15,var 16,var 17],mI 1247 [var 14,var 15,var 16,var 17]],mI 1244 [var 7,var 8,mI 1246 [var 14,var 15,var 16,var 17],mI 1247 [var 14,var 15,var 16,var 17]]],98,0,false,true⟩,⟨[var 9],0,1,true,true⟩,⟨[.pointer (some ⟨0,0,none⟩),var 10,var 11,var 12,var 13,var 14,var 15],0,1,true,true⟩,⟨[var 16,var 17],0,1,true,true⟩],[0,0,0,0,0,0]⟩
def adi:St:=⟨[eu,eu,dM 0,eu,.pointer (some ⟨0,0,some 0⟩),eu,.pointer (some ⟨1,0,some 0⟩),.pointer (some ⟨2,0,some 0⟩),eu,eu,eu,eu,eu,eu,dM 1,var 1,var 0,.bool false,eu,eu,eu,eu,eu,eu,eu,eu,eu,eu,eu,eu,eu,eu,eu,eu,eu],
 [⟨[mB 1 [.int .i64 (0)]],88,0,false,true⟩],
 [⟨[var 2,dM 1,dM 2],95,0,false,true⟩,⟨[.pointer none,.int .i64 (0),.int .i64 (0),.int .i64 (0),.int .i64 (0),.int .i64 (0),.int .i64 (0)],98,0,false,true⟩,⟨[.pointer (some ⟨0,0,none⟩),var 3,var 4,var 5,var 6,var 7,var 8],98,0,false,true⟩],[]⟩
def adk:St:=⟨[eu,eu,eu,eu,eu,eu,.pointer (some ⟨0,0,some 0⟩),.pointer (some ⟨1,0,some 0⟩),eu,eu,eu,eu,eu,eu,eu,eu,eu,eu,eu,eu,eu,eu,eu,eu,eu,eu,eu,eu,eu,eu,eu,eu,eu,eu,.agg ⟨[.pointer (some ⟨0,0,none⟩),var 3,var 4,var 5,var 6,var 7,var 8]⟩],
 [⟨[mB 1 [.int .i64 (0)]],88,0,false,true⟩],
 [⟨[.pointer (some ⟨0,0,none⟩),var 3,var 4,var 5,var 6,var 7,var 8],98,0,false,true⟩,⟨[.pointer (some ⟨0,0,none⟩),var 3,var 4,var 5,var 6,var 7,var 8],98,0,false,true⟩],[]⟩
def AO:List Value:=[eu,eu,dM 0,eu,.pointer (some ⟨0,0,some 0⟩),eu,.pointer (some ⟨1,0,some 0⟩),.pointer (some ⟨2,0,some 0⟩),eu,eu,eu,eu,eu,eu,dM 1,var 1,var 0,eu,eu,eu,eu,eu,eu,eu,eu,eu,eu,eu,eu,eu,eu,eu,eu,eu,eu]
def JO:List Value:=[eu,eu,eu,eu,eu,eu,.pointer (some ⟨0,0,some 0⟩),.pointer (some ⟨1,0,some 0⟩),eu,eu,eu,eu,eu,eu,eu,eu,eu,eu,eu,eu,eu,eu,eu,eu,eu,eu,eu,eu,eu,eu,eu,eu,eu,eu,eu]
def O4:List Value:=[.agg ⟨[.pointer (some ⟨0,0,none⟩),dM 3,dM 4,dM 5,dM 6]⟩,.agg ⟨[var 2,dM 1,dM 2]⟩,dM 0,undef,undef,undef,undef,undef,undef,undef,undef,undef,undef,undef,undef,undef,undef,undef,undef,undef,undef,undef,undef,undef,undef,undef,undef,undef,undef,undef,undef,undef,undef,undef,undef]
def ui:Hp:=[⟨[mB 1 [.int .i64 0]],88,0,false,true⟩]
def E5:Hp:=[⟨[var 2,dM 1,dM 2],95,0,false,true⟩,⟨[.pointer none,.int .i64 0,.int .i64 0,.int .i64 0,.int .i64 0,.int .i64 0,.int .i64 0],98,0,false,true⟩,⟨[.pointer (some ⟨0,0,none⟩),var 3,var 4,var 5,var 6,var 7,var 8],98,0,false,true⟩,⟨[var 9],0,1,true,true⟩,⟨[.pointer (some ⟨0,0,none⟩),var 10,var 11,var 12,var 13,var 14,var 15],0,1,true,true⟩,⟨[var 16,var 17],0,1,true,true⟩]
def E8:Hp:=[⟨[var 2,dM 1,dM 2],95,0,false,true⟩,⟨[.pointer none,.int .i64 0,.int .i64 0,.int .i64 0,.int .i64 0,.int .i64 0,.int .i64 0],98,0,false,true⟩,⟨[.pointer (some ⟨0,0,none⟩),var 3,var 4,var 5,var 6,var 7,var 8],98,0,false,true⟩]
def E9:Hp:=[⟨[.pointer none,.int .i64 0,.int .i64 0,.int .i64 0,.int .i64 0,.int .i64 0,.int .i64 0],98,0,false,true⟩,⟨[.pointer (some ⟨0,0,none⟩),var 3,var 4,var 5,var 6,var 7,var 8],98,0,false,true⟩]
def Pd:List (Value×Value):=[(mB 20 [var 0,var 1],.bool true)]
def Pb:List (Value×Value):=[(mB 20 [var 0,var 1],.bool false)]
def Mr:List (Nat×Value×Nat×Nat):=[(1,var 0,1,3),(2,var 0,7,4),(0,var 9,2,5)]
theorem adb (l:List Int) (b:Bool) (sl:Nat→Option Addr×Nat×Nat):exec aa (kZ l b sl [] [] [(1,var 1)]) (uW aa Tryz.esc l b sl []) (Tryz.esc 42) 200 (dZ (dN aff)) ⟨O4,ui,[],[]⟩=some (.normal,Ri):=by kernel_rfl
theorem ade (l:List Int) (b:Bool) (sl:Nat→Option Addr×Nat×Nat):exec aa (kZ l b sl [] [] [(1,var 1)]) (uW aa Tryz.esc l b sl []) (Tryz.esc 42) 200 (jM (dN aff)) Ri=some (.normal,Rj):=by kernel_rfl
theorem adf (l:List Int) (b:Bool) (sl:Nat→Option Addr×Nat×Nat):exec aa (kZ l b sl [] [] [(1,var 1)]) (uW aa Tryz.esc l b sl []) (Tryz.esc 42) 200 (dZ (jK (dN aff))) Rj=some (.normal,adj):=by kernel_rfl
theorem ac8 (l:List Int) (b:Bool) (sl:Nat→Option Addr×Nat×Nat):exec aa (kZ l b sl Pd Mr []) (uW aa Tryz.esc l b sl Pd) (Tryz.esc 42) 200 (iW (dN aff)) ⟨AO,ui,E5,[]⟩=some (.normal,adl):=by kernel_rfl
theorem ac9 (l:List Int) (b:Bool) (sl:Nat→Option Addr×Nat×Nat):exec aa (kZ l b sl Pb [] []) (uW aa Tryz.esc l b sl Pb) (Tryz.esc 42) 200 (iW (dN aff)) ⟨AO,ui,E8,[]⟩=some (.exit 0,adi):=by kernel_rfl
theorem ada (l:List Int) (b:Bool) (sl:Nat→Option Addr×Nat×Nat):exec aa (kZ l b sl [] [] []) (uW aa Tryz.esc l b sl []) (Tryz.esc 42) 200 (sR 3 (dN aff)) ⟨JO,ui,E9,[]⟩=some (.ret,adk):=by kernel_rfl
end Go.Proofs
end
section
namespace Go.Proofs
open Go.Sm Go.RowKit En
structure FI (w0:World) (nc n4 n6 n7:Nat) (W J V:Option Addr×Nat×Nat) (wt:Int) (k:Nat) (s:V6) (f:Bool) (a:Act) (w:World):Prop where
 df:a.defers=[]
 sz:a.tmps.size=35
 s2:a.tmps[2]?=some (dJ W)
 s4:a.tmps[4]?=some (.pointer (some ⟨n4,0,none⟩))
 s6:a.tmps[6]?=some (.pointer (some ⟨n6,0,none⟩))
 s7:a.tmps[7]?=some (.pointer (some ⟨n7,0,none⟩))
 Rh:a.tmps[14]?=some (dJ J)
 s15:a.tmps[15]?=some (.int .i64 (J.2.1:Nat))
 s16:a.tmps[16]?=some (.int .i64 (k:Nat))
 b4:w.heap[n4]?=some (.cells ⟨[num wt,dJ J,dJ V]⟩ 95 (0,0))
 b6:w.heap[n6]?=some (.cells ⟨[.pointer none,num 0,num 0,num 0,num 0,num 0,num 0]⟩ 98 (0,0))
 b7:w.heap[n7]?=some (.cells ⟨s.cs nc⟩ 98 (0,0))
 fl:jL w0 nc 88 f w
def zW (W J V:Option Addr×Nat×Nat) (B:List (Option Addr×Nat×Nat)):Nat→Option Addr×Nat×Nat:=fun k=>(W::J::V::B).getD k (none,0,0)
theorem Ur {l:List Int} {b:Bool} {sl:Nat→Option Addr×Nat×Nat} {r:Bool} (h:decide (l.getD 0 0<l.getD 1 0)=r):Sat (kR l b sl) [(mB 20 [var 0,var 1],.bool r)] :=
 o7 ⟨300,.bool r,(show eF (kR l b sl) 300 (mB 20 [var 0,var 1])=some (.bool (decide (l.getD 0 0<l.getD 1 0))) by kernel_rfl).trans (by rw [h]),rfl⟩ (ed _)
theorem X8 (w0:World) (nc n4 n6 n7:Nat) (W J V:Option Addr×Nat×Nat) (B:List (Option Addr×Nat×Nat)) (wt:Int) (k:Nat) (s:V6) (f:Bool) (a:Act) (w:World) (hI:FI w0 nc n4 n6 n7 W J V wt k s f a w)
  (hnc:nc<w0.heap.size) (h4:w0.heap.size≤n4) (h6:w0.heap.size≤n6) (h7:w0.heap.size≤n7) (h46:n4≠n6) (h47:n4≠n7) (h67:n6≠n7) (hk:k<J.2.1) (hk2:k<1000000) (j:Int) (v:V6) (r:Int×Int)
  (bJ oJ bV oV bW oW:Nat) (eJ:J.1=some ⟨bJ,oJ,none⟩) (eV:V.1=some ⟨bV,oV,none⟩) (eW:W.1=some ⟨bW,oW,none⟩) (lJ:bJ<w0.heap.size) (lV:bV<w0.heap.size) (lW:bW<w0.heap.size) (nJ:bJ≠nc) (nV:bV≠nc) (nW:bW≠nc)
  (hVl:k<V.2.1) (hj0:0≤j) (hjW:j<W.2.1)
  (cJ:∀(q:Nat) (u:Value),[num j][q]?=some u→w0.cell? ⟨bJ,oJ+k*1+q,none⟩=some u) (cV:∀(q:Nat) (u:Value),(v.cs nc)[q]?=some u→w0.cell? ⟨bV,oV+k*7+q,none⟩=some u) (cW:∀(q:Nat) (u:Value),[num r.1,num r.2][q]?=some u→w0.cell? ⟨bW,oW+j.toNat*2+q,none⟩=some u) (Q:Exit→Act→World→Prop)
  (hQ:∀a' w',FI w0 nc n4 n6 n7 W J V wt (k+1) (plusV s (iK v r)) (uZ (tJ f v r) s (iK v r)) a' w'→Q .normal a' w') :
  (iW (dN aff)).wp aa Q a w:=by
 obtain ⟨W1,W2,W3⟩:=W
 obtain ⟨J1,J2,J3⟩:=J
 obtain ⟨V1,V2,V3⟩:=V
 simp only at eJ eV eW hk hVl hjW
 subst eJ eV eW
 have cellw:∀b o,b<w0.heap.size→b≠nc→w.cell? ⟨b,o,none⟩=w0.cell? ⟨b,o,none⟩:=fun b o h1 h2=>by simp [bS,hI.fl.frame b h1 h2]
 have hlt4:n4≠nc:=by omega
 have hpre:Pre (kR [k,J2,wt,s.a,s.b,s.c,s.d,s.e,s.f,j,v.a,v.b,v.c,v.d,v.e,v.f,r.1,r.2] f (zW (some ⟨bW,oW,none⟩,W2,W3) (some ⟨bJ,oJ,none⟩,J2,J3) (some ⟨bV,oV,none⟩,V2,V3) B)) ⟨[nc],[(n4,0),(n6,0),(n7,0),(bJ,oJ+k*1),(bV,oV+k*7),(bW,oW+j.toNat*2)]⟩ AO ui E5 a w:=by
  refine Pre.Kw hI.df (by rw [hI.sz]; rfl) ?_ ?_ ?_ (by simp) ?_ ?_ (EM fun _=>rfl) (fun c hc=>by cases hc)
  ·simp only [AO,wo]
   exact ⟨.inl rfl,.inl rfl,.inr ⟨_,rfl,hI.s2⟩,.inl rfl,.inr ⟨_,rfl,hI.s4⟩,.inl rfl,.inr ⟨_,rfl,hI.s6⟩,.inr ⟨_,rfl,hI.s7⟩,.inl rfl,.inl rfl,.inl rfl,.inl rfl,.inl rfl,.inl rfl,.inr ⟨_,rfl,hI.Rh⟩,.inr ⟨_,rfl,hI.s15⟩,.inr ⟨_,rfl,hI.s16⟩,.inl rfl,.inl rfl,.inl rfl,.inl rfl,.inl rfl,.inl rfl,.inl rfl,.inl rfl,.inl rfl,.inl rfl,.inl rfl,.inl rfl,.inl rfl,.inl rfl,.inl rfl,.inl rfl,.inl rfl,.inl rfl,trivial⟩
  ·simp only [ui,sw]
   exact ⟨⟨⟨trivial,trivial,trivial,rfl⟩,_,rfl,hI.fl.flag⟩,trivial⟩
  ·simp only [E5,wy]
   exact ⟨yn rfl hI.b4,yn rfl hI.b6,yn rfl hI.b7,Ka (r:=[num j]) rfl (aO _) (fun q u h=>(cellw _ _ lJ nJ).trans (cJ q u h)),Ka (r:=v.cs nc) rfl (aO _) (fun q u h=>(cellw _ _ lV nV).trans (cV q u h)),Ka (r:=[num r.1,num r.2]) rfl (aO _) (fun q u h=>(cellw _ _ lW nW).trans (cW q u h)),trivial⟩
  ·intro g hg x hx
   simp at hg hx
   subst hg
   rcases hx with rfl | rfl | rfl | rfl | rfl | rfl<;>simp<;>omega
  ·simp [E5,D8]
   omega
 have hblk:∀b o u,b<w0.heap.size→b≠nc→w0.cell? ⟨b,o,none⟩=some u→∃cs t f,w.heap[b]?=some (.cells cs t f):=fun b o u h1 h2 h3=>by
  obtain ⟨cs,t,f,h,_⟩:=tZ ((cellw b o h1 h2).trans h3)
  exact ⟨cs,t,f,h⟩
 refine O6 (ws:=Mr) (ls:=[]) (Ur (r:=true) (decide_eq_true (by show (k:Int)<(J2:Int); omega))) (ac8 _ _ _) hpre ?_ fun a' w' hp=>hQ a' w' ?_
 ·refine ⟨fun e he=>?_,(fun e he=>by cases he),fun e he=>by cases he⟩
  simp only [kZ,Mr,ag,ae,or_false] at he
  rcases he with rfl | rfl | rfl
  ·exact ⟨⟨bJ,oJ,none⟩,J2,J3,(k:Int),2,rfl,rfl,rfl,by omega,by omega,rfl,by simp [iC]⟩
  ·exact ⟨⟨bV,oV,none⟩,V2,V3,(k:Int),2,rfl,rfl,rfl,by omega,by omega,rfl,by simp [iC]⟩
  ·exact ⟨⟨bW,oW,none⟩,W2,W3,j,2,rfl,rfl,rfl,hj0,hjW,rfl,by simp [iC]⟩
 ·have e16:bg.wrap ((k:Int)+1)=((k+1:Nat):Int):=by rw [dz _ (by omega)]; omega
  refine ⟨hp.df,hp.lu,hp.fr 2 _ _ rfl rfl,hp.fr 4 _ _ rfl rfl,hp.fr 6 _ _ rfl rfl,hp.fr 7 _ _ rfl rfl,hp.fr 14 _ _ rfl rfl,hp.fr 15 _ _ rfl rfl,?_,wX hp (i:=0) rfl rfl rfl,wX hp (i:=1) rfl rfl rfl,wX hp (i:=2) rfl rfl (by kernel_rfl),?_⟩
  ·rw [←e16]; exact hp.fr 16 _ _ rfl rfl
  ·refine JQ hI.fl hp.os hp.tape hp.output hp.size (fun g hg hne=>KS hp (aC hg hI.fl.size) (by simpa using hne) fun i s' hi=>?_) (hp.gl 0 nc _ _ rfl rfl rfl (by kernel_rfl))
   match i,hi with
   | 0,hi=>simp at hi; omega
   | 1,hi=>simp at hi; omega
   | 2,hi=>simp at hi; omega
   | 3,hi=>simp at hi; obtain ⟨rfl,_⟩:=hi; exact ⟨⟨_,rfl,rfl,by decide⟩,hblk _ _ _ lJ nJ (cJ 0 _ rfl)⟩
   | 4,hi=>simp at hi; obtain ⟨rfl,_⟩:=hi; exact ⟨⟨_,rfl,rfl,by decide⟩,hblk _ _ _ lV nV (cV 0 _ rfl)⟩
   | 5,hi=>simp at hi; obtain ⟨rfl,_⟩:=hi; exact ⟨⟨_,rfl,rfl,by decide⟩,hblk _ _ _ lW nW (cW 0 _ rfl)⟩
   | _+6,hi=>simp at hi
theorem X6 (w0:World) (nc n4 n6 n7:Nat) (W J V:Option Addr×Nat×Nat) (B:List (Option Addr×Nat×Nat)) (wt:Int) (k:Nat) (s:V6) (f:Bool) (a:Act) (w:World) (hI:FI w0 nc n4 n6 n7 W J V wt k s f a w)
  (hnc:nc<w0.heap.size) (h4:w0.heap.size≤n4) (h6:w0.heap.size≤n6) (h7:w0.heap.size≤n7) (h46:n4≠n6) (h47:n4≠n7) (h67:n6≠n7) (hk:¬k<J.2.1) (Q:Exit→Act→World→Prop)
  (hQ:∀a' w',FI w0 nc n4 n6 n7 W J V wt k s f a' w'→Q (.exit 0) a' w') :
  (iW (dN aff)).wp aa Q a w:=by
 have hpre:Pre (kR [k,J.2.1,wt,s.a,s.b,s.c,s.d,s.e,s.f] f (zW W J V B)) ⟨[nc],[(n4,0),(n6,0),(n7,0)]⟩ AO ui E8 a w:=by
  refine Pre.Kw hI.df (by rw [hI.sz]; rfl) ?_ ?_ ?_ (by simp) ?_ ?_ (EM fun _=>rfl) (fun c hc=>by cases hc)
  ·simp only [AO,wo]
   exact ⟨.inl rfl,.inl rfl,.inr ⟨_,rfl,hI.s2⟩,.inl rfl,.inr ⟨_,rfl,hI.s4⟩,.inl rfl,.inr ⟨_,rfl,hI.s6⟩,.inr ⟨_,rfl,hI.s7⟩,.inl rfl,.inl rfl,.inl rfl,.inl rfl,.inl rfl,.inl rfl,.inr ⟨_,rfl,hI.Rh⟩,.inr ⟨_,rfl,hI.s15⟩,.inr ⟨_,rfl,hI.s16⟩,.inl rfl,.inl rfl,.inl rfl,.inl rfl,.inl rfl,.inl rfl,.inl rfl,.inl rfl,.inl rfl,.inl rfl,.inl rfl,.inl rfl,.inl rfl,.inl rfl,.inl rfl,.inl rfl,.inl rfl,.inl rfl,trivial⟩
  ·simp only [ui,sw]
   exact ⟨⟨⟨trivial,trivial,trivial,rfl⟩,_,rfl,hI.fl.flag⟩,trivial⟩
  ·simp only [E8,wy]
   exact ⟨yn rfl hI.b4,yn rfl hI.b6,yn rfl hI.b7,trivial⟩
  ·intro g hg x hx
   simp at hg hx
   subst hg
   rcases hx with rfl | rfl | rfl<;>simp<;>omega
  ·simp [E8,D8]
   omega
 refine O6 (ws:=[]) (ls:=[]) (Ur (r:=false) (decide_eq_false (by show ¬(k:Int)<(J.2.1:Int); omega))) (ac9 _ _ _) hpre ⟨(fun e he=>by cases he),(fun e he=>by cases he),(fun e he=>by cases he)⟩ fun a' w' hp=>hQ a' w' ?_
 refine ⟨hp.df,hp.lu,hp.fr 2 _ _ rfl rfl,hp.fr 4 _ _ rfl rfl,hp.fr 6 _ _ rfl rfl,hp.fr 7 _ _ rfl rfl,hp.fr 14 _ _ rfl rfl,hp.fr 15 _ _ rfl rfl,hp.fr 16 _ _ rfl rfl,wX hp (i:=0) rfl rfl rfl,wX hp (i:=1) rfl rfl rfl,wX hp (i:=2) rfl rfl rfl,?_⟩
 refine JQ hI.fl hp.os hp.tape hp.output hp.size (fun g hg hne=>KS hp (aC hg hI.fl.size) (by simpa using hne) fun i s' hi=>?_) (hp.gl 0 nc _ _ rfl rfl rfl rfl)
 match i,hi with
 | 0,hi=>simp at hi; omega
 | 1,hi=>simp at hi; omega
 | 2,hi=>simp at hi; omega
 | _+3,hi=>simp at hi
def Hm (w0:World) (nc:Nat) (s:V6) (f:Bool) (e:Ending) (w':World):Prop:=e=.returned (s.val nc)∧jL w0 nc 88 f w'
theorem X7 (w0:World) (nc n4 n6 n7:Nat) (W J V:Option Addr×Nat×Nat) (wt:Int) (k:Nat) (s:V6) (f:Bool) (a:Act) (w:World) (hI:FI w0 nc n4 n6 n7 W J V wt k s f a w)
  (hnc:nc<w0.heap.size) (h6:w0.heap.size≤n6) (h7:w0.heap.size≤n7) (h67:n6≠n7) :
  (sR 3 (dN aff)).wp aa (bodyPost aa aff (Hm w0 nc s f)) a w:=by
 have hpre:Pre (kR [k,J.2.1,wt,s.a,s.b,s.c,s.d,s.e,s.f] f (zW W J V [])) ⟨[nc],[(n6,0),(n7,0)]⟩ JO ui E9 a w:=by
  refine Pre.Kw hI.df (by rw [hI.sz]; rfl) ?_ ?_ ?_ (by simp) ?_ ?_ (EM fun _=>rfl) (fun c hc=>by cases hc)
  ·simp only [JO,wo]
   exact ⟨.inl rfl,.inl rfl,.inl rfl,.inl rfl,.inl rfl,.inl rfl,.inr ⟨_,rfl,hI.s6⟩,.inr ⟨_,rfl,hI.s7⟩,.inl rfl,.inl rfl,.inl rfl,.inl rfl,.inl rfl,.inl rfl,.inl rfl,.inl rfl,.inl rfl,.inl rfl,.inl rfl,.inl rfl,.inl rfl,.inl rfl,.inl rfl,.inl rfl,.inl rfl,.inl rfl,.inl rfl,.inl rfl,.inl rfl,.inl rfl,.inl rfl,.inl rfl,.inl rfl,.inl rfl,.inl rfl,trivial⟩
  ·simp only [ui,sw]
   exact ⟨⟨⟨trivial,trivial,trivial,rfl⟩,_,rfl,hI.fl.flag⟩,trivial⟩
  ·simp only [E9,wy]
   exact ⟨yn rfl hI.b6,yn rfl hI.b7,trivial⟩
  ·intro g hg x hx
   simp at hg hx
   subst hg
   rcases hx with rfl | rfl<;>simp<;>omega
  ·simp [E9,D8]
   omega
 refine acW (ws:=[]) (ls:=[]) (ed _) (ada _ _ _) hpre aaa (vs:=[.agg ⟨[.pointer (some ⟨0,0,none⟩),var 3,var 4,var 5,var 6,var 7,var 8]⟩]) (by kernel_rfl) (u:=s.val nc) rfl fun a' w' hp=>⟨rfl,?_⟩
 refine JQ hI.fl hp.os hp.tape hp.output hp.size (fun g hg hne=>KS hp (aC hg hI.fl.size) (by simpa using hne) fun i s' hi=>?_) (hp.gl 0 nc _ _ rfl rfl rfl rfl)
 match i,hi with
 | 0,hi=>simp at hi; omega
 | 1,hi=>simp at hi; omega
 | _+2,hi=>simp at hi
theorem getD_some {α:Type} {l:List α} {i:Nat} {x d:α} (h:l[i]?=some x):l.getD i d=x:=by simp [List.getD,h]
theorem X5 (nc:Nat) (f:Bool) (W J V B3 B4 B5 B6:Option Addr×Nat×Nat) (wt:Int) (w:World) (rs:List (Int×Int)) (ks:List Int) (vs:List V6)
  (hJn:J.2.1=ks.length) (hVn:V.2.1=vs.length) (hWn:W.2.1=rs.length) (hvl:vs.length=ks.length) (h100:ks.length≤1000)
  (hJ:Sl w J.1 1 (fF ks)) (hV:Sl w V.1 7 (vs.map (V6.cs nc))) (hW:Sl w W.1 2 (rH rs)) (hks:∀(i:Nat) (k:Int),ks[i]?=some k→0≤k∧k<rs.length)
  (hfl:w.heap[nc]?=some (.cells #[.bool f] 88 (0,0))) (aJ:∀a,J.1=some a→a.block≠nc) (aV:∀a,V.1=some a→a.block≠nc) (aW:∀a,W.1=some a→a.block≠nc) :
  Calls aa 42 #[.agg ⟨[.pointer (some ⟨nc,0,none⟩),dJ B3,dJ B4,dJ B5,dJ B6]⟩,.agg ⟨[num wt,dJ J,dJ V]⟩,dJ W] w (Hm w nc (mM rs ks vs f ks.length).1 (mM rs ks vs f ks.length).2):=by
 have hnc:nc<w.heap.size:=(aB.1 hfl).1
 refine calls_of_wp Tryz.func42 (c:=dN aff) (by kernel_rfl) ?_
 have hpre:Pre (kR [0,J.2.1,wt] f (zW W J V [B3,B4,B5,B6])) ⟨[nc],[]⟩ O4 ui [] { tmps:=#[.agg ⟨[.pointer (some ⟨nc,0,none⟩),dJ B3,dJ B4,dJ B5,dJ B6]⟩,.agg ⟨[num wt,dJ J,dJ V]⟩,dJ W]++dn (aff.ntmps - 3) undef,defers:=[] } w:=by
  refine acw (xs:=[.agg ⟨[.pointer (some ⟨0,0,none⟩),dM 3,dM 4,dM 5,dM 6]⟩,.agg ⟨[var 2,dM 1,dM 2]⟩,dM 0]) (ys:=[.agg ⟨[.pointer (some ⟨nc,0,none⟩),dJ B3,dJ B4,dJ B5,dJ B6]⟩,.agg ⟨[num wt,dJ J,dJ V]⟩,dJ W]) (by kernel_rfl) (by kernel_rfl) ?_ (by simp) rfl (EM fun _=>rfl) (fun c hc=>by cases hc)
  simp only [ui,sw]
  exact ⟨⟨⟨trivial,trivial,trivial,rfl⟩,_,rfl,hfl⟩,trivial⟩
 rw [WR]
 have hE:qb (kZ [0,J.2.1,wt] f (zW W J V [B3,B4,B5,B6]) [] [] [(1,var 1)]) (iC (kR [0,J.2.1,wt] f (zW W J V [B3,B4,B5,B6])) ⟨[nc],[]⟩ w):=by
  refine ⟨rfl,(fun e he=>by cases he),(fun e he=>?_),fun e he=>by cases he⟩
  simp only [kZ,ag,ae,or_false] at he
  subst he
  exact ⟨2,rfl⟩
 refine LM (ed _) hE (adb _ _ _) hpre.GH fun m1 a1 w1 h1=>?_
 refine LM (ed _) hE (ade _ _ _) h1 fun m2 a2 w2 h2=>?_
 refine wp_seq ?_
 refine LM (ed _) hE (adf _ _ _) h2 fun m3 a3 w3 h3=>?_
 clear h1 h2
 obtain ⟨g3,p3,q3⟩:=GL h3 (t:=3) (i:=0) (o:=0) rfl
 obtain ⟨g4,p4,q4⟩:=GL h3 (t:=4) (i:=1) (o:=0) rfl
 obtain ⟨g6,p6,q6⟩:=GL h3 (t:=6) (i:=2) (o:=0) rfl
 obtain ⟨g7,p7,q7⟩:=GL h3 (t:=7) (i:=3) (o:=0) rfl
 have z3:=FL h3 p3 rfl rfl rfl
 have z4:=FL h3 p4 rfl rfl rfl
 have z6:=FL h3 p6 rfl rfl rfl
 have z7:=FL h3 p7 rfl rfl rfl
 have n46:g4≠g6:=own_ne h3 p4 p6 rfl rfl rfl (by decide)
 have n47:g4≠g7:=own_ne h3 p4 p7 rfl rfl rfl (by decide)
 have n67:g6≠g7:=own_ne h3 p6 p7 rfl rfl rfl (by decide)
 have l4:=(Kn h3 p4 rfl).1
 have l6:=(Kn h3 p6 rfl).1
 have l7:=(Kn h3 p7 rfl).1
 have hA0:=(vF (kR [0,J.2.1,wt] f (zW W J V [B3,B4,B5,B6])) ⟨[nc],[]⟩ w).mono h3.ext.le
 have hA:At ⟨[nc],[(g3,0),(g4,0),(g6,0),(g7,0)]⟩ m3:=by
  refine ⟨hA0.gb,hA0.lo,fun i x hi=>?_⟩
  match i,hi with
  | 0,hi=>simp at hi; subst hi; exact ⟨p3,z3⟩
  | 1,hi=>simp at hi; subst hi; exact ⟨p4,z4⟩
  | 2,hi=>simp at hi; subst hi; exact ⟨p6,z6⟩
  | 3,hi=>simp at hi; subst hi; exact ⟨p7,z7⟩
  | _+4,hi=>simp at hi
 have hp:=Bt hpre h3 hA (fun i x hi=>by simp at hi)
 have hI0:FI w nc g4 g6 g7 W J V wt 0 (mM rs ks vs f 0).1 (mM rs ks vs f 0).2 a3 w3:=by
  refine ⟨hp.df,hp.lu,hp.fr 2 _ _ rfl rfl,hp.fr 4 _ _ rfl rfl,hp.fr 6 _ _ rfl rfl,hp.fr 7 _ _ rfl rfl,hp.fr 14 _ _ rfl rfl,hp.fr 15 _ _ rfl rfl,hp.fr 16 _ _ rfl rfl,wX hp (i:=1) rfl rfl rfl,wX hp (i:=2) rfl rfl rfl,wX hp (i:=3) rfl rfl rfl,?_⟩
  exact ⟨hp.os,hp.tape,hp.output,hp.size,fun g hg hne=>hp.frame g hg (by simpa using hne) (by simp),hp.gl 0 nc _ _ rfl rfl rfl rfl⟩
 clear hp hA hA0 h3 hpre hE p3 p4 p6 p7 q3 q4 q6 q7 z3 z4 z6 z7
 refine wp_block ?_
 refine wp_loop (fun a w'=>∃k,k≤ks.length∧FI w nc g4 g6 g7 W J V wt k (mM rs ks vs f k).1 (mM rs ks vs f k).2 a w') (fun a _=>ks.length - (intOf (a.tmps.getD 16 undef)).toNat) ⟨0,Nat.zero_le _,hI0⟩ ?_
 clear hI0
 rintro a w' ⟨k,hk,hI⟩
 have hm:(intOf (a.tmps.getD 16 undef)).toNat=k:=by
  rw [bI,hI.s16]; simp [intOf]
 by_cases hlt:k<ks.length
 ·obtain ⟨j,hj⟩:∃j,ks[k]?=some j:=⟨_,ah hlt⟩
  obtain ⟨v,hv⟩:∃v,vs[k]?=some v:=⟨_,ah (by omega)⟩
  obtain ⟨hj0,hj1⟩:=hks k j hj
  obtain ⟨r,hr⟩:∃r,rs[j.toNat]?=some r:=⟨_,ah (by omega)⟩
  obtain ⟨bJ,oJ,eJ,lJ,cJ⟩:=o9 hJ (yz hj)
  obtain ⟨bV,oV,eV,lV,cV⟩:=o9 hV (show (vs.map (V6.cs nc))[k]?=some (v.cs nc) by simp [hv])
  obtain ⟨bW,oW,eW,lW,cW⟩:=o9 hW (K6 hr)
  refine X8 w nc g4 g6 g7 W J V [] wt k _ _ a w' hI hnc l4 l6 l7 n46 n47 n67 (by omega) (by omega) j v r bJ oJ bV oV bW oW eJ eV eW lJ lV lW (aJ _ eJ) (aV _ eV) (aW _ eW) (by omega) hj0 (by omega) cJ cV cW _ fun a' w2 hI'=>?_
  refine ⟨⟨k+1,by omega,?_⟩,?_⟩
  ·have e:mM rs ks vs f (k+1)=(plusV (mM rs ks vs f k).1 (iK v r),uZ (tJ (mM rs ks vs f k).2 v r) (mM rs ks vs f k).1 (iK v r)):=by
    simp only [mM,JP,getD_some hj,getD_some hv,getD_some hr]
   rw [e]
   exact hI'
  ·have hm':(intOf (a'.tmps.getD 16 undef)).toNat=k+1:=by
    rw [bI,hI'.s16]; simp [intOf]
   simp only [hm,hm']
   omega
 ·have hkn:k=ks.length:=by omega
  subst hkn
  refine X6 w nc g4 g6 g7 W J V [] wt _ _ _ a w' hI hnc l4 l6 l7 n46 n47 n67 (by omega) _ fun a' w2 hI'=>?_
  exact X7 w nc g4 g6 g7 W J V wt _ _ _ a' w2 hI' hnc l6 l7 n67
end Go.Proofs
end
