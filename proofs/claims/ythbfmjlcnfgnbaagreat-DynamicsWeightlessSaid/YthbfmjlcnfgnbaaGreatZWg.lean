/-
  Part of the proof: see the last text.
-/
import Derived.Test.YthbfmjlcnfgnbaaGreatZWf
set_option linter.unusedVariables false
set_option maxHeartbeats 8000000
open Array renaming getD_eq_getD_getElem?→bI,getElem?_eq_some_iff→aB,replicate→dn
open Go.IntKind renaming i64→bg
open Go.IntWalk renaming i64_in→dz
open List renaming cons_append→dw,getElem?_append_left→aH,getElem?_append_right→bu,getElem?_eq_getElem→ah,getElem?_eq_some_iff→ai,getElem?_map→bY,mem_cons→ag,mem_cons_of_mem→aT,mem_cons_self→aA,mem_of_getElem?→aN,nil_append→dD,nodup_append→afe,not_mem_nil→ae,replicate→az
open Nat renaming beq→ay,eq_of_beq_eq_true→bf,le_of_not_lt→afb,le_trans→aZ
open Option renaming map_eq_some_iff→aR
open Option.some renaming injEq→ak
open Go.Proofs.Tryz renaming f44→bE,prog→aa
section
namespace Go.Proofs
open Go.Sm Go.RowKit En
structure MB where
 wt:Int
 ks:List Int
 vs:List V6
 J:dY
 V:dY
def MB.row (m:MB):List Value:=[num m.wt,dJ m.J,dJ m.V]
structure sD (w:World) (nc n:Nat) (m:MB):Prop where
 w1:1≤m.wt
 w2:m.wt≤1000000000
 j:m.J.2.1=m.ks.length
 v:m.V.2.1=m.vs.length
 l:m.vs.length=m.ks.length
 l3:m.ks.length≤1000
 ks:∀(i:Nat) (k:Int),m.ks[i]?=some k→0≤k∧k<n
 qU:Sl w m.J.1 1 (fF m.ks)
 dJ:Sl w m.V.1 7 (m.vs.map (V6.cs nc))
 aJ:∀a,m.J.1=some a→a.block≠nc
 aV:∀a,m.V.1=some a→a.block≠nc
def jI (m:MB) (u:V6) (st:List (Int×Int)×Bool):Nat→List (Int×Int)×Bool
 | 0=>st
 | i+1=>vg (jI m u st i).1 (jI m u st i).2 (m.ks.getD i 0).toNat (m.vs.getD i .z) u m.wt
def MB.z:MB:=⟨1,[],[],(none,0,0),(none,0,0)⟩
def gm (ms:List MB) (us:List V6) (st:List (Int×Int)×Bool):Nat→List (Int×Int)×Bool
 | 0=>st
 | k+1=>jI (ms.getD k .z) (us.getD k .z) (gm ms us st k) (ms.getD k .z).ks.length
theorem Kk (m:MB) (u:V6) (st:List (Int×Int)×Bool):∀i,(jI m u st i).1.length=st.1.length
 | 0=>rfl
 | i+1=>by simp only [jI,vg,List.length_set]; exact Kk m u st i
theorem ry (ms:List MB) (us:List V6) (st:List (Int×Int)×Bool):∀k,(gm ms us st k).1.length=st.1.length
 | 0=>rfl
 | k+1=>by simp only [gm]; rw [Kk]; exact ry ms us st k
def uH (w0:World) (nc n:Nat) (st:List (Int×Int)×Bool) (e:Ending) (w':World):Prop:=∃gl,w0.heap.size≤gl∧gl<w'.heap.size∧e=.returned (.slice (some ⟨gl,0,none⟩) n n)∧w'.heap[gl]?=some (.cells ⟨(eP st.1).map num⟩ 23 (0,0))∧jL w0 nc 88 st.2 w'
variable {gs:List gQ} {w:World}
theorem qF {us:List (Option Value)} {xs:List Value} {m:Nat} (hu:us=xs.map some++az m (some undef)) (hg:∀x∈gs,w.heap[x.1]?=some (.cells ⟨x.2.1⟩ x.2.2 (0,0))) (hn:(gs.map (·.1)).Nodup):dP us gs [] { tmps:=xs.toArray++dn m undef,defers:=[] } w:=by
 refine ⟨rfl,by rw [hu]; simp,fun t u e=>?_,hg,fun x hx=>(by cases hx),by simpa using hn⟩
 rw [hu] at e
 by_cases ht:t<xs.length
 ·rw [aH (by simpa using ht)] at e
  simp only [bY,aR,ak] at e
  obtain ⟨v,v1,rfl⟩:=e
  rw [Array.getElem?_append_left (by simpa using ht)]
  simpa using v1
 ·rw [bu (by simpa using afb ht)] at e
  have e3:=(List.mem_replicate.1 (aN e)).2
  injection e3 with e3
  have hlt:=(ai.1 e).1
  simp at hlt
  rw [Array.getElem?_append_right (by simpa using afb ht),Array.getElem?_replicate,if_pos (by simp; omega),e3]
variable {n t:Nat} {l:List (Nat×Value)} {v:Value}
theorem Aa (ht:t<n) (h:lookO t l=some v):(dS n l)[t]?=some (some v):=by
 simp [dS,ht,h]
theorem PD {t:Nat} {v:Value}:∀{l:List (Nat×Value)},lookO t l=some v→(t,v)∈l
 | [],h=>by cases h
 | (j,x)::l,h=>by
  unfold lookO at h
  cases hb:ay t j with
  | true=>rw [hb] at h; simp only [cond_true,ak] at h; rw [bf hb,h]; exact aA
  | false=>rw [hb] at h; exact aT _ (PD h)
variable {a:Act}
theorem dP.sub {l':List (Nat×Value)} {gs' ls ls':List gQ} (h:dP (dS n l) gs ls a w) (hs:∀x∈l',lookO x.1 l=some x.2) (hg:∀x∈gs',x∈gs) (hl:∀x∈ls',x∈ls) (nd:(gs'.map (·.1)++ls'.map (·.1)).Nodup):dP (dS n l') gs' ls' a w:=by
 refine ⟨h.df,by rw [←h.sz]; simp [dS],fun t u e=>?_,fun x hx=>h.gl x (hg x hx),fun x hx=>h.lo x (hl x hx),nd⟩
 simp only [dS,bY,aR] at e
 obtain ⟨y,y1,y2⟩:=e
 obtain ⟨hlt,hy⟩:=ai.1 y1
 simp only [List.getElem_range] at hy
 subst hy
 exact h.fr t u (Aa (by simpa using hlt) (hs _ (PD y2)))
theorem WU:(dN bE)=fB [dZ (dN bE),jM (dN bE)] (.seq (fB [dZ (jK (dN bE))] (.block 0 (.loop (iW (dN bE))))) (sR 3 (dN bE))):=by kernel_rfl
theorem Y6:(iW (dN bE))=fB [dZ (iW (dN bE)),dZ (fU (iW (dN bE)))] (.seq (.block 1 (fB [dZ (rD (dN bE)),dZ (fU (rD (dN bE)))] (.block 2 (.loop (nP (dN bE)))))) (sR 3 (iW (dN bE)))):=by kernel_rfl
theorem Ya {w0:World} {nc gl nb:Nat} {B0 B1 B2 B3 VC:dY} {rs:List (Int×Int)} {f:Bool} {k:Nat} {m:MB} {u:V6} {Q:Exit→Act→World→Prop} (hn:1≤rs.length∧rs.length≤3) (hk1:k<1000000) (hm:sD w0 nc rs.length m)
  {bM oM bU oU:Nat} (eM:B3.1=some ⟨bM,oM,none⟩) (h1:k<B3.2.1) (lM:bM<w0.heap.size) (nM:bM≠nc) (cM:∀(q:Nat) (x:Value),m.row[q]?=some x→w0.cell? ⟨bM,oM+k*3+q,none⟩=some x)
  (eU:VC.1=some ⟨bU,oU,none⟩) (h4:k<VC.2.1) (lU:bU<w0.heap.size) (nU:bU≠nc) (cU:∀(q:Nat) (x:Value),(u.cs nc)[q]?=some x→w0.cell? ⟨bU,oU+k*7+q,none⟩=some x)
  (hown:∀g∈[nc,gl]++[nb],g∈[nc]∨w0.heap.size≤g) (hnd:([nc,gl]++[nb]).Nodup) (h:dP (ja rs.length B3 VC nb gl k B3.2.1) (fO nc gl f rs) [gq nb nc B0 B1 B2 B3] a w) (hk:dO w0 [nc] w)
  (hQ:∀a' w',dP (ja rs.length B3 VC nb gl ((k+1:Nat):Int) B3.2.1) (fO nc gl (jI m u (rs,f) m.ks.length).2 (jI m u (rs,f) m.ks.length).1) [gq nb nc B0 B1 B2 B3] a' w'→dO w0 [nc] w'→Q .normal a' w'):(iW (dN bE)).wp aa Q a w:=by
 rw [Y6]
 refine abD hn hown hnd (by omega) h hk fun a1 w1 s1 k1=>?_
 refine wp_seq (wp_block ?_)
 refine abH (k:=(k:Int)) (J:=m.J) (V:=m.V) (wt:=m.wt) hn eM (by omega) (by omega) lM nM (by exact cM) hown s1 k1 fun a2 w2 nm hnm hnd2 s2 k2=>?_
 have hown2:∀g∈[nc,gl]++[nb,nm],g∈[nc]∨w0.heap.size≤g:=by
  intro g hg
  simp only [dw,dD,ag,ae,or_false] at hg
  rcases hg with rfl | rfl | rfl | rfl
  ·exact hown _ (by simp)
  ·exact hown _ (by simp)
  ·exact hown _ (by simp)
  ·exact .inr (aZ k1.size hnm)
 refine wp_block ?_
 have hlen:∀i,(jI m u (rs,f) i).1.length=rs.length:=Kk m u (rs,f)
 refine wp_loop (fun a w'=>∃i:Nat,i≤m.ks.length∧dP (j5 rs.length B3 VC m.J nb nm gl k B3.2.1 i) (fO nc gl (jI m u (rs,f) i).2 (jI m u (rs,f) i).1) [gq nb nc B0 B1 B2 B3,kg nm m.wt m.J m.V] a w'∧dO w0 [nc] w') (fun a _=>m.ks.length - (intOf (a.tmps.getD 26 undef)).toNat) ⟨0,Nat.zero_le _,s2,k2⟩ ?_
 rintro a3 w3 ⟨i,hi,s3,k3⟩
 have hmv:∀(a:Act) (w:World) (i:Nat) (g:List gQ) (l:List gQ),dP (j5 rs.length B3 VC m.J nb nm gl k B3.2.1 i) g l a w→(intOf (a.tmps.getD 26 undef)).toNat=i:=fun a w i g l s=>by
  have:=s.fr 26 (num i) (Aa (by decide) rfl)
  rw [bI,this]; simp [intOf,num]
 by_cases hlt:i<m.ks.length
 ·obtain ⟨j,hj⟩:∃j,m.ks[i]?=some j:=⟨_,ah hlt⟩
  obtain ⟨v,hv⟩:∃v,m.vs[i]?=some v:=⟨_,ah (by rw [hm.l]; exact hlt)⟩
  obtain ⟨hj0,hj1⟩:=hm.ks i j hj
  obtain ⟨bJ,oJ,eJ,lJ,cJ⟩:=o9 hm.qU (yz hj)
  obtain ⟨bV,oV,eV,lV,cV⟩:=o9 hm.dJ (show (m.vs.map (V6.cs nc))[i]?=some (v.cs nc) by simp [hv])
  have hl:=hlen i
  have s3':dP (j5 (jI m u (rs,f) i).1.length B3 VC m.J nb nm gl k B3.2.1 i) (fO nc gl (jI m u (rs,f) i).2 (jI m u (rs,f) i).1) [gq nb nc B0 B1 B2 B3,kg nm m.wt m.J m.V] a3 w3:=by rw [hl]; exact s3
  have hjn:((j.toNat:Nat):Int)=j:=Int.toNat_of_nonneg hj0
  refine abP (k:=(k:Int)) (i:=(i:Int)) (j:=j.toNat) (v:=v) (u:=u) (by rw [hl]; exact hn) (by rw [hl]; omega) eJ eV eU (by omega) (by rw [hm.j]; omega) (by rw [hm.v,hm.l]; omega) (by omega) (by omega) hm.w1 hm.w2 lJ (hm.aJ _ eJ) lV (hm.aV _ eV) lU nU (by rw [hjn]; exact cJ) (by exact cV) (by exact cU) hown2 hnd2 s3' k3 fun a4 w4 s4 k4=>?_
  have e9:bg.wrap ((i:Int)+1)=((i+1:Nat):Int):=by
   have:=hm.l3
   rw [dz _ (by omega)]; omega
  rw [e9,hl] at s4
  have est:jI m u (rs,f) (i+1)=vg (jI m u (rs,f) i).1 (jI m u (rs,f) i).2 j.toNat v u m.wt:=by
   simp only [jI,getD_some hj,getD_some hv]
  refine ⟨⟨i+1,by omega,by rw [est]; exact s4,k4⟩,?_⟩
  simp only [hmv _ _ _ _ _ s3,hmv _ _ _ _ _ s4]
  omega
 ·have hin:i=m.ks.length:=by omega
  subst hin
  have hl:=hlen m.ks.length
  have s3':dP (j5 (jI m u (rs,f) m.ks.length).1.length B3 VC m.J nb nm gl k B3.2.1 (m.ks.length:Nat)) (fO nc gl (jI m u (rs,f) m.ks.length).2 (jI m u (rs,f) m.ks.length).1) [gq nb nc B0 B1 B2 B3,kg nm m.wt m.J m.V] a3 w3:=by rw [hl]; exact s3
  refine acd (by rw [hl]; exact hn) hown2 (by rw [hm.j]; omega) hnd s3' k3 fun a4 w4 s4 k4=>?_
  show (sR 3 (iW (dN bE))).wp aa Q a4 w4
  refine abW (by rw [hl]; exact hn) hown hnd s4 k4 fun a5 w5 s5 k5=>?_
  have e9:bg.wrap ((k:Int)+1)=((k+1:Nat):Int):=by rw [dz _ (by omega)]; omega
  rw [e9,hl] at s5
  exact hQ a5 w5 s5 k5
theorem zu (nc n:Nat) (f:Bool) (B0 B1 B2 B3 VC:dY) (w:World) (ms:List MB) (us:List V6) (hn:1≤n∧n≤3) (hB:B0.2.1=n) (hms:B3.2.1=ms.length) (hus:VC.2.1=us.length) (hlu:us.length=ms.length) (h100:ms.length≤1000)
  (hfl:w.heap[nc]?=some (.cells #[.bool f] 88 (0,0))) (hM:Sl w B3.1 3 (ms.map MB.row)) (aM:∀a,B3.1=some a→a.block≠nc) (hU:Sl w VC.1 7 (us.map (V6.cs nc))) (aU:∀a,VC.1=some a→a.block≠nc) (hok:∀(i:Nat) (m:MB),ms[i]?=some m→sD w nc n m) :
  Calls aa 44 #[.agg ⟨[dK nc,dJ B0,dJ B1,dJ B2,dJ B3]⟩,dJ VC] w (uH w nc n (gm ms us (az n (0,0),f) ms.length)):=by
 have hnc:nc<w.heap.size:=(aB.1 hfl).1
 refine calls_of_wp Tryz.func44 (c:=(dN bE)) (by kernel_rfl) ?_
 rw [WU]
 have hst:dP ([some (.agg ⟨[dK nc,dJ B0,dJ B1,dJ B2,dJ B3]⟩),some (dJ VC)]++az 57 (some undef)) [(nc,[.bool f],88)] [] { tmps:=#[.agg ⟨[dK nc,dJ B0,dJ B1,dJ B2,dJ B3]⟩,dJ VC]++dn (bE.ntmps - 2) undef,defers:=[] } w :=
  qF (xs:=[.agg ⟨[dK nc,dJ B0,dJ B1,dJ B2,dJ B3]⟩,dJ VC]) (m:=57) rfl (by simp [hfl]) (by simp)
 refine ab4 hn hB hst (dO.refl w [nc]) fun a1 w1 gl nb hgl hnb hnd s1 k1=>?_
 have hown:∀g∈[nc,gl]++[nb],g∈[nc]∨w.heap.size≤g:=by
  intro g hg
  simp only [dw,dD,ag,ae,or_false] at hg
  rcases hg with rfl | rfl | rfl
  ·exact .inl (by simp)
  ·exact .inr hgl
  ·exact .inr hnb
 have hr0:(az n ((0:Int),(0:Int))).length=n:=by simp
 refine wp_seq ?_
 refine ab8 (rs:=az n (0,0)) (by rw [hr0]; exact hn) hown hnd (by rw [hr0]; exact s1) k1 fun a2 w2 s2 k2=>?_
 rw [hr0] at s2
 refine wp_block ?_
 have hlen:∀k,(gm ms us (az n (0,0),f) k).1.length=n:=fun k=>by rw [ry]; simp
 refine wp_loop (fun a w'=>∃k:Nat,k≤ms.length∧dP (ja n B3 VC nb gl k B3.2.1) (fO nc gl (gm ms us (az n (0,0),f) k).2 (gm ms us (az n (0,0),f) k).1) [gq nb nc B0 B1 B2 B3] a w'∧dO w [nc] w') (fun a _=>ms.length - (intOf (a.tmps.getD 18 undef)).toNat) ⟨0,Nat.zero_le _,s2,k2⟩ ?_
 rintro a3 w3 ⟨k,hk,s3,k3⟩
 have hmv:∀(a:Act) (w:World) (i:Nat) (g:List gQ) (l:List gQ),dP (ja n B3 VC nb gl i B3.2.1) g l a w→(intOf (a.tmps.getD 18 undef)).toNat=i:=fun a w i g l s=>by
  have:=s.fr 18 (num i) (Aa (by decide) rfl)
  rw [bI,this]; simp [intOf,num]
 by_cases hlt:k<ms.length
 ·obtain ⟨m,hm⟩:∃m,ms[k]?=some m:=⟨_,ah hlt⟩
  obtain ⟨u,hu⟩:∃u,us[k]?=some u:=⟨_,ah (by omega)⟩
  obtain ⟨bM,oM,eM,lM,cM⟩:=o9 hM (show (ms.map MB.row)[k]?=some m.row by simp [hm])
  obtain ⟨bU,oU,eU,lU,cU⟩:=o9 hU (show (us.map (V6.cs nc))[k]?=some (u.cs nc) by simp [hu])
  refine Ya (rs:=(gm ms us (az n (0,0),f) k).1) (f:=(gm ms us (az n (0,0),f) k).2) (by rw [hlen]; exact hn) (by omega) (m:=m) (u:=u) (by rw [hlen]; exact hok k m hm) eM (by omega) lM (aM _ eM) cM eU (by omega) lU (aU _ eU) cU hown hnd (by rw [hlen]; exact s3) k3 fun a4 w4 s4 k4=>?_
  rw [hlen] at s4
  have est:gm ms us (az n (0,0),f) (k+1)=jI m u ((gm ms us (az n (0,0),f) k).1,(gm ms us (az n (0,0),f) k).2) m.ks.length:=by
   simp only [gm,getD_some hm,getD_some hu]
  refine ⟨⟨k+1,by omega,by rw [est]; exact s4,k4⟩,?_⟩
  simp only [hmv _ _ _ _ _ s3,hmv _ _ _ _ _ s4]
  omega
 ·have hkn:k=ms.length:=by omega
  subst hkn
  refine abL (rs:=(gm ms us (az n (0,0),f) ms.length).1) (k:=((ms.length:Nat):Int)) (M:=((B3.2.1:Nat):Int)) (by rw [hlen]; exact hn) hown hnd (by omega) (by rw [hlen]; exact s3) k3 fun a4 w4 s4 k4=>?_
  rw [hlen] at s4
  show (sR 3 (dN bE)).wp aa _ a4 w4
  have s5:dP (xw n gl) (fO nc gl (gm ms us (az n (0,0),f) ms.length).2 (gm ms us (az n (0,0),f) ms.length).1) [] a4 w4:=by
   exact dP.sub s4 (fun x hx=>by simp only [ag,ae,or_false] at hx; subst hx; rfl) (fun x hx=>hx) (fun x hx=>by cases hx) (by simpa using (afe.1 s4.nd).1)
  refine ab0 (rs:=(gm ms us (az n (0,0),f) ms.length).1) (by rw [hlen]; exact hn) (fun g hg=>hown g (by simp at hg ⊢; rcases hg with r | r; exact .inl r; exact .inr (.inl r))) (by simpa using (afe.1 hnd).1) (by rw [hlen]; exact s5) k4 fun a6 w6 s6 k6=>?_
  rw [hlen] at s6 ⊢
  have g1:=s6.gl _ (show (nc,[.bool (gm ms us (az n (0,0),f) ms.length).2],88)∈fO nc gl _ _ from aA)
  have g2:=s6.gl _ (show (gl,(eP (gm ms us (az n (0,0),f) ms.length).1).map num,23)∈fO nc gl _ _ from aT _ aA)
  exact ⟨gl,hgl,(aB.1 g2).1,rfl,g2,uP k6 g1⟩
end Go.Proofs
end
