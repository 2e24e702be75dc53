/-
  Part of the proof: see the last text.
-/
import Derived.Test.YthbfmjlcnfgnbaaGreatZSc
set_option linter.unusedVariables false
set_option maxHeartbeats 8000000
open Array renaming getD_eq_getD_getElem?→bI,getElem?_eq_some_iff→aB,replicate→aji
open Bool renaming and_eq_true→aQ
open Go.Builtin renaming append_→afi,firstCells→dE
open Go.IntKind renaming i64→bg
open Go.IntWalk renaming i64_in→dz
open List renaming all_eq_true→bn,append_assoc→afd,append_nil→afk,cons_append→dw,eq_nil_of_length_eq_zero→bR,getD_cons_succ→bZ,getD_cons_zero→bN,getElem?_append_left→aH,getElem?_append_right→bu,getElem?_cons_succ→aeW,getElem?_drop→aeX,getElem?_eq_getElem→ah,getElem?_eq_none→bQ,getElem?_eq_some_iff→ai,getElem?_map→bY,getElem?_of_mem→cZ,getElem?_take→dx,length→ae1,length_append→afa,length_map→dF,map_cons→dI,map_nil→ae9,mem_append→bH,mem_append_left→aeY,mem_append_right→dm,mem_cons→ag,mem_cons_of_mem→aT,mem_cons_self→aA,mem_map→aeZ,mem_of_getElem?→aN,nil_append→dD,nodup_append→afe,nodup_cons→ag5,not_mem_nil→ae,pairwise_iff_getElem→ae7,range→dh,replicate→ag6,size_toArray→aeR,take_of_length_le→dH
open Nat renaming beq→ay,eq_of_beq_eq_true→bf,le_of_ble_eq_true→ae8,le_of_not_lt→afb,le_refl→au,le_trans→aZ,lt_of_lt_of_le→aC,lt_or_ge→cu,succ_pos→aO
open Ne renaming symm→ae4
open Option renaming map_eq_some_iff→aR
open Option.some renaming injEq→ak
open Prod.mk renaming injEq→aP
open Go.Result renaming andThen_ok→bC
open Go.Sem renaming run_bind→di,run_pure→dA
open Go.Proofs.Tryz renaming f20→aY,f41→aD,f43→aeS,f44→bE,f45→aeU,prog→aa
open Go.World renaming cell?→bS
section
namespace Go.Proofs
open Go.Sm Go.RowKit En
structure MB where
 wt:Int
 ks:List Int
 vs:List V6
 J:dY
 V:dY
def MB.row (m:MB):List Value:=[num m.wt,dJ m.J,dJ m.V]
structure sD (w:World) (nc n:Nat) (m:MB):Prop where
 w1:1≤m.wt
 w2:m.wt≤1000000000
 j:m.J.2.1=m.ks.length
 v:m.V.2.1=m.vs.length
 l:m.vs.length=m.ks.length
 l3:m.ks.length≤1000
 ks:∀(i:Nat) (k:Int),m.ks[i]?=some k→0≤k∧k<n
 qU:Sl w m.J.1 1 (fF m.ks)
 dJ:Sl w m.V.1 7 (m.vs.map (V6.cs nc))
 aJ:∀a,m.J.1=some a→a.block≠nc
 aV:∀a,m.V.1=some a→a.block≠nc
def jI (m:MB) (u:V6) (st:List (Int×Int)×Bool):Nat→List (Int×Int)×Bool
 | 0=>st
 | i+1=>vg (jI m u st i).1 (jI m u st i).2 (m.ks.getD i 0).toNat (m.vs.getD i .z) u m.wt
def MB.z:MB:=⟨1,[],[],(none,0,0),(none,0,0)⟩
def gm (ms:List MB) (us:List V6) (st:List (Int×Int)×Bool):Nat→List (Int×Int)×Bool
 | 0=>st
 | k+1=>jI (ms.getD k .z) (us.getD k .z) (gm ms us st k) (ms.getD k .z).ks.length
theorem Kk (m:MB) (u:V6) (st:List (Int×Int)×Bool):∀i,(jI m u st i).1.length=st.1.length
 | 0=>rfl
 | i+1=>by simp only [jI,vg,List.length_set]; exact Kk m u st i
theorem ry (ms:List MB) (us:List V6) (st:List (Int×Int)×Bool):∀k,(gm ms us st k).1.length=st.1.length
 | 0=>rfl
 | k+1=>by simp only [gm]; rw [Kk]; exact ry ms us st k
def uH (w0:World) (nc n:Nat) (st:List (Int×Int)×Bool) (e:Ending) (w':World):Prop:=∃gl,w0.heap.size≤gl∧gl<w'.heap.size∧e=.returned (.slice (some ⟨gl,0,none⟩) n n)∧w'.heap[gl]?=some (.cells ⟨(eP st.1).map num⟩ 23 (0,0))∧jL w0 nc 88 st.2 w'
variable {gs:List gQ} {w:World}
theorem qF {us:List (Option Value)} {xs:List Value} {m:Nat} (hu:us=xs.map some++ag6 m (some undef)) (hg:∀x∈gs,w.heap[x.1]?=some (.cells ⟨x.2.1⟩ x.2.2 (0,0))) (hn:(gs.map (·.1)).Nodup):dP us gs [] { tmps:=xs.toArray++aji m undef,defers:=[] } w:=by
 refine ⟨rfl,by rw [hu]; simp,fun t u e=>?_,hg,fun x hx=>(by cases hx),by simpa using hn⟩
 rw [hu] at e
 by_cases ht:t<xs.length
 ·rw [aH (by simpa using ht)] at e
  simp only [bY,aR,ak] at e
  obtain ⟨v,v1,rfl⟩:=e
  rw [Array.getElem?_append_left (by simpa using ht)]
  simpa using v1
 ·rw [bu (by simpa using afb ht)] at e
  have e3:=(List.mem_replicate.1 (aN e)).2
  injection e3 with e3
  have hlt:=(ai.1 e).1
  simp at hlt
  rw [Array.getElem?_append_right (by simpa using afb ht),Array.getElem?_replicate,if_pos (by simp; omega),e3]
variable {n t:Nat} {l:List (Nat×Value)} {v:Value}
theorem Aa (ht:t<n) (h:lookO t l=some v):(dS n l)[t]?=some (some v):=by
 simp [dS,ht,h]
theorem PD {t:Nat} {v:Value}:∀{l:List (Nat×Value)},lookO t l=some v→(t,v)∈l
 | [],h=>by cases h
 | (j,x)::l,h=>by
  unfold lookO at h
  cases hb:ay t j with
  | true=>rw [hb] at h; simp only [cond_true,ak] at h; rw [bf hb,h]; exact aA
  | false=>rw [hb] at h; exact aT _ (PD h)
variable {a:Act}
theorem dP.sub {l':List (Nat×Value)} {gs' ls ls':List gQ} (h:dP (dS n l) gs ls a w) (hs:∀x∈l',lookO x.1 l=some x.2) (hg:∀x∈gs',x∈gs) (hl:∀x∈ls',x∈ls) (nd:(gs'.map (·.1)++ls'.map (·.1)).Nodup):dP (dS n l') gs' ls' a w:=by
 refine ⟨h.df,by rw [←h.sz]; simp [dS],fun t u e=>?_,fun x hx=>h.gl x (hg x hx),fun x hx=>h.lo x (hl x hx),nd⟩
 simp only [dS,bY,aR] at e
 obtain ⟨y,y1,y2⟩:=e
 obtain ⟨hlt,hy⟩:=ai.1 y1
 simp only [List.getElem_range] at hy
 subst hy
 exact h.fr t u (Aa (by simpa using hlt) (hs _ (PD y2)))
theorem WU:(dN bE)=o7 [dZ (dN bE),jM (dN bE)] (.seq (o7 [dZ (nP (dN bE))] (.block 0 (.loop (iW (dN bE))))) (sR 3 (dN bE))):=by kernel_rfl
theorem Y6:(iW (dN bE))=o7 [dZ (iW (dN bE)),dZ (fU (iW (dN bE)))] (.seq (.block 1 (o7 [dZ (jT (dN bE)),dZ (fU (jT (dN bE)))] (.block 2 (.loop (jK (dN bE)))))) (sR 3 (iW (dN bE)))):=by kernel_rfl
theorem Ya {w0:World} {nc gl nb:Nat} {B0 B1 B2 B3 VC:dY} {rs:List (Int×Int)} {f:Bool} {k:Nat} {m:MB} {u:V6} {Q:Exit→Act→World→Prop} (hn:1≤rs.length∧rs.length≤3) (hk1:k<1000000) (hm:sD w0 nc rs.length m)
  {bM oM bU oU:Nat} (eM:B3.1=some ⟨bM,oM,none⟩) (h1:k<B3.2.1) (lM:bM<w0.heap.size) (nM:bM≠nc) (cM:∀(q:Nat) (x:Value),m.row[q]?=some x→w0.cell? ⟨bM,oM+k*3+q,none⟩=some x)
  (eU:VC.1=some ⟨bU,oU,none⟩) (h4:k<VC.2.1) (lU:bU<w0.heap.size) (nU:bU≠nc) (cU:∀(q:Nat) (x:Value),(u.cs nc)[q]?=some x→w0.cell? ⟨bU,oU+k*7+q,none⟩=some x)
  (hown:∀g∈[nc,gl]++[nb],g∈[nc]∨w0.heap.size≤g) (hnd:([nc,gl]++[nb]).Nodup) (h:dP (ja rs.length B3 VC nb gl k B3.2.1) (fO nc gl f rs) [gq nb nc B0 B1 B2 B3] a w) (hk:dO w0 [nc] w)
  (hQ:∀a' w',dP (ja rs.length B3 VC nb gl ((k+1:Nat):Int) B3.2.1) (fO nc gl (jI m u (rs,f) m.ks.length).2 (jI m u (rs,f) m.ks.length).1) [gq nb nc B0 B1 B2 B3] a' w'→dO w0 [nc] w'→Q .normal a' w'):(iW (dN bE)).wp aa Q a w:=by
 rw [Y6]
 refine abD hn hown hnd (by omega) h hk fun a1 w1 s1 k1=>?_
 refine wp_seq (wp_block ?_)
 refine abH (k:=(k:Int)) (J:=m.J) (V:=m.V) (wt:=m.wt) hn eM (by omega) (by omega) lM nM (by exact cM) hown s1 k1 fun a2 w2 nm hnm hnd2 s2 k2=>?_
 have hown2:∀g∈[nc,gl]++[nb,nm],g∈[nc]∨w0.heap.size≤g:=by
  intro g hg
  simp only [dw,dD,ag,ae,or_false] at hg
  rcases hg with rfl | rfl | rfl | rfl
  ·exact hown _ (by simp)
  ·exact hown _ (by simp)
  ·exact hown _ (by simp)
  ·exact .inr (aZ k1.size hnm)
 refine wp_block ?_
 have hlen:∀i,(jI m u (rs,f) i).1.length=rs.length:=Kk m u (rs,f)
 refine wp_loop (fun a w'=>∃i:Nat,i≤m.ks.length∧dP (u6 rs.length B3 VC m.J nb nm gl k B3.2.1 i) (fO nc gl (jI m u (rs,f) i).2 (jI m u (rs,f) i).1) [gq nb nc B0 B1 B2 B3,kg nm m.wt m.J m.V] a w'∧dO w0 [nc] w') (fun a _=>m.ks.length - (intOf (a.tmps.getD 26 undef)).toNat) ⟨0,Nat.zero_le _,s2,k2⟩ ?_
 rintro a3 w3 ⟨i,hi,s3,k3⟩
 have hmv:∀(a:Act) (w:World) (i:Nat) (g:List gQ) (l:List gQ),dP (u6 rs.length B3 VC m.J nb nm gl k B3.2.1 i) g l a w→(intOf (a.tmps.getD 26 undef)).toNat=i:=fun a w i g l s=>by
  have:=s.fr 26 (num i) (Aa (by decide) rfl)
  rw [bI,this]; simp [intOf,num]
 by_cases hlt:i<m.ks.length
 ·obtain ⟨j,hj⟩:∃j,m.ks[i]?=some j:=⟨_,ah hlt⟩
  obtain ⟨v,hv⟩:∃v,m.vs[i]?=some v:=⟨_,ah (by rw [hm.l]; exact hlt)⟩
  obtain ⟨hj0,hj1⟩:=hm.ks i j hj
  obtain ⟨bJ,oJ,eJ,lJ,cJ⟩:=o9 hm.qU (yz hj)
  obtain ⟨bV,oV,eV,lV,cV⟩:=o9 hm.dJ (show (m.vs.map (V6.cs nc))[i]?=some (v.cs nc) by simp [hv])
  have hl:=hlen i
  have s3':dP (u6 (jI m u (rs,f) i).1.length B3 VC m.J nb nm gl k B3.2.1 i) (fO nc gl (jI m u (rs,f) i).2 (jI m u (rs,f) i).1) [gq nb nc B0 B1 B2 B3,kg nm m.wt m.J m.V] a3 w3:=by rw [hl]; exact s3
  have hjn:((j.toNat:Nat):Int)=j:=Int.toNat_of_nonneg hj0
  refine abP (k:=(k:Int)) (i:=(i:Int)) (j:=j.toNat) (v:=v) (u:=u) (by rw [hl]; exact hn) (by rw [hl]; omega) eJ eV eU (by omega) (by rw [hm.j]; omega) (by rw [hm.v,hm.l]; omega) (by omega) (by omega) hm.w1 hm.w2 lJ (hm.aJ _ eJ) lV (hm.aV _ eV) lU nU (by rw [hjn]; exact cJ) (by exact cV) (by exact cU) hown2 hnd2 s3' k3 fun a4 w4 s4 k4=>?_
  have e9:bg.wrap ((i:Int)+1)=((i+1:Nat):Int):=by
   have:=hm.l3
   rw [dz _ (by omega)]; omega
  rw [e9,hl] at s4
  have est:jI m u (rs,f) (i+1)=vg (jI m u (rs,f) i).1 (jI m u (rs,f) i).2 j.toNat v u m.wt:=by
   simp only [jI,getD_some hj,getD_some hv]
  refine ⟨⟨i+1,by omega,by rw [est]; exact s4,k4⟩,?_⟩
  simp only [hmv _ _ _ _ _ s3,hmv _ _ _ _ _ s4]
  omega
 ·have hin:i=m.ks.length:=by omega
  subst hin
  have hl:=hlen m.ks.length
  have s3':dP (u6 (jI m u (rs,f) m.ks.length).1.length B3 VC m.J nb nm gl k B3.2.1 (m.ks.length:Nat)) (fO nc gl (jI m u (rs,f) m.ks.length).2 (jI m u (rs,f) m.ks.length).1) [gq nb nc B0 B1 B2 B3,kg nm m.wt m.J m.V] a3 w3:=by rw [hl]; exact s3
  refine acd (by rw [hl]; exact hn) hown2 (by rw [hm.j]; omega) hnd s3' k3 fun a4 w4 s4 k4=>?_
  show (sR 3 (iW (dN bE))).wp aa Q a4 w4
  refine abW (by rw [hl]; exact hn) hown hnd s4 k4 fun a5 w5 s5 k5=>?_
  have e9:bg.wrap ((k:Int)+1)=((k+1:Nat):Int):=by rw [dz _ (by omega)]; omega
  rw [e9,hl] at s5
  exact hQ a5 w5 s5 k5
theorem zu (nc n:Nat) (f:Bool) (B0 B1 B2 B3 VC:dY) (w:World) (ms:List MB) (us:List V6) (hn:1≤n∧n≤3) (hB:B0.2.1=n) (hms:B3.2.1=ms.length) (hus:VC.2.1=us.length) (hlu:us.length=ms.length) (h100:ms.length≤1000)
  (hfl:w.heap[nc]?=some (.cells #[.bool f] 88 (0,0))) (hM:Sl w B3.1 3 (ms.map MB.row)) (aM:∀a,B3.1=some a→a.block≠nc) (hU:Sl w VC.1 7 (us.map (V6.cs nc))) (aU:∀a,VC.1=some a→a.block≠nc) (hok:∀(i:Nat) (m:MB),ms[i]?=some m→sD w nc n m) :
  Calls aa 44 #[.agg ⟨[dK nc,dJ B0,dJ B1,dJ B2,dJ B3]⟩,dJ VC] w (uH w nc n (gm ms us (ag6 n (0,0),f) ms.length)):=by
 have hnc:nc<w.heap.size:=(aB.1 hfl).1
 refine calls_of_wp Tryz.func44 (c:=(dN bE)) (by kernel_rfl) ?_
 rw [WU]
 have hst:dP ([some (.agg ⟨[dK nc,dJ B0,dJ B1,dJ B2,dJ B3]⟩),some (dJ VC)]++ag6 57 (some undef)) [(nc,[.bool f],88)] [] { tmps:=#[.agg ⟨[dK nc,dJ B0,dJ B1,dJ B2,dJ B3]⟩,dJ VC]++aji (bE.ntmps - 2) undef,defers:=[] } w :=
  qF (xs:=[.agg ⟨[dK nc,dJ B0,dJ B1,dJ B2,dJ B3]⟩,dJ VC]) (m:=57) rfl (by simp [hfl]) (by simp)
 refine ab4 hn hB hst (dO.refl w [nc]) fun a1 w1 gl nb hgl hnb hnd s1 k1=>?_
 have hown:∀g∈[nc,gl]++[nb],g∈[nc]∨w.heap.size≤g:=by
  intro g hg
  simp only [dw,dD,ag,ae,or_false] at hg
  rcases hg with rfl | rfl | rfl
  ·exact .inl (by simp)
  ·exact .inr hgl
  ·exact .inr hnb
 have hr0:(ag6 n ((0:Int),(0:Int))).length=n:=by simp
 refine wp_seq ?_
 refine ab8 (rs:=ag6 n (0,0)) (by rw [hr0]; exact hn) hown hnd (by rw [hr0]; exact s1) k1 fun a2 w2 s2 k2=>?_
 rw [hr0] at s2
 refine wp_block ?_
 have hlen:∀k,(gm ms us (ag6 n (0,0),f) k).1.length=n:=fun k=>by rw [ry]; simp
 refine wp_loop (fun a w'=>∃k:Nat,k≤ms.length∧dP (ja n B3 VC nb gl k B3.2.1) (fO nc gl (gm ms us (ag6 n (0,0),f) k).2 (gm ms us (ag6 n (0,0),f) k).1) [gq nb nc B0 B1 B2 B3] a w'∧dO w [nc] w') (fun a _=>ms.length - (intOf (a.tmps.getD 18 undef)).toNat) ⟨0,Nat.zero_le _,s2,k2⟩ ?_
 rintro a3 w3 ⟨k,hk,s3,k3⟩
 have hmv:∀(a:Act) (w:World) (i:Nat) (g:List gQ) (l:List gQ),dP (ja n B3 VC nb gl i B3.2.1) g l a w→(intOf (a.tmps.getD 18 undef)).toNat=i:=fun a w i g l s=>by
  have:=s.fr 18 (num i) (Aa (by decide) rfl)
  rw [bI,this]; simp [intOf,num]
 by_cases hlt:k<ms.length
 ·obtain ⟨m,hm⟩:∃m,ms[k]?=some m:=⟨_,ah hlt⟩
  obtain ⟨u,hu⟩:∃u,us[k]?=some u:=⟨_,ah (by omega)⟩
  obtain ⟨bM,oM,eM,lM,cM⟩:=o9 hM (show (ms.map MB.row)[k]?=some m.row by simp [hm])
  obtain ⟨bU,oU,eU,lU,cU⟩:=o9 hU (show (us.map (V6.cs nc))[k]?=some (u.cs nc) by simp [hu])
  refine Ya (rs:=(gm ms us (ag6 n (0,0),f) k).1) (f:=(gm ms us (ag6 n (0,0),f) k).2) (by rw [hlen]; exact hn) (by omega) (m:=m) (u:=u) (by rw [hlen]; exact hok k m hm) eM (by omega) lM (aM _ eM) cM eU (by omega) lU (aU _ eU) cU hown hnd (by rw [hlen]; exact s3) k3 fun a4 w4 s4 k4=>?_
  rw [hlen] at s4
  have est:gm ms us (ag6 n (0,0),f) (k+1)=jI m u ((gm ms us (ag6 n (0,0),f) k).1,(gm ms us (ag6 n (0,0),f) k).2) m.ks.length:=by
   simp only [gm,getD_some hm,getD_some hu]
  refine ⟨⟨k+1,by omega,by rw [est]; exact s4,k4⟩,?_⟩
  simp only [hmv _ _ _ _ _ s3,hmv _ _ _ _ _ s4]
  omega
 ·have hkn:k=ms.length:=by omega
  subst hkn
  refine abL (rs:=(gm ms us (ag6 n (0,0),f) ms.length).1) (k:=((ms.length:Nat):Int)) (M:=((B3.2.1:Nat):Int)) (by rw [hlen]; exact hn) hown hnd (by omega) (by rw [hlen]; exact s3) k3 fun a4 w4 s4 k4=>?_
  rw [hlen] at s4
  show (sR 3 (dN bE)).wp aa _ a4 w4
  have s5:dP (xw n gl) (fO nc gl (gm ms us (ag6 n (0,0),f) ms.length).2 (gm ms us (ag6 n (0,0),f) ms.length).1) [] a4 w4:=by
   exact dP.sub s4 (fun x hx=>by simp only [ag,ae,or_false] at hx; subst hx; rfl) (fun x hx=>hx) (fun x hx=>by cases hx) (by simpa using (afe.1 s4.nd).1)
  refine ab0 (rs:=(gm ms us (ag6 n (0,0),f) ms.length).1) (by rw [hlen]; exact hn) (fun g hg=>hown g (by simp at hg ⊢; rcases hg with r | r; exact .inl r; exact .inr (.inl r))) (by simpa using (afe.1 hnd).1) (by rw [hlen]; exact s5) k4 fun a6 w6 s6 k6=>?_
  rw [hlen] at s6 ⊢
  have g1:=s6.gl _ (show (nc,[.bool (gm ms us (ag6 n (0,0),f) ms.length).2],88)∈fO nc gl _ _ from aA)
  have g2:=s6.gl _ (show (gl,(eP (gm ms us (ag6 n (0,0),f) ms.length).1).map num,23)∈fO nc gl _ _ from aT _ aA)
  exact ⟨gl,hgl,(aB.1 g2).1,rfl,g2,uP k6 g1⟩
end Go.Proofs
end
section
namespace Go.Proofs
open Go.Sm Go.RowKit En
variable {w0 w:World} {nc n:Nat}
theorem uB (hc:∀(b o:Nat) (v:Value),b<w0.heap.size→b≠nc→w0.cell? ⟨b,o,none⟩=some v→w.cell? ⟨b,o,none⟩=some v) {oa:Option Addr} {rows:List (List Value)} (hr:∀r∈rows,r≠[]) (ha:∀a,oa=some a→a.block≠nc) (h:Sl w0 oa n rows):Sl w oa n rows:=by
 intro h0
 obtain ⟨b,off,e,h1⟩:=h h0
 have hb:=ha _ e
 have key:∀i r,rows[i]?=some r→∀k v,r[k]?=some v→w.cell? ⟨b,off+(i*n+k),none⟩=some v:=fun i r hi k v hv=>hc b _ v h1.lt hb (h1.c i r hi k v hv)
 refine ⟨b,off,e,?_,key⟩
 obtain ⟨r,l,rfl⟩:∃r l,rows=r::l:=by cases rows with | nil=>exact absurd rfl h0 | cons r l=>exact ⟨r,l,rfl⟩
 obtain ⟨v,t,rfl⟩:∃v t,r=v::t:=by cases r with | nil=>exact absurd rfl (hr [] aA) | cons v t=>exact ⟨v,t,rfl⟩
 obtain ⟨cs,_,_,k1,_⟩:=tZ (key 0 _ rfl 0 v rfl)
 exact (aB.1 k1).1
theorem kX (ks:List Int):∀r∈fF ks,r≠[]:=fun r hr e=>by
 simp only [fF,aeZ] at hr
 obtain ⟨k,_,rfl⟩:=hr
 cases e
theorem y7 (nc:Nat) (vs:List V6):∀r∈vs.map (V6.cs nc),r≠[]:=fun r hr e=>by
 obtain ⟨k,_,rfl⟩:=aeZ.1 hr
 cases e
theorem ZI (ms:List MB):∀r∈ms.map MB.row,r≠[]:=fun r hr e=>by
 obtain ⟨k,_,rfl⟩:=aeZ.1 hr
 cases e
theorem sD.move (hc:∀(b o:Nat) (v:Value),b<w0.heap.size→b≠nc→w0.cell? ⟨b,o,none⟩=some v→w.cell? ⟨b,o,none⟩=some v) {m:MB} (h:sD w0 nc n m):sD w nc n m :=
 { h with qU:=uB hc (kX _) h.aJ h.qU,dJ:=uB hc (y7 _ _) h.aV h.dJ }
theorem EO {l:List Int} {bs:List Bool} {sl:List dY} (h:za (gB (w0,[nc]) l bs sl) w):∀(b o:Nat) (v:Value),b<w0.heap.size→b≠nc→w0.cell? ⟨b,o,none⟩=some v→w.cell? ⟨b,o,none⟩=some v :=
 fun _ _ _ h1 h2 hv=>Yd rfl h h1 (by simpa using h2) hv
theorem UC (rs:List (Int×Int)) (f:Bool) (j:Nat) (v u:V6) (n:Int):vg rs f j v u n=((vg rs false j v u n).1,f||(vg rs false j v u n).2):=by
 simp only [vg,Bool.false_or,Bool.or_assoc]
theorem Kl (m:MB) (u:V6) (rs:List (Int×Int)) (f:Bool):∀i,jI m u (rs,f) i=((jI m u (rs,false) i).1,f||(jI m u (rs,false) i).2)
 | 0=>by simp [jI]
 | i+1=>by
  simp only [jI]
  rw [Kl m u rs f i,UC _ (f||_),UC _ (jI m u (rs,false) i).2]
  simp only [Bool.or_assoc]
theorem yg (ms:List MB) (us:List V6) (rs:List (Int×Int)) (f:Bool):∀k,gm ms us (rs,f) k=((gm ms us (rs,false) k).1,f||(gm ms us (rs,false) k).2)
 | 0=>by simp [gm]
 | k+1=>by
  simp only [gm]
  rw [yg ms us rs f k,Kl _ _ _ (f||_)]
  rw [show jI (ms.getD k .z) (us.getD k .z) (gm ms us (rs,false) k) (ms.getD k .z).ks.length=jI (ms.getD k .z) (us.getD k .z) ((gm ms us (rs,false) k).1,(gm ms us (rs,false) k).2) (ms.getD k .z).ks.length from rfl,Kl _ _ _ (gm ms us (rs,false) k).2]
  simp only [Bool.or_assoc]
structure kr (w:World) (nc n:Nat) (B0 B3:dY) (ms:List MB):Prop where
 n1:1≤n∧n≤3
 b0:B0.2.1=n
 b3:B3.2.1=ms.length
 m2:ms.length≤2
 rows:Sl w B3.1 3 (ms.map MB.row)
 aM:∀a,B3.1=some a→a.block≠nc
 ok:∀(i:Nat) (m:MB),ms[i]?=some m→sD w nc n m
theorem kr.move {w0 w:World} {nc n:Nat} {B0 B3:dY} {ms:List MB} (h:kr w0 nc n B0 B3 ms) (hc:∀(b o:Nat) (v:Value),b<w0.heap.size→b≠nc→w0.cell? ⟨b,o,none⟩=some v→w.cell? ⟨b,o,none⟩=some v):kr w nc n B0 B3 ms :=
 { h with rows:=uB hc (ZI _) h.aM h.rows,ok:=fun i m hm=>(h.ok i m hm).move hc }
theorem O0 (vs:List V6) (nc:Nat):∀(i:Nat) (r:List Value),(vs.map (V6.cs nc))[i]?=some r→∀(k:Nat) (v:Value),r[k]?=some v→(vs.flatMap (V6.cs nc))[i*7+k]?=some v:=by
 intro i r hi k v hv
 have:=flat_get (vs.map (V6.cs nc)) 7 (fun r hr=>by obtain ⟨x,_,rfl⟩:=aeZ.1 hr; rfl) i r hi k v hv
 simpa [List.flatMap] using this
variable {B0 B1 B2 B3:dY}
theorem X9 {g1:Nat} {c:Bool} {ms:List MB} {us:List V6} (hb:kr w nc n B0 B3 ms) (hl:us.length=ms.length) (hne:g1≠nc) (hfl:w.heap[nc]?=some (.cells #[.bool c] 88 (0,0))) (hv:w.heap[g1]?=some (.cells ⟨us.flatMap (V6.cs nc)⟩ 98 (0,0))) :
  Calls aa 44 #[.agg ⟨[dK nc,dJ B0,dJ B1,dJ B2,dJ B3]⟩,.slice (some ⟨g1,0,none⟩) us.length us.length] w fun r w'=>∃gl,w.heap.size≤gl∧gl<w'.heap.size∧r=.returned (.slice (some ⟨gl,0,none⟩) n n)∧w'.heap[gl]?=some (.cells ⟨(eP (gm ms us (ag6 n (0,0),false) ms.length).1).map num⟩ 23 (0,0))∧jL w nc 88 (c||(gm ms us (ag6 n (0,0),false) ms.length).2) w':=by
 have:=zu nc n c B0 B1 B2 B3 (some ⟨g1,0,none⟩,us.length,us.length) w ms us hb.n1 hb.b0 hb.b3 rfl hl (by have:=hb.m2; omega) hfl hb.rows hb.aM (fun _=>⟨g1,0,rfl,(aB.1 hv).1,fun i r hi k v hk=>by
  have:=O0 us nc i r hi k v hk
  simp [bS,hv,this]⟩) (fun a e=>by injection e with e; subst e; exact hne) hb.ok
 refine this.mono fun r w' h=>?_
 rw [yg] at h
 exact h
def gV (x y z:Int):V6:=⟨Du x,Dv x,Du y,Dv y,Du z,Dv z⟩
def iP (r:Int×Int):Int×Int:=(mE r.1 r.2,mF r.1 r.2)
def nG (i:Nat):List Value:=[mI 1240 [var i],mI 1241 [var i]]
def gC:List Value:=.pointer (some ⟨0,0,none⟩)::(nG 0++nG 1++nG 2)
def uM:List Value:=[.pointer (some ⟨0,0,none⟩),dM 0,dM 1,dM 2,dM 3]
def alC (m:Nat):eG:=dQ ((dh m).flatMap fun _=>gC) 98
def C9 (n:Nat):eG:=dQ ((dh (2*n)).map fun i=>var (3+i)) 23
def uI (n m:Nat):List pq:=[⟨44,[.agg ⟨uM⟩,.slice (some ⟨1,0,none⟩) m m],[alC m],.slice (some ⟨2,0,none⟩) n n,mB 1 [.int .i64 1],[C9 n]⟩]
def qo (x y z:Int) (rs:List (Int×Int)):List Int:=[x,y,z]++eP rs
variable {x y z:Int} {f b:Bool}
theorem wJ {m:Nat} {ms:List MB} (hb:kr w0 nc n B0 B3 ms) (hm:ms.length=m) {rs:List (Int×Int)} (hr:gm ms (ag6 m (gV x y z)) (ag6 n (0,0),false) ms.length=(rs,b))
  (e1:∀g1,eQ (fP (gB (w0,[nc]) (qo x y z rs) [f,b] [B0,B1,B2,B3]) ⟨[nc,g1],[]⟩ 5) [.agg ⟨uM⟩,.slice (some ⟨1,0,none⟩) m m]=some [.agg ⟨[dK nc,dJ B0,dJ B1,dJ B2,dJ B3]⟩,.slice (some ⟨g1,0,none⟩) m m])
  (e2:∀g1,eQ (fP (gB (w0,[nc]) (qo x y z rs) [f,b] [B0,B1,B2,B3]) ⟨[nc,g1],[]⟩ 4) (alC m).cells=some ((ag6 m (gV x y z)).flatMap (V6.cs nc)))
  (e3:∀g1 gl,eQ (fP (gB (w0,[nc]) (qo x y z rs) [f,b] [B0,B1,B2,B3]) ⟨[nc,g1,gl],[]⟩ 4) (C9 n).cells=some ((eP rs).map num)):∀t∈uI n m,Af aa (gB (w0,[nc]) (qo x y z rs) [f,b] [B0,B1,B2,B3]) 88 t:=by
 intro t ht
 simp only [uI,ag,ae,or_false] at ht
 subst ht
 intro nc' ga c w hga hnd hf0 hfz hF hfl hbk
 match ga,hga with
 | [g1],_ =>
 have hnc:nc'=nc:=hf0 nc rfl
 subst hnc
 have hvec:=hbk 0 _ g1 rfl rfl _ (e2 g1)
 refine ⟨_,b,e1 g1,by kernel_rfl,?_⟩
 have hlen:(ag6 m (gV x y z)).length=m:=by simp
 have:=X9 (B1:=B1) (B2:=B2) (c:=c) (us:=ag6 m (gV x y z)) (hb.move (EO hF)) (by rw [hlen,hm]) (by simp at hnd; omega) hfl hvec
 rw [hr,hlen] at this
 refine this.mono ?_
 rintro r w' ⟨gl,k1,k2,rfl,k4,k5⟩
 exact ⟨[gl],_,rfl,by simpa using ⟨k1,k2⟩,by simp,rfl,rfl,fun i bi g hi hg=>by
  match i,hi,hg with
  | 0,hi,hg=>simp at hi hg; subst hi; subst hg; exact ⟨_,e3 g1 _,k4⟩
  | _+1,hi,_=>simp at hi,k5⟩
theorem wH:(dN aeU)=o7 [dZ ((dN aeU)),dZ ((fU (dN aeU))),dZ ((fU (fU (dN aeU)))),dZ ((sR 3 (dN aeU))),dZ ((sR 4 (dN aeU))),dZ ((sR 5 (dN aeU)))] ((sR 6 (dN aeU))):=by kernel_rfl
variable {gl:Nat} {r0:Int×Int} {a:Act} {R:Ending→World→Prop}
theorem KN (hown:∀g∈[nc,gl]++[],g∈[nc]∨w0.heap.size≤g) (hnd:([nc,gl]++[]).Nodup) (h:dP (dS 58 [(10,.slice (some ⟨gl,0,none⟩) 1 1)]) [(nc,[.bool f],88),(gl,(eP [r0]).map num,23)] [] a w) (hk:dO w0 [nc] w)
  (hQ:∀a' w',dP (dS 58 [(10,.slice (some ⟨gl,0,none⟩) 1 1)]) [(nc,[.bool f],88),(gl,(eP [iP r0]).map num,23)] [] a' w'→dO w0 [nc] w'→R (.returned (.slice (some ⟨gl,0,none⟩) 1 1)) w') :
  ((sR 6 (dN aeU))).wp aa (bodyPost aa aeU R) a w :=
 qQ (qo 0 0 0 [r0]) [f] [] (g:=[]) (wt:=[]) (lt:=[]) (sb:=[]) (T:=[]) (K:=[]) (RT:=[]) (wb:=[]) (ws:=[]) (fr:=fK 58 [(10,.slice (some ⟨1,0,none⟩) 1 1)]) (H:=[dQ [mB 1 [.int .i64 0]] 88,C9 1]) (lo:=[]) (u:=.slice (some ⟨gl,0,none⟩) 1 1) 45 [0,1] [] (by kernel_rfl) (by kernel_rfl) (by exact hnd) ⟨fB _,gG,gD,fT,il _ _,fw (by exact hown),gH,fun _=>iI⟩ h hk hQ
theorem acJ {ms:List MB} (hb:kr w nc 1 B0 B3 ms) (hm:ms.length=0) (hr:gm ms (ag6 0 (gV x y z)) (ag6 1 (0,0),false) ms.length=([r0],b)) (hfl:w.heap[nc]?=some (.cells #[.bool f] 88 (0,0))) :
  Calls aa 45 #[.agg ⟨[dK nc,dJ B0,dJ B1,dJ B2,dJ B3]⟩,.agg ⟨[num x,num y,num z]⟩] w (uH w nc 1 ([iP r0],f||b)):=by
 have hnc:nc<w.heap.size:=(aB.1 hfl).1
 refine calls_of_wp Tryz.func45 (c:=(dN aeU)) (by kernel_rfl) ?_
 rw [wH]
 have hst:dP ([some (.agg ⟨[dK nc,dJ B0,dJ B1,dJ B2,dJ B3]⟩),some (.agg ⟨[num x,num y,num z]⟩)]++ag6 56 (some undef)) [(nc,[.bool f],88)] [] { tmps:=#[.agg ⟨[dK nc,dJ B0,dJ B1,dJ B2,dJ B3]⟩,.agg ⟨[num x,num y,num z]⟩]++aji (aeU.ntmps - 2) undef,defers:=[] } w :=
  qF (xs:=[.agg ⟨[dK nc,dJ B0,dJ B1,dJ B2,dJ B3]⟩,.agg ⟨[num x,num y,num z]⟩]) (m:=56) rfl (by simp [hfl]) (by simp)
 refine jZ (qo x y z [r0]) [f,b] [B0,B1,B2,B3] (g:=[]) (wt:=[]) (lt:=[(3,.int .i64 0)]) (sb:=[]) (T:=[]) (K:=uI 1 0) (RT:=[]) (wb:=[]) (ws:=[]) (fr:=[.agg ⟨uM⟩,.agg ⟨[var 0,var 1,var 2]⟩]++ag6 56 undef) (H:=[dQ [mB 1 [.int .i64 0]] 88]) (lo:=[]) (us':=fun ng _=>dS 58 [(10,.slice (some ⟨ng.getD 1 0,0,none⟩) 1 1)]) (gs':=fun ng _=>[(nc,[.bool (f||b)],88),(ng.getD 1 0,(eP [r0]).map num,23)]) (ls':=fun _ _=>[]) 45 _ [0,2] [] [8,10] [] (fun ng nl e1 e2=>?_) (by kernel_rfl) (fun ng nl e1 e2 e3=>?_) ⟨fB _,gG,?_,fT,il _ _,fw (by simp),gH,fun _=>?_⟩ hst (dO.refl w [nc]) (fun a' w' ng nl e1 e2 e3 e4 hs hk'=>?_)
 ·match ng,nl,e1,e2 with
  | [g1,g2],[],_,_=>show (_:Option _)=_; kernel_rfl
 ·match ng,nl,e1,e2 with
  | [g1,g2],[],_,_=>simp at e3 ⊢; exact e3.1.2
 ·exact wJ hb hm hr (fun _=>by kernel_rfl) (fun _=>by kernel_rfl) (fun _ _=>by kernel_rfl)
 ·refine ⟨(fun e he=>by cases he),fun e he=>?_,fun e he=>by cases he⟩
  simp only [fG,ag,ae,or_false] at he
  subst he
  exact ⟨2,by show some (num 0)=some (.int .i64 (B3.2.1:Nat)); rw [hb.b3,hm]; rfl⟩
 ·match ng,nl,e1,e2 with
  | [g1,g2],[],_,_ =>
   have h2:=e4 g2 (by simp)
   refine KN (f:=f||b) (fun g hg=>?_) (by simp at e3 ⊢; exact e3.1.2) hs hk' fun a6 w6 s6 k6=>?_
   ·simp only [dw,dD,ag,ae,or_false] at hg
    rcases hg with rfl | rfl
    ·exact .inl (by simp)
    ·exact .inr h2.1
   ·have q1:=s6.gl _ aA
    have q2:=s6.gl _ (aT _ aA)
    exact ⟨g2,h2.1,(aB.1 q2).1,rfl,q2,uP k6 q1⟩
theorem acK {ms:List MB} (hb:kr w nc 1 B0 B3 ms) (hm:ms.length=1) (hr:gm ms (ag6 1 (gV x y z)) (ag6 1 (0,0),false) ms.length=([r0],b)) (hfl:w.heap[nc]?=some (.cells #[.bool f] 88 (0,0))) :
  Calls aa 45 #[.agg ⟨[dK nc,dJ B0,dJ B1,dJ B2,dJ B3]⟩,.agg ⟨[num x,num y,num z]⟩] w (uH w nc 1 ([iP r0],f||b)):=by
 have hnc:nc<w.heap.size:=(aB.1 hfl).1
 refine calls_of_wp Tryz.func45 (c:=(dN aeU)) (by kernel_rfl) ?_
 rw [wH]
 have hst:dP ([some (.agg ⟨[dK nc,dJ B0,dJ B1,dJ B2,dJ B3]⟩),some (.agg ⟨[num x,num y,num z]⟩)]++ag6 56 (some undef)) [(nc,[.bool f],88)] [] { tmps:=#[.agg ⟨[dK nc,dJ B0,dJ B1,dJ B2,dJ B3]⟩,.agg ⟨[num x,num y,num z]⟩]++aji (aeU.ntmps - 2) undef,defers:=[] } w :=
  qF (xs:=[.agg ⟨[dK nc,dJ B0,dJ B1,dJ B2,dJ B3]⟩,.agg ⟨[num x,num y,num z]⟩]) (m:=56) rfl (by simp [hfl]) (by simp)
 refine jZ (qo x y z [r0]) [f,b] [B0,B1,B2,B3] (g:=[]) (wt:=[]) (lt:=[(3,.int .i64 1)]) (sb:=[]) (T:=[]) (K:=uI 1 1) (RT:=[]) (wb:=[]) (ws:=[]) (fr:=[.agg ⟨uM⟩,.agg ⟨[var 0,var 1,var 2]⟩]++ag6 56 undef) (H:=[dQ [mB 1 [.int .i64 0]] 88]) (lo:=[]) (us':=fun ng _=>dS 58 [(10,.slice (some ⟨ng.getD 1 0,0,none⟩) 1 1)]) (gs':=fun ng _=>[(nc,[.bool (f||b)],88),(ng.getD 1 0,(eP [r0]).map num,23)]) (ls':=fun _ _=>[]) 45 _ [0,2] [] [8,10] [] (fun ng nl e1 e2=>?_) (by kernel_rfl) (fun ng nl e1 e2 e3=>?_) ⟨fB _,gG,?_,fT,il _ _,fw (by simp),gH,fun _=>?_⟩ hst (dO.refl w [nc]) (fun a' w' ng nl e1 e2 e3 e4 hs hk'=>?_)
 ·match ng,nl,e1,e2 with
  | [g1,g2],[],_,_=>show (_:Option _)=_; kernel_rfl
 ·match ng,nl,e1,e2 with
  | [g1,g2],[],_,_=>simp at e3 ⊢; exact e3.1.2
 ·exact wJ hb hm hr (fun _=>by kernel_rfl) (fun _=>by kernel_rfl) (fun _ _=>by kernel_rfl)
 ·refine ⟨(fun e he=>by cases he),fun e he=>?_,fun e he=>by cases he⟩
  simp only [fG,ag,ae,or_false] at he
  subst he
  exact ⟨2,by show some (num 1)=some (.int .i64 (B3.2.1:Nat)); rw [hb.b3,hm]; rfl⟩
 ·match ng,nl,e1,e2 with
  | [g1,g2],[],_,_ =>
   have h2:=e4 g2 (by simp)
   refine KN (f:=f||b) (fun g hg=>?_) (by simp at e3 ⊢; exact e3.1.2) hs hk' fun a6 w6 s6 k6=>?_
   ·simp only [dw,dD,ag,ae,or_false] at hg
    rcases hg with rfl | rfl
    ·exact .inl (by simp)
    ·exact .inr h2.1
   ·have q1:=s6.gl _ aA
    have q2:=s6.gl _ (aT _ aA)
    exact ⟨g2,h2.1,(aB.1 q2).1,rfl,q2,uP k6 q1⟩
theorem acL {ms:List MB} (hb:kr w nc 1 B0 B3 ms) (hm:ms.length=2) (hr:gm ms (ag6 2 (gV x y z)) (ag6 1 (0,0),false) ms.length=([r0],b)) (hfl:w.heap[nc]?=some (.cells #[.bool f] 88 (0,0))) :
  Calls aa 45 #[.agg ⟨[dK nc,dJ B0,dJ B1,dJ B2,dJ B3]⟩,.agg ⟨[num x,num y,num z]⟩] w (uH w nc 1 ([iP r0],f||b)):=by
 have hnc:nc<w.heap.size:=(aB.1 hfl).1
 refine calls_of_wp Tryz.func45 (c:=(dN aeU)) (by kernel_rfl) ?_
 rw [wH]
 have hst:dP ([some (.agg ⟨[dK nc,dJ B0,dJ B1,dJ B2,dJ B3]⟩),some (.agg ⟨[num x,num y,num z]⟩)]++ag6 56 (some undef)) [(nc,[.bool f],88)] [] { tmps:=#[.agg ⟨[dK nc,dJ B0,dJ B1,dJ B2,dJ B3]⟩,.agg ⟨[num x,num y,num z]⟩]++aji (aeU.ntmps - 2) undef,defers:=[] } w :=
  qF (xs:=[.agg ⟨[dK nc,dJ B0,dJ B1,dJ B2,dJ B3]⟩,.agg ⟨[num x,num y,num z]⟩]) (m:=56) rfl (by simp [hfl]) (by simp)
 refine jZ (qo x y z [r0]) [f,b] [B0,B1,B2,B3] (g:=[]) (wt:=[]) (lt:=[(3,.int .i64 2)]) (sb:=[]) (T:=[]) (K:=uI 1 2) (RT:=[]) (wb:=[]) (ws:=[]) (fr:=[.agg ⟨uM⟩,.agg ⟨[var 0,var 1,var 2]⟩]++ag6 56 undef) (H:=[dQ [mB 1 [.int .i64 0]] 88]) (lo:=[]) (us':=fun ng _=>dS 58 [(10,.slice (some ⟨ng.getD 1 0,0,none⟩) 1 1)]) (gs':=fun ng _=>[(nc,[.bool (f||b)],88),(ng.getD 1 0,(eP [r0]).map num,23)]) (ls':=fun _ _=>[]) 45 _ [0,2] [] [8,10] [] (fun ng nl e1 e2=>?_) (by kernel_rfl) (fun ng nl e1 e2 e3=>?_) ⟨fB _,gG,?_,fT,il _ _,fw (by simp),gH,fun _=>?_⟩ hst (dO.refl w [nc]) (fun a' w' ng nl e1 e2 e3 e4 hs hk'=>?_)
 ·match ng,nl,e1,e2 with
  | [g1,g2],[],_,_=>show (_:Option _)=_; kernel_rfl
 ·match ng,nl,e1,e2 with
  | [g1,g2],[],_,_=>simp at e3 ⊢; exact e3.1.2
 ·exact wJ hb hm hr (fun _=>by kernel_rfl) (fun _=>by kernel_rfl) (fun _ _=>by kernel_rfl)
 ·refine ⟨(fun e he=>by cases he),fun e he=>?_,fun e he=>by cases he⟩
  simp only [fG,ag,ae,or_false] at he
  subst he
  exact ⟨2,by show some (num 2)=some (.int .i64 (B3.2.1:Nat)); rw [hb.b3,hm]; rfl⟩
 ·match ng,nl,e1,e2 with
  | [g1,g2],[],_,_ =>
   have h2:=e4 g2 (by simp)
   refine KN (f:=f||b) (fun g hg=>?_) (by simp at e3 ⊢; exact e3.1.2) hs hk' fun a6 w6 s6 k6=>?_
   ·simp only [dw,dD,ag,ae,or_false] at hg
    rcases hg with rfl | rfl
    ·exact .inl (by simp)
    ·exact .inr h2.1
   ·have q1:=s6.gl _ aA
    have q2:=s6.gl _ (aT _ aA)
    exact ⟨g2,h2.1,(aB.1 q2).1,rfl,q2,uP k6 q1⟩
variable {r1:Int×Int}
theorem KO (hown:∀g∈[nc,gl]++[],g∈[nc]∨w0.heap.size≤g) (hnd:([nc,gl]++[]).Nodup) (h:dP (dS 58 [(10,.slice (some ⟨gl,0,none⟩) 2 2)]) [(nc,[.bool f],88),(gl,(eP [r0,r1]).map num,23)] [] a w) (hk:dO w0 [nc] w)
  (hQ:∀a' w',dP (dS 58 [(10,.slice (some ⟨gl,0,none⟩) 2 2)]) [(nc,[.bool f],88),(gl,(eP [iP r0,iP r1]).map num,23)] [] a' w'→dO w0 [nc] w'→R (.returned (.slice (some ⟨gl,0,none⟩) 2 2)) w') :
  ((sR 6 (dN aeU))).wp aa (bodyPost aa aeU R) a w :=
 qQ (qo 0 0 0 [r0,r1]) [f] [] (g:=[]) (wt:=[]) (lt:=[]) (sb:=[]) (T:=[]) (K:=[]) (RT:=[]) (wb:=[]) (ws:=[]) (fr:=fK 58 [(10,.slice (some ⟨1,0,none⟩) 2 2)]) (H:=[dQ [mB 1 [.int .i64 0]] 88,C9 2]) (lo:=[]) (u:=.slice (some ⟨gl,0,none⟩) 2 2) 45 [0,1] [] (by kernel_rfl) (by kernel_rfl) (by exact hnd) ⟨fB _,gG,gD,fT,il _ _,fw (by exact hown),gH,fun _=>iI⟩ h hk hQ
theorem acM {ms:List MB} (hb:kr w nc 2 B0 B3 ms) (hm:ms.length=0) (hr:gm ms (ag6 0 (gV x y z)) (ag6 2 (0,0),false) ms.length=([r0,r1],b)) (hfl:w.heap[nc]?=some (.cells #[.bool f] 88 (0,0))) :
  Calls aa 45 #[.agg ⟨[dK nc,dJ B0,dJ B1,dJ B2,dJ B3]⟩,.agg ⟨[num x,num y,num z]⟩] w (uH w nc 2 ([iP r0,iP r1],f||b)):=by
 have hnc:nc<w.heap.size:=(aB.1 hfl).1
 refine calls_of_wp Tryz.func45 (c:=(dN aeU)) (by kernel_rfl) ?_
 rw [wH]
 have hst:dP ([some (.agg ⟨[dK nc,dJ B0,dJ B1,dJ B2,dJ B3]⟩),some (.agg ⟨[num x,num y,num z]⟩)]++ag6 56 (some undef)) [(nc,[.bool f],88)] [] { tmps:=#[.agg ⟨[dK nc,dJ B0,dJ B1,dJ B2,dJ B3]⟩,.agg ⟨[num x,num y,num z]⟩]++aji (aeU.ntmps - 2) undef,defers:=[] } w :=
  qF (xs:=[.agg ⟨[dK nc,dJ B0,dJ B1,dJ B2,dJ B3]⟩,.agg ⟨[num x,num y,num z]⟩]) (m:=56) rfl (by simp [hfl]) (by simp)
 refine jZ (qo x y z [r0,r1]) [f,b] [B0,B1,B2,B3] (g:=[]) (wt:=[]) (lt:=[(3,.int .i64 0)]) (sb:=[]) (T:=[]) (K:=uI 2 0) (RT:=[]) (wb:=[]) (ws:=[]) (fr:=[.agg ⟨uM⟩,.agg ⟨[var 0,var 1,var 2]⟩]++ag6 56 undef) (H:=[dQ [mB 1 [.int .i64 0]] 88]) (lo:=[]) (us':=fun ng _=>dS 58 [(10,.slice (some ⟨ng.getD 1 0,0,none⟩) 2 2)]) (gs':=fun ng _=>[(nc,[.bool (f||b)],88),(ng.getD 1 0,(eP [r0,r1]).map num,23)]) (ls':=fun _ _=>[]) 45 _ [0,2] [] [8,10] [] (fun ng nl e1 e2=>?_) (by kernel_rfl) (fun ng nl e1 e2 e3=>?_) ⟨fB _,gG,?_,fT,il _ _,fw (by simp),gH,fun _=>?_⟩ hst (dO.refl w [nc]) (fun a' w' ng nl e1 e2 e3 e4 hs hk'=>?_)
 ·match ng,nl,e1,e2 with
  | [g1,g2],[],_,_=>show (_:Option _)=_; kernel_rfl
 ·match ng,nl,e1,e2 with
  | [g1,g2],[],_,_=>simp at e3 ⊢; exact e3.1.2
 ·exact wJ hb hm hr (fun _=>by kernel_rfl) (fun _=>by kernel_rfl) (fun _ _=>by kernel_rfl)
 ·refine ⟨(fun e he=>by cases he),fun e he=>?_,fun e he=>by cases he⟩
  simp only [fG,ag,ae,or_false] at he
  subst he
  exact ⟨2,by show some (num 0)=some (.int .i64 (B3.2.1:Nat)); rw [hb.b3,hm]; rfl⟩
 ·match ng,nl,e1,e2 with
  | [g1,g2],[],_,_ =>
   have h2:=e4 g2 (by simp)
   refine KO (f:=f||b) (fun g hg=>?_) (by simp at e3 ⊢; exact e3.1.2) hs hk' fun a6 w6 s6 k6=>?_
   ·simp only [dw,dD,ag,ae,or_false] at hg
    rcases hg with rfl | rfl
    ·exact .inl (by simp)
    ·exact .inr h2.1
   ·have q1:=s6.gl _ aA
    have q2:=s6.gl _ (aT _ aA)
    exact ⟨g2,h2.1,(aB.1 q2).1,rfl,q2,uP k6 q1⟩
theorem acN {ms:List MB} (hb:kr w nc 2 B0 B3 ms) (hm:ms.length=1) (hr:gm ms (ag6 1 (gV x y z)) (ag6 2 (0,0),false) ms.length=([r0,r1],b)) (hfl:w.heap[nc]?=some (.cells #[.bool f] 88 (0,0))) :
  Calls aa 45 #[.agg ⟨[dK nc,dJ B0,dJ B1,dJ B2,dJ B3]⟩,.agg ⟨[num x,num y,num z]⟩] w (uH w nc 2 ([iP r0,iP r1],f||b)):=by
 have hnc:nc<w.heap.size:=(aB.1 hfl).1
 refine calls_of_wp Tryz.func45 (c:=(dN aeU)) (by kernel_rfl) ?_
 rw [wH]
 have hst:dP ([some (.agg ⟨[dK nc,dJ B0,dJ B1,dJ B2,dJ B3]⟩),some (.agg ⟨[num x,num y,num z]⟩)]++ag6 56 (some undef)) [(nc,[.bool f],88)] [] { tmps:=#[.agg ⟨[dK nc,dJ B0,dJ B1,dJ B2,dJ B3]⟩,.agg ⟨[num x,num y,num z]⟩]++aji (aeU.ntmps - 2) undef,defers:=[] } w :=
  qF (xs:=[.agg ⟨[dK nc,dJ B0,dJ B1,dJ B2,dJ B3]⟩,.agg ⟨[num x,num y,num z]⟩]) (m:=56) rfl (by simp [hfl]) (by simp)
 refine jZ (qo x y z [r0,r1]) [f,b] [B0,B1,B2,B3] (g:=[]) (wt:=[]) (lt:=[(3,.int .i64 1)]) (sb:=[]) (T:=[]) (K:=uI 2 1) (RT:=[]) (wb:=[]) (ws:=[]) (fr:=[.agg ⟨uM⟩,.agg ⟨[var 0,var 1,var 2]⟩]++ag6 56 undef) (H:=[dQ [mB 1 [.int .i64 0]] 88]) (lo:=[]) (us':=fun ng _=>dS 58 [(10,.slice (some ⟨ng.getD 1 0,0,none⟩) 2 2)]) (gs':=fun ng _=>[(nc,[.bool (f||b)],88),(ng.getD 1 0,(eP [r0,r1]).map num,23)]) (ls':=fun _ _=>[]) 45 _ [0,2] [] [8,10] [] (fun ng nl e1 e2=>?_) (by kernel_rfl) (fun ng nl e1 e2 e3=>?_) ⟨fB _,gG,?_,fT,il _ _,fw (by simp),gH,fun _=>?_⟩ hst (dO.refl w [nc]) (fun a' w' ng nl e1 e2 e3 e4 hs hk'=>?_)
 ·match ng,nl,e1,e2 with
  | [g1,g2],[],_,_=>show (_:Option _)=_; kernel_rfl
 ·match ng,nl,e1,e2 with
  | [g1,g2],[],_,_=>simp at e3 ⊢; exact e3.1.2
 ·exact wJ hb hm hr (fun _=>by kernel_rfl) (fun _=>by kernel_rfl) (fun _ _=>by kernel_rfl)
 ·refine ⟨(fun e he=>by cases he),fun e he=>?_,fun e he=>by cases he⟩
  simp only [fG,ag,ae,or_false] at he
  subst he
  exact ⟨2,by show some (num 1)=some (.int .i64 (B3.2.1:Nat)); rw [hb.b3,hm]; rfl⟩
 ·match ng,nl,e1,e2 with
  | [g1,g2],[],_,_ =>
   have h2:=e4 g2 (by simp)
   refine KO (f:=f||b) (fun g hg=>?_) (by simp at e3 ⊢; exact e3.1.2) hs hk' fun a6 w6 s6 k6=>?_
   ·simp only [dw,dD,ag,ae,or_false] at hg
    rcases hg with rfl | rfl
    ·exact .inl (by simp)
    ·exact .inr h2.1
   ·have q1:=s6.gl _ aA
    have q2:=s6.gl _ (aT _ aA)
    exact ⟨g2,h2.1,(aB.1 q2).1,rfl,q2,uP k6 q1⟩
theorem acO {ms:List MB} (hb:kr w nc 2 B0 B3 ms) (hm:ms.length=2) (hr:gm ms (ag6 2 (gV x y z)) (ag6 2 (0,0),false) ms.length=([r0,r1],b)) (hfl:w.heap[nc]?=some (.cells #[.bool f] 88 (0,0))) :
  Calls aa 45 #[.agg ⟨[dK nc,dJ B0,dJ B1,dJ B2,dJ B3]⟩,.agg ⟨[num x,num y,num z]⟩] w (uH w nc 2 ([iP r0,iP r1],f||b)):=by
 have hnc:nc<w.heap.size:=(aB.1 hfl).1
 refine calls_of_wp Tryz.func45 (c:=(dN aeU)) (by kernel_rfl) ?_
 rw [wH]
 have hst:dP ([some (.agg ⟨[dK nc,dJ B0,dJ B1,dJ B2,dJ B3]⟩),some (.agg ⟨[num x,num y,num z]⟩)]++ag6 56 (some undef)) [(nc,[.bool f],88)] [] { tmps:=#[.agg ⟨[dK nc,dJ B0,dJ B1,dJ B2,dJ B3]⟩,.agg ⟨[num x,num y,num z]⟩]++aji (aeU.ntmps - 2) undef,defers:=[] } w :=
  qF (xs:=[.agg ⟨[dK nc,dJ B0,dJ B1,dJ B2,dJ B3]⟩,.agg ⟨[num x,num y,num z]⟩]) (m:=56) rfl (by simp [hfl]) (by simp)
 refine jZ (qo x y z [r0,r1]) [f,b] [B0,B1,B2,B3] (g:=[]) (wt:=[]) (lt:=[(3,.int .i64 2)]) (sb:=[]) (T:=[]) (K:=uI 2 2) (RT:=[]) (wb:=[]) (ws:=[]) (fr:=[.agg ⟨uM⟩,.agg ⟨[var 0,var 1,var 2]⟩]++ag6 56 undef) (H:=[dQ [mB 1 [.int .i64 0]] 88]) (lo:=[]) (us':=fun ng _=>dS 58 [(10,.slice (some ⟨ng.getD 1 0,0,none⟩) 2 2)]) (gs':=fun ng _=>[(nc,[.bool (f||b)],88),(ng.getD 1 0,(eP [r0,r1]).map num,23)]) (ls':=fun _ _=>[]) 45 _ [0,2] [] [8,10] [] (fun ng nl e1 e2=>?_) (by kernel_rfl) (fun ng nl e1 e2 e3=>?_) ⟨fB _,gG,?_,fT,il _ _,fw (by simp),gH,fun _=>?_⟩ hst (dO.refl w [nc]) (fun a' w' ng nl e1 e2 e3 e4 hs hk'=>?_)
 ·match ng,nl,e1,e2 with
  | [g1,g2],[],_,_=>show (_:Option _)=_; kernel_rfl
 ·match ng,nl,e1,e2 with
  | [g1,g2],[],_,_=>simp at e3 ⊢; exact e3.1.2
 ·exact wJ hb hm hr (fun _=>by kernel_rfl) (fun _=>by kernel_rfl) (fun _ _=>by kernel_rfl)
 ·refine ⟨(fun e he=>by cases he),fun e he=>?_,fun e he=>by cases he⟩
  simp only [fG,ag,ae,or_false] at he
  subst he
  exact ⟨2,by show some (num 2)=some (.int .i64 (B3.2.1:Nat)); rw [hb.b3,hm]; rfl⟩
 ·match ng,nl,e1,e2 with
  | [g1,g2],[],_,_ =>
   have h2:=e4 g2 (by simp)
   refine KO (f:=f||b) (fun g hg=>?_) (by simp at e3 ⊢; exact e3.1.2) hs hk' fun a6 w6 s6 k6=>?_
   ·simp only [dw,dD,ag,ae,or_false] at hg
    rcases hg with rfl | rfl
    ·exact .inl (by simp)
    ·exact .inr h2.1
   ·have q1:=s6.gl _ aA
    have q2:=s6.gl _ (aT _ aA)
    exact ⟨g2,h2.1,(aB.1 q2).1,rfl,q2,uP k6 q1⟩
variable {r2:Int×Int}
theorem KP (hown:∀g∈[nc,gl]++[],g∈[nc]∨w0.heap.size≤g) (hnd:([nc,gl]++[]).Nodup) (h:dP (dS 58 [(10,.slice (some ⟨gl,0,none⟩) 3 3)]) [(nc,[.bool f],88),(gl,(eP [r0,r1,r2]).map num,23)] [] a w) (hk:dO w0 [nc] w)
  (hQ:∀a' w',dP (dS 58 [(10,.slice (some ⟨gl,0,none⟩) 3 3)]) [(nc,[.bool f],88),(gl,(eP [iP r0,iP r1,iP r2]).map num,23)] [] a' w'→dO w0 [nc] w'→R (.returned (.slice (some ⟨gl,0,none⟩) 3 3)) w') :
  ((sR 6 (dN aeU))).wp aa (bodyPost aa aeU R) a w :=
 qQ (qo 0 0 0 [r0,r1,r2]) [f] [] (g:=[]) (wt:=[]) (lt:=[]) (sb:=[]) (T:=[]) (K:=[]) (RT:=[]) (wb:=[]) (ws:=[]) (fr:=fK 58 [(10,.slice (some ⟨1,0,none⟩) 3 3)]) (H:=[dQ [mB 1 [.int .i64 0]] 88,C9 3]) (lo:=[]) (u:=.slice (some ⟨gl,0,none⟩) 3 3) 45 [0,1] [] (by kernel_rfl) (by kernel_rfl) (by exact hnd) ⟨fB _,gG,gD,fT,il _ _,fw (by exact hown),gH,fun _=>iI⟩ h hk hQ
theorem acP {ms:List MB} (hb:kr w nc 3 B0 B3 ms) (hm:ms.length=0) (hr:gm ms (ag6 0 (gV x y z)) (ag6 3 (0,0),false) ms.length=([r0,r1,r2],b)) (hfl:w.heap[nc]?=some (.cells #[.bool f] 88 (0,0))) :
  Calls aa 45 #[.agg ⟨[dK nc,dJ B0,dJ B1,dJ B2,dJ B3]⟩,.agg ⟨[num x,num y,num z]⟩] w (uH w nc 3 ([iP r0,iP r1,iP r2],f||b)):=by
 have hnc:nc<w.heap.size:=(aB.1 hfl).1
 refine calls_of_wp Tryz.func45 (c:=(dN aeU)) (by kernel_rfl) ?_
 rw [wH]
 have hst:dP ([some (.agg ⟨[dK nc,dJ B0,dJ B1,dJ B2,dJ B3]⟩),some (.agg ⟨[num x,num y,num z]⟩)]++ag6 56 (some undef)) [(nc,[.bool f],88)] [] { tmps:=#[.agg ⟨[dK nc,dJ B0,dJ B1,dJ B2,dJ B3]⟩,.agg ⟨[num x,num y,num z]⟩]++aji (aeU.ntmps - 2) undef,defers:=[] } w :=
  qF (xs:=[.agg ⟨[dK nc,dJ B0,dJ B1,dJ B2,dJ B3]⟩,.agg ⟨[num x,num y,num z]⟩]) (m:=56) rfl (by simp [hfl]) (by simp)
 refine jZ (qo x y z [r0,r1,r2]) [f,b] [B0,B1,B2,B3] (g:=[]) (wt:=[]) (lt:=[(3,.int .i64 0)]) (sb:=[]) (T:=[]) (K:=uI 3 0) (RT:=[]) (wb:=[]) (ws:=[]) (fr:=[.agg ⟨uM⟩,.agg ⟨[var 0,var 1,var 2]⟩]++ag6 56 undef) (H:=[dQ [mB 1 [.int .i64 0]] 88]) (lo:=[]) (us':=fun ng _=>dS 58 [(10,.slice (some ⟨ng.getD 1 0,0,none⟩) 3 3)]) (gs':=fun ng _=>[(nc,[.bool (f||b)],88),(ng.getD 1 0,(eP [r0,r1,r2]).map num,23)]) (ls':=fun _ _=>[]) 45 _ [0,2] [] [8,10] [] (fun ng nl e1 e2=>?_) (by kernel_rfl) (fun ng nl e1 e2 e3=>?_) ⟨fB _,gG,?_,fT,il _ _,fw (by simp),gH,fun _=>?_⟩ hst (dO.refl w [nc]) (fun a' w' ng nl e1 e2 e3 e4 hs hk'=>?_)
 ·match ng,nl,e1,e2 with
  | [g1,g2],[],_,_=>show (_:Option _)=_; kernel_rfl
 ·match ng,nl,e1,e2 with
  | [g1,g2],[],_,_=>simp at e3 ⊢; exact e3.1.2
 ·exact wJ hb hm hr (fun _=>by kernel_rfl) (fun _=>by kernel_rfl) (fun _ _=>by kernel_rfl)
 ·refine ⟨(fun e he=>by cases he),fun e he=>?_,fun e he=>by cases he⟩
  simp only [fG,ag,ae,or_false] at he
  subst he
  exact ⟨2,by show some (num 0)=some (.int .i64 (B3.2.1:Nat)); rw [hb.b3,hm]; rfl⟩
 ·match ng,nl,e1,e2 with
  | [g1,g2],[],_,_ =>
   have h2:=e4 g2 (by simp)
   refine KP (f:=f||b) (fun g hg=>?_) (by simp at e3 ⊢; exact e3.1.2) hs hk' fun a6 w6 s6 k6=>?_
   ·simp only [dw,dD,ag,ae,or_false] at hg
    rcases hg with rfl | rfl
    ·exact .inl (by simp)
    ·exact .inr h2.1
   ·have q1:=s6.gl _ aA
    have q2:=s6.gl _ (aT _ aA)
    exact ⟨g2,h2.1,(aB.1 q2).1,rfl,q2,uP k6 q1⟩
theorem acQ {ms:List MB} (hb:kr w nc 3 B0 B3 ms) (hm:ms.length=1) (hr:gm ms (ag6 1 (gV x y z)) (ag6 3 (0,0),false) ms.length=([r0,r1,r2],b)) (hfl:w.heap[nc]?=some (.cells #[.bool f] 88 (0,0))) :
  Calls aa 45 #[.agg ⟨[dK nc,dJ B0,dJ B1,dJ B2,dJ B3]⟩,.agg ⟨[num x,num y,num z]⟩] w (uH w nc 3 ([iP r0,iP r1,iP r2],f||b)):=by
 have hnc:nc<w.heap.size:=(aB.1 hfl).1
 refine calls_of_wp Tryz.func45 (c:=(dN aeU)) (by kernel_rfl) ?_
 rw [wH]
 have hst:dP ([some (.agg ⟨[dK nc,dJ B0,dJ B1,dJ B2,dJ B3]⟩),some (.agg ⟨[num x,num y,num z]⟩)]++ag6 56 (some undef)) [(nc,[.bool f],88)] [] { tmps:=#[.agg ⟨[dK nc,dJ B0,dJ B1,dJ B2,dJ B3]⟩,.agg ⟨[num x,num y,num z]⟩]++aji (aeU.ntmps - 2) undef,defers:=[] } w :=
  qF (xs:=[.agg ⟨[dK nc,dJ B0,dJ B1,dJ B2,dJ B3]⟩,.agg ⟨[num x,num y,num z]⟩]) (m:=56) rfl (by simp [hfl]) (by simp)
 refine jZ (qo x y z [r0,r1,r2]) [f,b] [B0,B1,B2,B3] (g:=[]) (wt:=[]) (lt:=[(3,.int .i64 1)]) (sb:=[]) (T:=[]) (K:=uI 3 1) (RT:=[]) (wb:=[]) (ws:=[]) (fr:=[.agg ⟨uM⟩,.agg ⟨[var 0,var 1,var 2]⟩]++ag6 56 undef) (H:=[dQ [mB 1 [.int .i64 0]] 88]) (lo:=[]) (us':=fun ng _=>dS 58 [(10,.slice (some ⟨ng.getD 1 0,0,none⟩) 3 3)]) (gs':=fun ng _=>[(nc,[.bool (f||b)],88),(ng.getD 1 0,(eP [r0,r1,r2]).map num,23)]) (ls':=fun _ _=>[]) 45 _ [0,2] [] [8,10] [] (fun ng nl e1 e2=>?_) (by kernel_rfl) (fun ng nl e1 e2 e3=>?_) ⟨fB _,gG,?_,fT,il _ _,fw (by simp),gH,fun _=>?_⟩ hst (dO.refl w [nc]) (fun a' w' ng nl e1 e2 e3 e4 hs hk'=>?_)
 ·match ng,nl,e1,e2 with
  | [g1,g2],[],_,_=>show (_:Option _)=_; kernel_rfl
 ·match ng,nl,e1,e2 with
  | [g1,g2],[],_,_=>simp at e3 ⊢; exact e3.1.2
 ·exact wJ hb hm hr (fun _=>by kernel_rfl) (fun _=>by kernel_rfl) (fun _ _=>by kernel_rfl)
 ·refine ⟨(fun e he=>by cases he),fun e he=>?_,fun e he=>by cases he⟩
  simp only [fG,ag,ae,or_false] at he
  subst he
  exact ⟨2,by show some (num 1)=some (.int .i64 (B3.2.1:Nat)); rw [hb.b3,hm]; rfl⟩
 ·match ng,nl,e1,e2 with
  | [g1,g2],[],_,_ =>
   have h2:=e4 g2 (by simp)
   refine KP (f:=f||b) (fun g hg=>?_) (by simp at e3 ⊢; exact e3.1.2) hs hk' fun a6 w6 s6 k6=>?_
   ·simp only [dw,dD,ag,ae,or_false] at hg
    rcases hg with rfl | rfl
    ·exact .inl (by simp)
    ·exact .inr h2.1
   ·have q1:=s6.gl _ aA
    have q2:=s6.gl _ (aT _ aA)
    exact ⟨g2,h2.1,(aB.1 q2).1,rfl,q2,uP k6 q1⟩
theorem acR {ms:List MB} (hb:kr w nc 3 B0 B3 ms) (hm:ms.length=2) (hr:gm ms (ag6 2 (gV x y z)) (ag6 3 (0,0),false) ms.length=([r0,r1,r2],b)) (hfl:w.heap[nc]?=some (.cells #[.bool f] 88 (0,0))) :
  Calls aa 45 #[.agg ⟨[dK nc,dJ B0,dJ B1,dJ B2,dJ B3]⟩,.agg ⟨[num x,num y,num z]⟩] w (uH w nc 3 ([iP r0,iP r1,iP r2],f||b)):=by
 have hnc:nc<w.heap.size:=(aB.1 hfl).1
 refine calls_of_wp Tryz.func45 (c:=(dN aeU)) (by kernel_rfl) ?_
 rw [wH]
 have hst:dP ([some (.agg ⟨[dK nc,dJ B0,dJ B1,dJ B2,dJ B3]⟩),some (.agg ⟨[num x,num y,num z]⟩)]++ag6 56 (some undef)) [(nc,[.bool f],88)] [] { tmps:=#[.agg ⟨[dK nc,dJ B0,dJ B1,dJ B2,dJ B3]⟩,.agg ⟨[num x,num y,num z]⟩]++aji (aeU.ntmps - 2) undef,defers:=[] } w :=
  qF (xs:=[.agg ⟨[dK nc,dJ B0,dJ B1,dJ B2,dJ B3]⟩,.agg ⟨[num x,num y,num z]⟩]) (m:=56) rfl (by simp [hfl]) (by simp)
 refine jZ (qo x y z [r0,r1,r2]) [f,b] [B0,B1,B2,B3] (g:=[]) (wt:=[]) (lt:=[(3,.int .i64 2)]) (sb:=[]) (T:=[]) (K:=uI 3 2) (RT:=[]) (wb:=[]) (ws:=[]) (fr:=[.agg ⟨uM⟩,.agg ⟨[var 0,var 1,var 2]⟩]++ag6 56 undef) (H:=[dQ [mB 1 [.int .i64 0]] 88]) (lo:=[]) (us':=fun ng _=>dS 58 [(10,.slice (some ⟨ng.getD 1 0,0,none⟩) 3 3)]) (gs':=fun ng _=>[(nc,[.bool (f||b)],88),(ng.getD 1 0,(eP [r0,r1,r2]).map num,23)]) (ls':=fun _ _=>[]) 45 _ [0,2] [] [8,10] [] (fun ng nl e1 e2=>?_) (by kernel_rfl) (fun ng nl e1 e2 e3=>?_) ⟨fB _,gG,?_,fT,il _ _,fw (by simp),gH,fun _=>?_⟩ hst (dO.refl w [nc]) (fun a' w' ng nl e1 e2 e3 e4 hs hk'=>?_)
 ·match ng,nl,e1,e2 with
  | [g1,g2],[],_,_=>show (_:Option _)=_; kernel_rfl
 ·match ng,nl,e1,e2 with
  | [g1,g2],[],_,_=>simp at e3 ⊢; exact e3.1.2
 ·exact wJ hb hm hr (fun _=>by kernel_rfl) (fun _=>by kernel_rfl) (fun _ _=>by kernel_rfl)
 ·refine ⟨(fun e he=>by cases he),fun e he=>?_,fun e he=>by cases he⟩
  simp only [fG,ag,ae,or_false] at he
  subst he
  exact ⟨2,by show some (num 2)=some (.int .i64 (B3.2.1:Nat)); rw [hb.b3,hm]; rfl⟩
 ·match ng,nl,e1,e2 with
  | [g1,g2],[],_,_ =>
   have h2:=e4 g2 (by simp)
   refine KP (f:=f||b) (fun g hg=>?_) (by simp at e3 ⊢; exact e3.1.2) hs hk' fun a6 w6 s6 k6=>?_
   ·simp only [dw,dD,ag,ae,or_false] at hg
    rcases hg with rfl | rfl
    ·exact .inl (by simp)
    ·exact .inr h2.1
   ·have q1:=s6.gl _ aA
    have q2:=s6.gl _ (aT _ aA)
    exact ⟨g2,h2.1,(aB.1 q2).1,rfl,q2,uP k6 q1⟩
def iU (ms:List MB) (n:Nat) (x y z:Int):List (Int×Int)×Bool:=gm ms (ag6 ms.length (gV x y z)) (ag6 n (0,0),false) ms.length
theorem KY {ms:List MB} (hb:kr w nc n B0 B3 ms) (hfl:w.heap[nc]?=some (.cells #[.bool f] 88 (0,0))) :
  Calls aa 45 #[.agg ⟨[dK nc,dJ B0,dJ B1,dJ B2,dJ B3]⟩,.agg ⟨[num x,num y,num z]⟩] w (uH w nc n ((iU ms n x y z).1.map iP,f||(iU ms n x y z).2)):=by
 generalize hq:iU ms n x y z=q
 obtain ⟨rs,b⟩:=q
 have hl:rs.length=n:=by
  have:=ry ms (ag6 ms.length (gV x y z)) (ag6 n (0,0),false) ms.length
  unfold iU at hq
  rw [hq] at this
  simpa using this
 unfold iU at hq
 obtain ⟨n1,n2⟩:=hb.n1
 have hm:ms.length=0∨ms.length=1∨ms.length=2:=by have:=hb.m2; omega
 obtain rfl | rfl | rfl:n=1∨n=2∨n=3:=by omega
 ·match rs,hl with
  | [r0],_ =>
   rcases hm with h | h | h
   ·exact acJ hb h (by rw [h] at hq ⊢; exact hq) hfl
   ·exact acK hb h (by rw [h] at hq ⊢; exact hq) hfl
   ·exact acL hb h (by rw [h] at hq ⊢; exact hq) hfl
 ·match rs,hl with
  | [r0,r1],_ =>
   rcases hm with h | h | h
   ·exact acM hb h (by rw [h] at hq ⊢; exact hq) hfl
   ·exact acN hb h (by rw [h] at hq ⊢; exact hq) hfl
   ·exact acO hb h (by rw [h] at hq ⊢; exact hq) hfl
 ·match rs,hl with
  | [r0,r1,r2],_ =>
   rcases hm with h | h | h
   ·exact acP hb h (by rw [h] at hq ⊢; exact hq) hfl
   ·exact acQ hb h (by rw [h] at hq ⊢; exact hq) hfl
   ·exact acR hb h (by rw [h] at hq ⊢; exact hq) hfl
end Go.Proofs
end
section
namespace Go.Proofs
open Go.Sm Go.RowKit En
def mulR (x y:Int×Int):Int×Int:=(Nc x.1 x.2 y.1 y.2,Nf x.1 x.2 y.1 y.2)
def wR (x y:Int×Int):Bool:=Co false x.1 x.2 y.1 y.2
def Cs (v u:V6):V6:=⟨UT v.a v.b v.c v.d v.e v.f u.a u.b u.c u.d u.e u.f,UU v.a v.b v.c v.d v.e v.f u.a u.b u.c u.d u.e u.f,UW v.a v.b v.c v.d v.e v.f u.a u.b u.c u.d u.e u.f,UX v.a v.b v.c v.d v.e v.f u.a u.b u.c u.d u.e u.f,UY v.a v.b v.c v.d v.e v.f u.a u.b u.c u.d u.e u.f,UZ v.a v.b v.c v.d v.e v.f u.a u.b u.c u.d u.e u.f⟩
def El (v u:V6):Bool:=BP false v.a v.b v.c v.d v.e v.f u.a u.b u.c u.d u.e u.f
theorem Ej (c:Bool) (a0 a1 a2 a3:Int):Co c a0 a1 a2 a3=(c||Co false a0 a1 a2 a3):=by unfold Co; cases c<;>simp
theorem MX (c:Bool) (a0 a1 a2 a3:Int):wI c a0 a1 a2 a3=(c||wI false a0 a1 a2 a3):=by unfold wI; cases c<;>simp
theorem alB (c:Bool) (a0 a1 a2 a3 a4 a5 a6 a7 a8 a9 a10 a11:Int):BP c a0 a1 a2 a3 a4 a5 a6 a7 a8 a9 a10 a11=(c||BP false a0 a1 a2 a3 a4 a5 a6 a7 a8 a9 a10 a11):=by unfold BP; cases c<;>simp
theorem DK (c:Bool) (a0 a1 a2 a3 a4 a5 a6 a7 a8 a9 a10 a11:Int):DJ c a0 a1 a2 a3 a4 a5 a6 a7 a8 a9 a10 a11=(c||DJ false a0 a1 a2 a3 a4 a5 a6 a7 a8 a9 a10 a11):=by unfold DJ; cases c<;>simp
theorem DT (c:Bool) (a0 a1 a2 a3 a4 a5 a6 a7:Int):DR c a0 a1 a2 a3 a4 a5 a6 a7=(c||DR false a0 a1 a2 a3 a4 a5 a6 a7):=by unfold DR; cases c<;>simp
def gU (neq:Bool) (ri rj:Int×Int):Int×Int:=bif neq then qH (mulR ri rj) (mulR ri rj) else mulR ri rj
def gF (turn:Bool) (ax vn:V6):V6:=bif turn then Cs ax vn else .z
def ahf (neq turn:Bool) (s:V6) (ri rj:Int×Int) (ax vn:V6):V6:=plusV s (iK (gF turn ax vn) (gU neq ri rj))
def xg (neq turn f:Bool) (s:V6) (ri rj:Int×Int) (ax vn:V6):Bool :=
 (((bif turn then (bif neq then (f||wR ri rj)||wI false (mulR ri rj).1 (mulR ri rj).2 (mulR ri rj).1 (mulR ri rj).2 else f||wR ri rj)||El ax vn else (bif neq then (f||wR ri rj)||wI false (mulR ri rj).1 (mulR ri rj).2 (mulR ri rj).1 (mulR ri rj).2 else f||wR ri rj))||tJ false (gF turn ax vn) (gU neq ri rj))||uZ false s (iK (gF turn ax vn) (gU neq ri rj)))
def z6:List Value:=[.int .i64 0,.int .i64 0,.int .i64 0,.int .i64 0,.int .i64 0,.int .i64 0]
def V6.l (v:V6):List Int:=[v.a,v.b,v.c,v.d,v.e,v.f]
def DU:List Value:=fK 84 [(2,dM 0),(3,.pointer (some ⟨0,0,some 0⟩)),(4,.pointer (some ⟨1,0,some 0⟩)),(6,.pointer (some ⟨2,0,some 0⟩)),(7,.pointer (some ⟨3,0,some 0⟩)),(18,dM 1),(19,var 1),(20,var 0)]
def VA:List Value:=fK 84 [(2,dM 0),(3,.pointer (some ⟨0,0,some 0⟩)),(4,.pointer (some ⟨1,0,some 0⟩)),(6,.pointer (some ⟨2,0,some 0⟩)),(7,.pointer (some ⟨3,0,some 0⟩))]
def BZ:List Value:=fK 84 [(2,dM 0),(3,.pointer (some ⟨0,0,some 0⟩)),(4,.pointer (some ⟨1,0,some 0⟩)),(6,.pointer (some ⟨2,0,some 0⟩)),(7,.pointer (some ⟨3,0,some 0⟩)),(18,dM 1),(19,var 1),(20,var 0),(8,var 0),(9,var 9),(29,dM 7),(30,var 11),(31,var 10)]
def oC:Hp:=[dQ [mB 1 [.int .i64 0]] 88]
def vD:Hp:=[dQ [.pointer (some ⟨0,0,none⟩),dM 3,dM 4,dM 5,dM 6] 92,dQ [var 2,dM 1,dM 2] 95,dQ (.pointer none::z6) 98,dQ (.pointer (some ⟨0,0,none⟩)::iE 3) 98]
def AZ (k n wt:Int) (s:V6):List Int:=[k,n,wt]++s.l
def J7 (k n wt:Int) (s:V6) (j i m:Int):List Int:=AZ k n wt s++[j,i,m]
def EW (neq turn:Bool) (k n wt:Int) (s:V6) (j i m ii:Int) (ri rj:Int×Int) (ax vn:V6) (kd:Int):List Int:=J7 k n wt s j i m++[ii,ri.1,ri.2,rj.1,rj.2]++ax.l++vn.l++[kd,(mulR ri rj).1,(mulR ri rj).2,(qH (mulR ri rj) (mulR ri rj)).1,(qH (mulR ri rj) (mulR ri rj)).2]++(Cs ax vn).l++(iK (gF turn ax vn) (gU neq ri rj)).l++(ahf neq turn s ri rj ax vn).l
def Ed (neq turn f:Bool) (s:V6) (ri rj:Int×Int) (ax vn:V6):List Bool:=[f,wR ri rj,wI false (mulR ri rj).1 (mulR ri rj).2 (mulR ri rj).1 (mulR ri rj).2,El ax vn,tJ false (gF turn ax vn) (gU neq ri rj),uZ false s (iK (gF turn ax vn) (gU neq ri rj))]
def Ma (W:dY) (n3 n4 n6 n7:Nat):List (Option Value):=dS 84 [(2,dJ W),(3,dK n3),(4,dK n4),(6,dK n6),(7,dK n7)]
def tK (W J:dY) (n3 n4 n6 n7:Nat) (k:Int):List (Option Value):=dS 84 [(2,dJ W),(3,dK n3),(4,dK n4),(6,dK n6),(7,dK n7),(18,dJ J),(19,num (J.2.1:Nat)),(20,num k)]
def jA (J:dY) (k:Int):dY:=(J.1,(k+1).toNat,J.2.2)
def su (W J:dY) (n3 n4 n6 n7:Nat) (k j i:Int):List (Option Value):=dS 84 [(2,dJ W),(3,dK n3),(4,dK n4),(6,dK n6),(7,dK n7),(18,dJ J),(19,num (J.2.1:Nat)),(20,num k),(8,num k),(9,num j),(29,dJ (jA J k)),(30,num ((jA J k).2.1:Nat)),(31,num i)]
def jg (nc:Nat) (f:Bool):List gQ:=[(nc,[.bool f],88)]
def j6 (nc n3 n4 n6 n7:Nat) (B3 B4 B5 B6 J V:dY) (wt:Int) (s:V6):List gQ:=[(n3,[dK nc,dJ B3,dJ B4,dJ B5,dJ B6],92),(n4,[num wt,dJ J,dJ V],95),(n6,.pointer none::z6,98),(n7,s.cs nc,98)]
variable {w0 w:World} {nc n3 n4 n6 n7:Nat} {W J V B3 B4 B5 B6:dY} {k wt:Int} {s:V6} {f:Bool} {a:Act} {Q:Exit→Act→World→Prop} {D:Code}
theorem abp (hown:∀g∈[nc]++[n3,n4,n6,n7],g∈[nc]∨w0.heap.size≤g) (hnd:([nc]++[n3,n4,n6,n7]).Nodup) (hlt:k<(J.2.1:Nat)) (h:dP (tK W J n3 n4 n6 n7 k) (jg nc f) (j6 nc n3 n4 n6 n7 B3 B4 B5 B6 J V wt s) a w) (hk:dO w0 [nc] w) (hQ:∀a' w',dP (tK W J n3 n4 n6 n7 k) (jg nc f) (j6 nc n3 n4 n6 n7 B3 B4 B5 B6 J V wt s) a' w'→dO w0 [nc] w'→D.wp aa Q a' w'):(o7 [dZ (iW (dN aeS)),dZ (fU (iW (dN aeS)))] D).wp aa Q a w :=
 uf (AZ k (J.2.1:Nat) wt s) [f] [W,J,V,B3,B4,B5,B6] (g:=[(mB 20 [var 0,var 1],.bool true)]) (wt:=[]) (lt:=[]) (sb:=[]) (T:=[]) (K:=[]) (RT:=[]) (wb:=[]) (ws:=[]) (fr:=DU) (H:=oC) (lo:=vD) 43 _ [0] [0,1,2,3] (by kernel_rfl) (by kernel_rfl) (by exact hnd) ⟨afm (by exact decide_eq_true hlt),gG,gD,fT,il _ _,fw (by exact hown),gH,fun _=>iI⟩ h hk hQ
theorem abr (hown:∀g∈[nc]++[n3,n4,n6,n7],g∈[nc]∨w0.heap.size≤g) (hnd:([nc]++[n3,n4,n6,n7]).Nodup) (hlt:¬k<(J.2.1:Nat)) (h:dP (tK W J n3 n4 n6 n7 k) (jg nc f) (j6 nc n3 n4 n6 n7 B3 B4 B5 B6 J V wt s) a w) (hk:dO w0 [nc] w) (hQ:∀a' w',dP (tK W J n3 n4 n6 n7 k) (jg nc f) (j6 nc n3 n4 n6 n7 B3 B4 B5 B6 J V wt s) a' w'→dO w0 [nc] w'→Q (.exit 0) a' w'):(iW (dN aeS)).wp aa Q a w :=
 r9 (AZ k (J.2.1:Nat) wt s) [f] [W,J,V,B3,B4,B5,B6] (g:=[(mB 20 [var 0,var 1],.bool false)]) (wt:=[]) (lt:=[]) (sb:=[]) (T:=[]) (K:=[]) (RT:=[]) (wb:=[]) (ws:=[]) (fr:=DU) (H:=oC) (lo:=vD) 43 (.exit 0) [0] [0,1,2,3] (by kernel_rfl) (by kernel_rfl) (by exact hnd) ⟨afm (by exact decide_eq_false hlt),gG,gD,fT,il _ _,fw (by exact hown),gH,fun _=>iI⟩ h hk hQ
theorem aby (hown:∀g∈[nc]++[n3,n4,n6,n7],g∈[nc]∨w0.heap.size≤g) (hnd:([nc]++[n3,n4,n6,n7]).Nodup) (h:dP (tK W J n3 n4 n6 n7 k) (jg nc f) (j6 nc n3 n4 n6 n7 B3 B4 B5 B6 J V wt s) a w) (hk:dO w0 [nc] w) (hQ:∀a' w',dP (tK W J n3 n4 n6 n7 (bg.wrap (k+1))) (jg nc f) (j6 nc n3 n4 n6 n7 B3 B4 B5 B6 J V wt s) a' w'→dO w0 [nc] w'→Q .normal a' w'):(sR 3 (iW (dN aeS))).wp aa Q a w :=
 r9 (AZ k (J.2.1:Nat) wt s) [f] [W,J,V,B3,B4,B5,B6] (g:=[]) (wt:=[]) (lt:=[]) (sb:=[]) (T:=[]) (K:=[]) (RT:=[]) (wb:=[]) (ws:=[]) (fr:=DU) (H:=oC) (lo:=vD) 43 .normal [0] [0,1,2,3] (by kernel_rfl) (by kernel_rfl) (by exact hnd) ⟨fB _,gG,gD,fT,il _ _,fw (by exact hown),gH,fun _=>iI⟩ h hk hQ
variable {j:Int} {bJ oJ:Nat}
theorem abq (eJ:J.1=some ⟨bJ,oJ,none⟩) (h0:0≤k) (h1:k<(J.2.1:Nat)) (h2:J.2.1≤J.2.2) (h3:k<1000000) (lJ:bJ<w0.heap.size) (nJ:bJ≠nc) (cJ:∀(q:Nat) (x:Value),[num j][q]?=some x→w0.cell? ⟨bJ,oJ+k.toNat*1+q,none⟩=some x)
  (hown:∀g∈[nc]++[n3,n4,n6,n7],g∈[nc]∨w0.heap.size≤g) (hnd:([nc]++[n3,n4,n6,n7]).Nodup) (h:dP (tK W J n3 n4 n6 n7 k) (jg nc f) (j6 nc n3 n4 n6 n7 B3 B4 B5 B6 J V wt s) a w) (hk:dO w0 [nc] w) (hQ:∀a' w',dP (su W J n3 n4 n6 n7 k j 0) (jg nc (f)) (j6 nc n3 n4 n6 n7 B3 B4 B5 B6 J V wt (s)) a' w'→dO w0 [nc] w'→D.wp aa Q a' w'):(o7 [dZ (jT (dN aeS)),dZ (fU (jT (dN aeS)))] D).wp aa Q a w:=by
 refine uf (J7 k (J.2.1:Nat) wt s j 0 ((jA J k).2.1:Nat)) [f] [W,J,V,B3,B4,B5,B6,jA J k] (g:=[]) (wt:=[(1,var 0,1,4)]) (lt:=[(7,var 11)]) (sb:=[(1,mI 2 [var 0,.int .i64 1],7)]) (T:=[]) (K:=[]) (RT:=[]) (wb:=[dU [var 9]]) (ws:=[(bJ,oJ+k.toNat*1,[num j])]) (fr:=DU) (H:=oC) (lo:=vD) 43 _ [0] [0,1,2,3] (by kernel_rfl) (by kernel_rfl) (by exact hnd) ⟨fB _,gG,gD,fT,?_,fw (by exact hown),gH,fun _=>?_⟩ h hk hQ
 ·intro x hx
  simp only [ag,ae,or_false] at hx
  subst hx
  exact ⟨⟨lJ,by simpa using nJ⟩,aO _,cJ⟩
 ·refine ⟨fun e he=>?_,fun e he=>?_,fun e he=>?_⟩
  ·simp only [fG,ag,ae,or_false] at he
   subst he
   exact ⟨⟨bJ,oJ,none⟩,J.2.1,J.2.2,k,2,(by show J=_; rw [←eJ]),rfl,rfl,h0,h1,rfl,rfl⟩
  ·simp only [fG,ag,ae,or_false] at he
   subst he
   exact ⟨2,by kernel_rfl⟩
  ·simp only [fG,ag,ae,or_false] at he
   subst he
   have e9:bg.wrap (k+1)=k+1:=dz _ (by omega)
   refine ⟨(by show 7<1000000; exact ae8 rfl),k+1,3,?_,by omega,(by show k+1≤((J.2.2:Nat):Int); omega),rfl⟩
   rw [←e9]
   kernel_rfl
variable {i:Int}
theorem abC (hown:∀g∈[nc]++[n3,n4,n6,n7],g∈[nc]∨w0.heap.size≤g) (hnd:([nc]++[n3,n4,n6,n7]).Nodup) (hlt:¬i<((jA J k).2.1:Nat)) (h:dP (su W J n3 n4 n6 n7 k j i) (jg nc (f)) (j6 nc n3 n4 n6 n7 B3 B4 B5 B6 J V wt (s)) a w) (hk:dO w0 [nc] w) (hQ:∀a' w',dP (tK W J n3 n4 n6 n7 k) (jg nc f) (j6 nc n3 n4 n6 n7 B3 B4 B5 B6 J V wt s) a' w'→dO w0 [nc] w'→Q (.exit 2) a' w'):(jK (dN aeS)).wp aa Q a w :=
 r9 (J7 k (J.2.1:Nat) wt s j i ((jA J k).2.1:Nat)) [f] [W,J,V,B3,B4,B5,B6,jA J k] (g:=[(mB 20 [var 10,var 11],.bool false)]) (wt:=[]) (lt:=[]) (sb:=[]) (T:=[]) (K:=[]) (RT:=[]) (wb:=[]) (ws:=[]) (fr:=BZ) (H:=oC) (lo:=vD) 43 (.exit 2) [0] [0,1,2,3] (by kernel_rfl) (by kernel_rfl) (by exact hnd) ⟨afm (by exact decide_eq_false hlt),gG,gD,fT,il _ _,fw (by exact hown),gH,fun _=>iI⟩ h hk hQ
theorem amO {neq turn:Bool} {ii kd:Int} {ri rj:Int×Int} {ax vn:V6} {nm:ByteArray} {bW oW bK oK bX oX bV oV:Nat} (eJ:J.1=some ⟨bJ,oJ,none⟩) (eW:W.1=some ⟨bW,oW,none⟩) (eK:B3.1=some ⟨bK,oK,none⟩) (eX:B5.1=some ⟨bX,oX,none⟩) (eV:V.1=some ⟨bV,oV,none⟩)
  (h0:0≤i) (h1:i<((jA J k).2.1:Nat)) (h2:0≤ii) (h3:ii<(W.2.1:Nat)) (h4:0≤j) (h5:j<(W.2.1:Nat)) (h6:ii<(B3.2.1:Nat)) (h7:ii<(B5.2.1:Nat)) (h8:0≤k) (h9:k<(V.2.1:Nat)) (hne:(ii != j)=neq) (htu:kG kd=turn)
  (lJ:bJ<w0.heap.size∧bJ≠nc) (lW:bW<w0.heap.size∧bW≠nc) (lK:bK<w0.heap.size∧bK≠nc) (lX:bX<w0.heap.size∧bX≠nc) (lV:bV<w0.heap.size∧bV≠nc) (cJ:∀(q:Nat) (x:Value),[num ii][q]?=some x→w0.cell? ⟨bJ,oJ+i.toNat*1+q,none⟩=some x) (cI:∀(q:Nat) (x:Value),[num ri.1,num ri.2][q]?=some x→w0.cell? ⟨bW,oW+ii.toNat*2+q,none⟩=some x) (cW:∀(q:Nat) (x:Value),[num rj.1,num rj.2][q]?=some x→w0.cell? ⟨bW,oW+j.toNat*2+q,none⟩=some x)
  (cK:∀(q:Nat) (x:Value),[.string nm,num kd][q]?=some x→w0.cell? ⟨bK,oK+ii.toNat*12+q,none⟩=some x) (cX:∀(q:Nat) (x:Value),(ax.cs nc)[q]?=some x→w0.cell? ⟨bX,oX+ii.toNat*7+q,none⟩=some x) (cV:∀(q:Nat) (x:Value),(vn.cs nc)[q]?=some x→w0.cell? ⟨bV,oV+k.toNat*7+q,none⟩=some x)
  (hown:∀g∈[nc]++[n3,n4,n6,n7],g∈[nc]∨w0.heap.size≤g) (hnd:([nc]++[n3,n4,n6,n7]).Nodup) (h:dP (su W J n3 n4 n6 n7 k j i) (jg nc (f)) (j6 nc n3 n4 n6 n7 B3 B4 B5 B6 J V wt (s)) a w) (hk:dO w0 [nc] w) (hQ:∀a' w',dP (su W J n3 n4 n6 n7 k j (bg.wrap (i+1))) (jg nc (xg neq turn f s ri rj ax vn)) (j6 nc n3 n4 n6 n7 B3 B4 B5 B6 J V wt (ahf neq turn s ri rj ax vn)) a' w'→dO w0 [nc] w'→Q .normal a' w'):(jK (dN aeS)).wp aa Q a w:=by
 refine r9 (EW neq turn k (J.2.1:Nat) wt s j i ((jA J k).2.1:Nat) ii ri rj ax vn kd) (Ed neq turn f s ri rj ax vn) [W,J,V,B3,B4,B5,B6,jA J k] (g:=[(mB 20 [var 10,var 11],.bool true),(mB 25 [var 12,var 9],.bool neq),(mB 1242 [var 29],.bool turn)]) (wt:=[(7,var 10,1,4),(0,var 12,2,5),(0,var 9,2,6),(3,var 12,12,7),(5,var 12,7,8),(2,var 0,7,9)]) (lt:=[]) (sb:=[]) (T:=[⟨53,[.pointer (some ⟨0,0,none⟩),.agg ⟨[var 13,var 14]⟩,.agg ⟨[var 15,var 16]⟩],.agg ⟨[var 30,var 31]⟩,mB 1 [.int .i64 1],[]⟩,⟨78,[.pointer (some ⟨0,0,none⟩),.agg ⟨[var 30,var 31]⟩,.agg ⟨[var 30,var 31]⟩],.agg ⟨[var 32,var 33]⟩,mB 1 [.int .i64 2],[]⟩,⟨74,[.agg ⟨.pointer (some ⟨0,0,none⟩)::iE 17⟩,.agg ⟨.pointer (some ⟨0,0,none⟩)::iE 23⟩],.agg ⟨.pointer (some ⟨0,0,none⟩)::iE 34⟩,mB 1 [.int .i64 3],[]⟩,⟨77,[.agg ⟨.pointer (some ⟨0,0,none⟩)::bif turn then iE 34 else z6⟩,.agg ⟨bif neq then [var 32,var 33] else [var 30,var 31]⟩],.agg ⟨.pointer (some ⟨0,0,none⟩)::iE 40⟩,mB 1 [.int .i64 4],[]⟩,⟨76,[.agg ⟨.pointer (some ⟨0,0,none⟩)::iE 3⟩,.agg ⟨.pointer (some ⟨0,0,none⟩)::iE 40⟩],.agg ⟨.pointer (some ⟨0,0,none⟩)::iE 46⟩,mB 1 [.int .i64 5],[]⟩]) (K:=[]) (RT:=[]) (wb:=[dU [var 12],dU [var 13,var 14],dU [var 15,var 16],dU [.string nm,var 29],dU (.pointer (some ⟨0,0,none⟩)::iE 17),dU (.pointer (some ⟨0,0,none⟩)::iE 23)]) (ws:=[(bJ,oJ+i.toNat*1,[num ii]),(bW,oW+ii.toNat*2,[num ri.1,num ri.2]),(bW,oW+j.toNat*2,[num rj.1,num rj.2]),(bK,oK+ii.toNat*12,[.string nm,num kd]),(bX,oX+ii.toNat*7,ax.cs nc),(bV,oV+k.toNat*7,vn.cs nc)]) (fr:=BZ) (H:=oC) (lo:=vD) 43 .normal [0] [0,1,2,3] (by cases neq<;>cases turn<;>kernel_rfl) (by kernel_rfl) (by exact hnd) ⟨?_,?_,gD,fT,?_,fw (by exact hown),gH,fun _=>?_⟩ h hk hQ
 ·refine afl ⟨300,.bool true,(show _=some (.bool (decide (i<((jA J k).2.1:Nat)))) by kernel_rfl).trans (by rw [decide_eq_true h1]),rfl⟩ (afl ⟨300,.bool neq,(show _=some (.bool (ii != j)) by kernel_rfl).trans (by rw [hne]),rfl⟩ (afl ⟨300,.bool turn,(show _=some (.bool (kG kd)) by kernel_rfl).trans (by rw [htu]),rfl⟩ (fB _)))
 ·intro t ht
  simp only [ag,ae,or_false] at ht
  rcases ht with rfl | rfl | rfl | rfl | rfl
  ·exact ⟨rfl,fun nc c w _ _ hw=>⟨[dK nc,.agg ⟨[num ri.1,num ri.2]⟩,.agg ⟨[num rj.1,num rj.2]⟩],.agg ⟨[num (mulR ri rj).1,num (mulR ri rj).2]⟩,wR ri rj,by kernel_rfl,by kernel_rfl,by kernel_rfl,(Ei nc c ri.1 ri.2 rj.1 rj.2 w hw).mono (fun r w' ⟨q1,q2⟩=>⟨q1,by rw [Ej] at q2; exact q2⟩)⟩⟩
  ·exact ⟨rfl,fun nc c w _ _ hw=>⟨[dK nc,.agg ⟨[num (mulR ri rj).1,num (mulR ri rj).2]⟩,.agg ⟨[num (mulR ri rj).1,num (mulR ri rj).2]⟩],.agg ⟨[num (qH (mulR ri rj) (mulR ri rj)).1,num (qH (mulR ri rj) (mulR ri rj)).2]⟩,wI false (mulR ri rj).1 (mulR ri rj).2 (mulR ri rj).1 (mulR ri rj).2,by kernel_rfl,by kernel_rfl,by kernel_rfl,(MW nc c _ _ _ _ w hw).mono (fun r w' ⟨q1,q2⟩=>⟨q1,by rw [MX] at q2; exact q2⟩)⟩⟩
  ·exact ⟨rfl,fun nc c w _ _ hw=>⟨[ax.val nc,vn.val nc],(Cs ax vn).val nc,El ax vn,by kernel_rfl,by kernel_rfl,by kernel_rfl,(alA nc c ax.a ax.b ax.c ax.d ax.e ax.f vn.a vn.b vn.c vn.d vn.e vn.f w hw).mono (fun r w' ⟨q1,q2⟩=>⟨q1,by rw [alB] at q2; exact q2⟩)⟩⟩
  ·exact ⟨rfl,fun nc c w _ _ hw=>⟨[(gF turn ax vn).val nc,.agg ⟨[num (gU neq ri rj).1,num (gU neq ri rj).2]⟩],(iK (gF turn ax vn) (gU neq ri rj)).val nc,tJ false (gF turn ax vn) (gU neq ri rj),by cases neq<;>cases turn<;>kernel_rfl,by cases neq<;>cases turn<;>kernel_rfl,by cases neq<;>cases turn<;>kernel_rfl,(GZ nc c (gF turn ax vn).a (gF turn ax vn).b (gF turn ax vn).c (gF turn ax vn).d (gF turn ax vn).e (gF turn ax vn).f (gU neq ri rj).1 (gU neq ri rj).2 w hw).mono (fun r w' ⟨q1,q2⟩=>⟨q1,by rw [DT] at q2; exact q2⟩)⟩⟩
  ·exact ⟨rfl,fun nc c w _ _ hw=>⟨[s.val nc,(iK (gF turn ax vn) (gU neq ri rj)).val nc],(ahf neq turn s ri rj ax vn).val nc,uZ false s (iK (gF turn ax vn) (gU neq ri rj)),by kernel_rfl,by kernel_rfl,by kernel_rfl,(GY nc c s.a s.b s.c s.d s.e s.f (iK (gF turn ax vn) (gU neq ri rj)).a (iK (gF turn ax vn) (gU neq ri rj)).b (iK (gF turn ax vn) (gU neq ri rj)).c (iK (gF turn ax vn) (gU neq ri rj)).d (iK (gF turn ax vn) (gU neq ri rj)).e (iK (gF turn ax vn) (gU neq ri rj)).f w hw).mono (fun r w' ⟨q1,q2⟩=>⟨q1,by rw [DK] at q2; exact q2⟩)⟩⟩
 ·intro x hx
  simp only [ag,ae,or_false] at hx
  rcases hx with rfl | rfl | rfl | rfl | rfl | rfl
  ·exact ⟨⟨lJ.1,by simpa using lJ.2⟩,aO _,cJ⟩
  ·exact ⟨⟨lW.1,by simpa using lW.2⟩,aO _,cI⟩
  ·exact ⟨⟨lW.1,by simpa using lW.2⟩,aO _,cW⟩
  ·exact ⟨⟨lK.1,by simpa using lK.2⟩,aO _,cK⟩
  ·exact ⟨⟨lX.1,by simpa using lX.2⟩,aO _,cX⟩
  ·exact ⟨⟨lV.1,by simpa using lV.2⟩,aO _,cV⟩
 ·refine ⟨fun e he=>?_,(fun e he=>by cases he),fun e he=>by cases he⟩
  simp only [fG,ag,ae,or_false] at he
  rcases he with rfl | rfl | rfl | rfl | rfl | rfl
  ·exact ⟨⟨bJ,oJ,none⟩,(jA J k).2.1,J.2.2,i,2,(by show jA J k=_; rw [←eJ]; rfl),rfl,rfl,h0,h1,rfl,rfl⟩
  ·exact ⟨⟨bW,oW,none⟩,W.2.1,W.2.2,ii,2,(by show W=_; rw [←eW]),rfl,rfl,h2,h3,rfl,rfl⟩
  ·exact ⟨⟨bW,oW,none⟩,W.2.1,W.2.2,j,2,(by show W=_; rw [←eW]),rfl,rfl,h4,h5,rfl,rfl⟩
  ·exact ⟨⟨bK,oK,none⟩,B3.2.1,B3.2.2,ii,2,(by show B3=_; rw [←eK]),rfl,rfl,h2,h6,rfl,rfl⟩
  ·exact ⟨⟨bX,oX,none⟩,B5.2.1,B5.2.2,ii,2,(by show B5=_; rw [←eX]),rfl,rfl,h2,h7,rfl,rfl⟩
  ·exact ⟨⟨bV,oV,none⟩,V.2.1,V.2.2,k,2,(by show V=_; rw [←eV]),rfl,rfl,h8,h9,rfl,rfl⟩
theorem abA (h:dP ([some (.agg ⟨[dK nc,dJ B3,dJ B4,dJ B5,dJ B6]⟩),some (.agg ⟨[num wt,dJ J,dJ V]⟩),some (dJ W)]++ag6 81 (some undef)) (jg nc f) [] a w) (hk:dO w0 [nc] w)
  (hQ:∀a' w' n3 n4 n6 n7,(∀n∈[n3,n4,n6,n7],w.heap.size≤n)→([nc]++[n3,n4,n6,n7]).Nodup→dP (Ma W n3 n4 n6 n7) (jg nc f) (j6 nc n3 n4 n6 n7 B3 B4 B5 B6 J V wt .z) a' w'→dO w0 [nc] w'→D.wp aa Q a' w'):(o7 [dZ (dN aeS),jM (dN aeS)] D).wp aa Q a w:=by
 refine jZ [0,0,wt] [f] [W,J,V,B3,B4,B5,B6] (g:=[]) (wt:=[]) (lt:=[]) (sb:=[]) (T:=[]) (K:=[]) (RT:=[]) (wb:=[]) (ws:=[]) (fr:=[.agg ⟨[.pointer (some ⟨0,0,none⟩),dM 3,dM 4,dM 5,dM 6]⟩,.agg ⟨[var 2,dM 1,dM 2]⟩,dM 0]++ag6 81 undef) (H:=oC) (lo:=[]) (us':=fun _ nl=>Ma W (nl.getD 0 0) (nl.getD 1 0) (nl.getD 2 0) (nl.getD 3 0)) (gs':=fun _ _=>jg nc f) (ls':=fun _ nl=>j6 nc (nl.getD 0 0) (nl.getD 1 0) (nl.getD 2 0) (nl.getD 3 0) B3 B4 B5 B6 J V wt .z) 43 _ [0] [0,1,2,3] [] [3,4,6,7] (fun ng nl e1 e2=>?_) (by kernel_rfl) (fun ng nl e1 e2 e3=>?_) ⟨fB _,gG,gD,fT,il _ _,fw (by simp [jg]),gH,fun _=>iI⟩ h hk (fun a' w' ng nl e1 e2 e3 e4 hs hk'=>?_)
 ·match ng,nl,e1,e2 with
  | [],[a,b,c,d],_,_=>show (_:Option _)=_; kernel_rfl
 ·match ng,nl,e1,e2 with
  | [],[a,b,c,d],_,_=>exact e3
 ·match ng,nl,e1,e2 with
  | [],[a,b,c,d],_,_=>exact hQ a' w' a b c d (fun n hn=>(e4 n (by simpa using hn)).1) e3 hs hk'
theorem abB (hown:∀g∈[nc]++[n3,n4,n6,n7],g∈[nc]∨w0.heap.size≤g) (hnd:([nc]++[n3,n4,n6,n7]).Nodup) (h:dP (Ma W n3 n4 n6 n7) (jg nc f) (j6 nc n3 n4 n6 n7 B3 B4 B5 B6 J V wt s) a w) (hk:dO w0 [nc] w) (hQ:∀a' w',dP (tK W J n3 n4 n6 n7 0) (jg nc f) (j6 nc n3 n4 n6 n7 B3 B4 B5 B6 J V wt s) a' w'→dO w0 [nc] w'→D.wp aa Q a' w'):(o7 [dZ (nP (dN aeS))] D).wp aa Q a w :=
 uf (AZ 0 (J.2.1:Nat) wt s) [f] [W,J,V,B3,B4,B5,B6] (g:=[]) (wt:=[]) (lt:=[(1,var 1)]) (sb:=[]) (T:=[]) (K:=[]) (RT:=[]) (wb:=[]) (ws:=[]) (fr:=VA) (H:=oC) (lo:=vD) 43 _ [0] [0,1,2,3] (by kernel_rfl) (by kernel_rfl) (by exact hnd) ⟨fB _,gG,gD,fT,il _ _,fw (by exact hown),gH,fun _=>⟨(fun e he=>by cases he),(fun e he=>by
  simp only [fG,ag,ae,or_false] at he
  subst he
  exact ⟨2,by kernel_rfl⟩),fun e he=>by cases he⟩⟩ h hk hQ
theorem abz {R:Ending→World→Prop} (hown:∀g∈[nc]++[n6,n7],g∈[nc]∨w0.heap.size≤g) (h:dP (dS 84 [(6,dK n6),(7,dK n7)]) (jg nc f) [(n6,.pointer none::z6,98),(n7,s.cs nc,98)] a w) (hk:dO w0 [nc] w)
  (hQ:∀a' w',dP (dS 84 []) (jg nc f) [] a' w'→dO w0 [nc] w'→R (.returned (s.val nc)) w'):(sR 3 (dN aeS)).wp aa (bodyPost aa aeS R) a w :=
 qQ (AZ 0 0 0 s) [f] [] (g:=[]) (wt:=[]) (lt:=[]) (sb:=[]) (T:=[]) (K:=[]) (RT:=[]) (wb:=[]) (ws:=[]) (fr:=fK 84 [(6,.pointer (some ⟨0,0,some 0⟩)),(7,.pointer (some ⟨1,0,some 0⟩))]) (H:=oC) (lo:=[dQ (.pointer none::z6) 98,dQ (.pointer (some ⟨0,0,none⟩)::iE 3) 98]) (u:=s.val nc) 43 [0] [] (by kernel_rfl) (by kernel_rfl) (by simp [jg]) ⟨fB _,gG,gD,fT,il _ _,fw (by exact hown),gH,fun _=>iI⟩ h hk hQ
end Go.Proofs
end
section
namespace Go.Proofs
open Go.Sm Go.RowKit En
theorem WT:(dN aeS)=o7 [dZ (dN aeS),jM (dN aeS)] (.seq (o7 [dZ (nP (dN aeS))] (.block 0 (.loop (iW (dN aeS))))) (sR 3 (dN aeS))):=by kernel_rfl
theorem Y5:(iW (dN aeS))=o7 [dZ (iW (dN aeS)),dZ (fU (iW (dN aeS)))] (.seq (.block 1 (o7 [dZ (jT (dN aeS)),dZ (fU (jT (dN aeS)))] (.block 2 (.loop (jK (dN aeS)))))) (sR 3 (iW (dN aeS)))):=by kernel_rfl
def BB (rs:List (Int×Int)) (axs:List V6) (js:List JV) (j:Int) (vn:V6) (st:V6×Bool) (ii:Int):V6×Bool :=
 (ahf (ii != j) (kG ((js.getD ii.toNat (js.headD ⟨⟨#[]⟩,0,0,0,0,0,0,0,0,0,0,0⟩)).kind)) st.1 (rs.getD ii.toNat (0,0)) (rs.getD j.toNat (0,0)) (axs.getD ii.toNat .z) vn,
   xg (ii != j) (kG ((js.getD ii.toNat (js.headD ⟨⟨#[]⟩,0,0,0,0,0,0,0,0,0,0,0⟩)).kind)) st.2 st.1 (rs.getD ii.toNat (0,0)) (rs.getD j.toNat (0,0)) (axs.getD ii.toNat .z) vn)
def si (rs:List (Int×Int)) (axs:List V6) (js:List JV) (ks:List Int) (j:Int) (vn:V6) (st:V6×Bool):Nat→V6×Bool
 | 0=>st
 | i+1=>BB rs axs js j vn (si rs axs js ks j vn st i) (ks.getD i 0)
def pX (rs:List (Int×Int)) (axs:List V6) (js:List JV) (ks:List Int) (vs:List V6) (f:Bool):Nat→V6×Bool
 | 0=>(.z,f)
 | k+1=>si rs axs js ks (ks.getD k 0) (vs.getD k .z) (pX rs axs js ks vs f k) (k+1)
structure sI (w:World) (nc:Nat) (W B3 B5:dY) (rs:List (Int×Int)) (axs:List V6) (js:List JV):Prop where
 wl:W.2.1=rs.length
 b3:B3.2.1=js.length
 b5:B5.2.1=axs.length
 l1:rs.length=js.length
 l2:axs.length=js.length
 BC:Sl w W.1 2 (rH rs)
 mH:Sl w B3.1 12 (js.map JV.vals)
 GK:Sl w B5.1 7 (axs.map (V6.cs nc))
 aW:∀a,W.1=some a→a.block≠nc
 aK:∀a,B3.1=some a→a.block≠nc
 aX:∀a,B5.1=some a→a.block≠nc
variable {w0 w:World} {nc n3 n4 n6 n7 k:Nat} {W B3 B4 B5 B6:dY} {rs:List (Int×Int)} {axs:List V6} {js:List JV} {f:Bool} {a:Act} {Q:Exit→Act→World→Prop}
theorem abt {m:MB} {i:Nat} {s:V6} (hS:sI w0 nc W B3 B5 rs axs js) (hm:sD w0 nc js.length m) {j:Int} {vn:V6} (hj:m.ks[k]?=some j) (hv:m.vs[k]?=some vn) (hi:i<k+1)
  (hown:∀g∈[nc]++[n3,n4,n6,n7],g∈[nc]∨w0.heap.size≤g) (hnd:([nc]++[n3,n4,n6,n7]).Nodup) (h:dP (su W m.J n3 n4 n6 n7 k j i) (jg nc f) (j6 nc n3 n4 n6 n7 B3 B4 B5 B6 m.J m.V m.wt s) a w) (hk:dO w0 [nc] w)
  (hQ:∀a' w',dP (su W m.J n3 n4 n6 n7 k j ((i+1:Nat):Int)) (jg nc (BB rs axs js j vn (s,f) (m.ks.getD i 0)).2) (j6 nc n3 n4 n6 n7 B3 B4 B5 B6 m.J m.V m.wt (BB rs axs js j vn (s,f) (m.ks.getD i 0)).1) a' w'→dO w0 [nc] w'→Q .normal a' w'):(jK (dN aeS)).wp aa Q a w:=by
 have hkl:k<m.ks.length:=by
  rcases cu k m.ks.length with h | h
  ·exact h
  ·rw [bQ h] at hj; cases hj
 have h3:=hm.l3
 obtain ⟨ii,hii⟩:∃ii,m.ks[i]?=some ii:=⟨_,ah (by omega)⟩
 obtain ⟨i0,i1⟩:=hm.ks i ii hii
 obtain ⟨j0,j1⟩:=hm.ks k j hj
 obtain ⟨jv,hjv⟩:∃jv,js[ii.toNat]?=some jv:=⟨_,ah (by omega)⟩
 obtain ⟨ri,hri⟩:∃r,rs[ii.toNat]?=some r:=⟨_,ah (by rw [hS.l1]; omega)⟩
 obtain ⟨rj,hrj⟩:∃r,rs[j.toNat]?=some r:=⟨_,ah (by rw [hS.l1]; omega)⟩
 obtain ⟨ax,hax⟩:∃r,axs[ii.toNat]?=some r:=⟨_,ah (by rw [hS.l2]; omega)⟩
 obtain ⟨bJ,oJ,eJ,lJ,cJ⟩:=o9 hm.qU (yz hii)
 obtain ⟨bV,oV,eV,lV,cV⟩:=o9 hm.dJ (show (m.vs.map (V6.cs nc))[k]?=some (vn.cs nc) by simp [hv])
 obtain ⟨bW,oW,eW,lW,cI⟩:=o9 hS.BC (K6 hri)
 obtain ⟨bW',oW',eW',_,cW⟩:=o9 hS.BC (K6 hrj)
 rw [eW] at eW'; injection eW' with eW'; injection eW' with eW1 eW2; subst eW1; subst eW2
 obtain ⟨bK,oK,eK,lK,cK⟩:=o9 hS.mH (Ba hjv)
 obtain ⟨bX,oX,eX,lX,cX⟩:=o9 hS.GK (show (axs.map (V6.cs nc))[ii.toNat]?=some (ax.cs nc) by simp [hax])
 have e9:bg.wrap ((i:Int)+1)=((i+1:Nat):Int):=by rw [dz _ (by omega)]; omega
 have hsub:((jA m.J (k:Int)).2.1:Int)=k+1:=by simp [jA]
 have est:BB rs axs js j vn (s,f) (m.ks.getD i 0)=(ahf (ii != j) (kG jv.kind) s ri rj ax vn,xg (ii != j) (kG jv.kind) f s ri rj ax vn):=by
  simp only [BB,getD_some hii,getD_some hri,getD_some hrj,getD_some hax,getD_some hjv]
 rw [est] at hQ
 have cK':∀(q:Nat) (x:Value),[.string jv.name,num jv.kind][q]?=some x→w0.cell? ⟨bK,oK+ii.toNat*12+q,none⟩=some x:=fun q x hx=>cK q x (by
  match q,hx with
  | 0,hx=>simpa [JV.vals] using hx
  | 1,hx=>simpa [JV.vals,num] using hx
  | _+2,hx=>simp at hx)
 have b1:(0:Int)≤(i:Int):=by omega
 have b2:(i:Int)<((jA m.J (k:Int)).2.1:Nat):=by rw [hsub]; omega
 have b3:ii<(W.2.1:Nat):=by rw [hS.wl,hS.l1]; exact i1
 have b4:j<(W.2.1:Nat):=by rw [hS.wl,hS.l1]; exact j1
 have b5:ii<(B3.2.1:Nat):=by rw [hS.b3]; exact i1
 have b6:ii<(B5.2.1:Nat):=by rw [hS.b5,hS.l2]; exact i1
 have b7:(k:Int)<(m.V.2.1:Nat):=by rw [hm.v,hm.l]; omega
 exact amO eJ eW eK eX eV b1 b2 i0 b3 j0 b4 b5 b6 (by omega) b7 rfl rfl ⟨lJ,hm.aJ _ eJ⟩ ⟨lW,hS.aW _ eW⟩ ⟨lK,hS.aK _ eK⟩ ⟨lX,hS.aX _ eX⟩ ⟨lV,hm.aV _ eV⟩ (by exact cJ) cI cW cK' cX (by exact cV) hown hnd h hk (by rw [e9]; exact hQ)
theorem ado {m:MB} {st:V6×Bool} (hS:sI w0 nc W B3 B5 rs axs js) (hm:sD w0 nc js.length m) (hcap:m.J.2.1≤m.J.2.2) (hk1:k<m.ks.length)
  (hown:∀g∈[nc]++[n3,n4,n6,n7],g∈[nc]∨w0.heap.size≤g) (hnd:([nc]++[n3,n4,n6,n7]).Nodup) (h:dP (tK W m.J n3 n4 n6 n7 k) (jg nc st.2) (j6 nc n3 n4 n6 n7 B3 B4 B5 B6 m.J m.V m.wt st.1) a w) (hk:dO w0 [nc] w)
  (hQ:∀a' w',dP (tK W m.J n3 n4 n6 n7 ((k+1:Nat):Int)) (jg nc (si rs axs js m.ks (m.ks.getD k 0) (m.vs.getD k .z) st (k+1)).2) (j6 nc n3 n4 n6 n7 B3 B4 B5 B6 m.J m.V m.wt (si rs axs js m.ks (m.ks.getD k 0) (m.vs.getD k .z) st (k+1)).1) a' w'→dO w0 [nc] w'→Q .normal a' w'):(iW (dN aeS)).wp aa Q a w:=by
 have h3:=hm.l3
 obtain ⟨j,hj⟩:∃j,m.ks[k]?=some j:=⟨_,ah hk1⟩
 obtain ⟨vn,hv⟩:∃v,m.vs[k]?=some v:=⟨_,ah (by rw [hm.l]; exact hk1)⟩
 rw [getD_some hj,getD_some hv] at hQ
 obtain ⟨bJ,oJ,eJ,lJ,cJ⟩:=o9 hm.qU (yz hj)
 rw [Y5]
 refine abp hown hnd (by rw [hm.j]; omega) h hk fun a1 w1 s1 k1=>?_
 refine wp_seq (wp_block ?_)
 refine abq (k:=(k:Int)) (j:=j) eJ (by omega) (by rw [hm.j]; omega) hcap (by omega) lJ (hm.aJ _ eJ) (by exact cJ) hown hnd s1 k1 fun a2 w2 s2 k2=>?_
 refine wp_block ?_
 refine wp_loop (fun a w'=>∃i:Nat,i≤k+1∧dP (su W m.J n3 n4 n6 n7 k j i) (jg nc (si rs axs js m.ks j vn st i).2) (j6 nc n3 n4 n6 n7 B3 B4 B5 B6 m.J m.V m.wt (si rs axs js m.ks j vn st i).1) a w'∧dO w0 [nc] w') (fun a _=>k+1 - (intOf (a.tmps.getD 31 undef)).toNat) ⟨0,Nat.zero_le _,s2,k2⟩ ?_
 rintro a3 w3 ⟨i,hi,s3,k3⟩
 have hmv:∀(a:Act) (w:World) (i:Nat) (g:List gQ) (l:List gQ),dP (su W m.J n3 n4 n6 n7 k j i) g l a w→(intOf (a.tmps.getD 31 undef)).toNat=i:=fun a w i g l s=>by
  have:=s.fr 31 (num i) (Aa (by decide) rfl)
  rw [bI,this]; simp [intOf,num]
 have hsub:((jA m.J (k:Int)).2.1:Int)=k+1:=by simp [jA]
 by_cases hlt:i<k+1
 ·refine abt hS hm hj hv hlt hown hnd s3 k3 fun a4 w4 s4 k4=>?_
  refine ⟨⟨i+1,by omega,s4,k4⟩,?_⟩
  simp only [hmv _ _ _ _ _ s3,hmv _ _ _ _ _ s4]
  omega
 ·have hin:i=k+1:=by omega
  subst hin
  refine abC hown hnd (by rw [hsub]; omega) s3 k3 fun a4 w4 s4 k4=>?_
  show (sR 3 (iW (dN aeS))).wp aa Q a4 w4
  refine aby hown hnd s4 k4 fun a5 w5 s5 k5=>?_
  have e9:bg.wrap ((k:Int)+1)=((k+1:Nat):Int):=by rw [dz _ (by omega)]; omega
  rw [e9] at s5
  exact hQ a5 w5 s5 k5
theorem adn {m:MB} (hS:sI w nc W B3 B5 rs axs js) (hm:sD w nc js.length m) (hcap:m.J.2.1≤m.J.2.2) (hfl:w.heap[nc]?=some (.cells #[.bool f] 88 (0,0))) :
  Calls aa 43 #[.agg ⟨[dK nc,dJ B3,dJ B4,dJ B5,dJ B6]⟩,.agg ⟨[num m.wt,dJ m.J,dJ m.V]⟩,dJ W] w (Hm w nc (pX rs axs js m.ks m.vs f m.ks.length).1 (pX rs axs js m.ks m.vs f m.ks.length).2):=by
 refine calls_of_wp Tryz.func43 (c:=(dN aeS)) (by kernel_rfl) ?_
 rw [WT]
 have hst:dP ([some (.agg ⟨[dK nc,dJ B3,dJ B4,dJ B5,dJ B6]⟩),some (.agg ⟨[num m.wt,dJ m.J,dJ m.V]⟩),some (dJ W)]++ag6 81 (some undef)) (jg nc f) [] { tmps:=#[.agg ⟨[dK nc,dJ B3,dJ B4,dJ B5,dJ B6]⟩,.agg ⟨[num m.wt,dJ m.J,dJ m.V]⟩,dJ W]++aji (aeS.ntmps - 3) undef,defers:=[] } w :=
  qF (xs:=[.agg ⟨[dK nc,dJ B3,dJ B4,dJ B5,dJ B6]⟩,.agg ⟨[num m.wt,dJ m.J,dJ m.V]⟩,dJ W]) (m:=81) rfl (by simp [jg,hfl]) (by simp [jg])
 refine abA hst (dO.refl w [nc]) fun a1 w1 n3 n4 n6 n7 hnew hnd s1 k1=>?_
 have hown:∀g∈[nc]++[n3,n4,n6,n7],g∈[nc]∨w.heap.size≤g:=fun g hg=>by
  rcases bH.1 hg with r | r
  ·exact .inl r
  ·exact .inr (hnew g r)
 refine wp_seq ?_
 refine abB hown hnd s1 k1 fun a2 w2 s2 k2=>?_
 refine wp_block ?_
 refine wp_loop (fun a w'=>∃k:Nat,k≤m.ks.length∧dP (tK W m.J n3 n4 n6 n7 k) (jg nc (pX rs axs js m.ks m.vs f k).2) (j6 nc n3 n4 n6 n7 B3 B4 B5 B6 m.J m.V m.wt (pX rs axs js m.ks m.vs f k).1) a w'∧dO w [nc] w') (fun a _=>m.ks.length - (intOf (a.tmps.getD 20 undef)).toNat) ⟨0,Nat.zero_le _,s2,k2⟩ ?_
 rintro a3 w3 ⟨k,hk,s3,k3⟩
 have hmv:∀(a:Act) (w:World) (i:Nat) (g:List gQ) (l:List gQ),dP (tK W m.J n3 n4 n6 n7 i) g l a w→(intOf (a.tmps.getD 20 undef)).toNat=i:=fun a w i g l s=>by
  have:=s.fr 20 (num i) (Aa (by decide) rfl)
  rw [bI,this]; simp [intOf,num]
 by_cases hlt:k<m.ks.length
 ·refine ado hS hm hcap hlt hown hnd s3 k3 fun a4 w4 s4 k4=>?_
  refine ⟨⟨k+1,by omega,s4,k4⟩,?_⟩
  simp only [hmv _ _ _ _ _ s3,hmv _ _ _ _ _ s4]
  omega
 ·have hkn:k=m.ks.length:=by omega
  subst hkn
  refine abr hown hnd (by rw [hm.j]; omega) s3 k3 fun a4 w4 s4 k4=>?_
  show (sR 3 (dN aeS)).wp aa _ a4 w4
  have s5:dP (dS 84 [(6,dK n6),(7,dK n7)]) (jg nc (pX rs axs js m.ks m.vs f m.ks.length).2) [(n6,.pointer none::z6,98),(n7,(pX rs axs js m.ks m.vs f m.ks.length).1.cs nc,98)] a4 w4 :=
   dP.sub s4 (fun x hx=>by simp only [ag,ae,or_false] at hx; rcases hx with rfl | rfl<;>rfl) (fun x hx=>hx) (fun x hx=>aT _ (aT _ hx)) (by simp [jg] at hnd ⊢; omega)
  refine abz (fun g hg=>hown g (by simp at hg ⊢; omega)) s5 k4 fun a6 w6 s6 k6=>?_
  exact ⟨rfl,uP k6 (s6.gl _ aA)⟩
end Go.Proofs
end
section
namespace Go.Proofs
open Go.Sm Go.RowKit En
theorem QQ (c:Bool) (v u:V6):uZ c v u=(c||uZ false v u):=DK _ _ _ _ _ _ _ _ _ _ _ _ _
theorem Ut (c:Bool) (v:V6) (r:Int×Int):tJ c v r=(c||tJ false v r):=DT _ _ _ _ _ _ _ _ _
theorem OY (rs:List (Int×Int)) (ks:List Int) (vs:List V6) (f:Bool):∀k,mM rs ks vs f k=((mM rs ks vs false k).1,f||(mM rs ks vs false k).2)
 | 0=>by simp [mM]
 | k+1=>by
  simp only [mM,JP]
  rw [OY rs ks vs f k]
  simp only [aP,true_and]
  rw [QQ (tJ (f||_) _ _),Ut (f||_),QQ (tJ (mM rs ks vs false k).2 _ _),Ut (mM rs ks vs false k).2]
  simp only [Bool.or_assoc]
theorem Uu (neq turn f:Bool) (s:V6) (ri rj:Int×Int) (ax vn:V6):xg neq turn f s ri rj ax vn=(f||xg neq turn false s ri rj ax vn):=by
 unfold xg
 cases neq<;>cases turn<;>simp [Bool.or_assoc]
theorem LG (rs:List (Int×Int)) (axs:List V6) (js:List JV) (ks:List Int) (j:Int) (vn:V6) (s:V6) (f:Bool):∀i,si rs axs js ks j vn (s,f) i=((si rs axs js ks j vn (s,false) i).1,f||(si rs axs js ks j vn (s,false) i).2)
 | 0=>by simp [si]
 | i+1=>by
  simp only [si,BB]
  rw [LG rs axs js ks j vn s f i]
  simp only [aP,true_and]
  rw [Uu _ _ (f||_),Uu _ _ (si rs axs js ks j vn (s,false) i).2]
  simp only [Bool.or_assoc]
theorem Uv (rs:List (Int×Int)) (axs:List V6) (js:List JV) (ks:List Int) (vs:List V6) (f:Bool):∀k,pX rs axs js ks vs f k=((pX rs axs js ks vs false k).1,f||(pX rs axs js ks vs false k).2)
 | 0=>by simp [pX]
 | k+1=>by
  simp only [pX]
  rw [Uv rs axs js ks vs f k,LG _ _ _ _ _ _ _ (f||_)]
  rw [show si rs axs js ks (ks.getD k 0) (vs.getD k .z) (pX rs axs js ks vs false k) (k+1)=si rs axs js ks (ks.getD k 0) (vs.getD k .z) ((pX rs axs js ks vs false k).1,(pX rs axs js ks vs false k).2) (k+1) from rfl,LG _ _ _ _ _ _ _ (pX rs axs js ks vs false k).2]
  simp only [Bool.or_assoc]
def lQ (rs:List (Int×Int)) (m:MB):V6×Bool:=mM rs m.ks m.vs false m.ks.length
def l9 (rs:List (Int×Int)) (axs:List V6) (js:List JV) (m:MB):V6×Bool:=pX rs axs js m.ks m.vs false m.ks.length
theorem Rf (ks:List (Int×Int)):∀r∈rH ks,r≠[]:=fun r hr e=>by
 simp only [rH,aeZ] at hr
 obtain ⟨k,_,rfl⟩:=hr
 cases e
theorem AX (js:List JV):∀r∈js.map JV.vals,r≠[]:=fun r hr e=>by
 obtain ⟨k,_,rfl⟩:=aeZ.1 hr
 cases e
variable {w0 w:World} {nc:Nat} {W B3:dY} {rs:List (Int×Int)} {axs:List V6} {js:List JV}
theorem sI.move {B5:dY} (h:sI w0 nc W B3 B5 rs axs js) (hc:∀(b o:Nat) (v:Value),b<w0.heap.size→b≠nc→w0.cell? ⟨b,o,none⟩=some v→w.cell? ⟨b,o,none⟩=some v):sI w nc W B3 B5 rs axs js :=
 { h with BC:=uB hc (Rf _) h.aW h.BC,mH:=uB hc (AX _) h.aK h.mH,GK:=uB hc (y7 _ _) h.aX h.GK }
def pF:List Value:=[.pointer (some ⟨0,0,none⟩),dM 1,dM 2,dM 3,dM 4]
def afp (nc:Nat) (B1 B2 B3 B4:dY):Value:=.agg ⟨[dK nc,dJ B1,dJ B2,dJ B3,dJ B4]⟩
def zY (wi hj vi bi:Nat):pE:=⟨42,[.agg ⟨pF⟩,.agg ⟨[var wi,dM hj,dM (hj+1)]⟩,dM 0],.agg ⟨.pointer (some ⟨0,0,none⟩)::iE vi⟩,mB 1 [.int .i64 bi],[]⟩
def zZ (wi hj vi bi:Nat):pE:=⟨43,[.agg ⟨pF⟩,.agg ⟨[var wi,dM hj,dM (hj+1)]⟩,dM 0],.agg ⟨.pointer (some ⟨0,0,none⟩)::iE vi⟩,mB 1 [.int .i64 bi],[]⟩
variable {l:List Int} {bs:List Bool} {sl:List dY} {B1 B2 B4:dY} {wi hj vi bi:Nat}
theorem LW {m:MB} (hS:sI w0 nc W B1 B3 rs axs js) (hm:sD w0 nc js.length m)
  (e1:eQ (fP (gB (w0,[nc]) l bs sl) ⟨[nc],[]⟩ 5) (zY wi hj vi bi).xs=some [afp nc B1 B2 B3 B4,.agg ⟨[num m.wt,dJ m.J,dJ m.V]⟩,dJ W]) (e2:fP (gB (w0,[nc]) l bs sl) ⟨[nc],[]⟩ 5 (zY wi hj vi bi).v=some ((lQ rs m).1.val nc)) (e3:eF (gB (w0,[nc]) l bs sl) 300 (zY wi hj vi bi).fl=some (.bool (lQ rs m).2)):zf aa (gB (w0,[nc]) l bs sl) 88 (zY wi hj vi bi):=by
 refine ⟨rfl,fun nc' c w h0 hF hw=>?_⟩
 have hnc:nc'=nc:=h0.1 nc rfl
 subst hnc
 refine ⟨_,_,_,e1,e2,e3,?_⟩
 have hm':=hm.move (EO hF)
 have hS':=hS.move (EO hF)
 have:=agI nc' c W m.J m.V B1 B2 B3 B4 m.wt w rs m.ks m.vs hm'.j hm'.v hS'.wl hm'.l hm'.l3 hm'.qU hm'.dJ hS'.BC (fun i k hk=>by rw [hS'.l1]; exact hm'.ks i k hk) hw hm'.aJ hm'.aV hS'.aW
 refine this.mono fun r w' hr=>?_
 rw [OY] at hr
 exact hr
theorem LX {m:MB} (hS:sI w0 nc W B1 B3 rs axs js) (hm:sD w0 nc js.length m) (hcap:m.J.2.1≤m.J.2.2)
  (e1:eQ (fP (gB (w0,[nc]) l bs sl) ⟨[nc],[]⟩ 5) (zZ wi hj vi bi).xs=some [afp nc B1 B2 B3 B4,.agg ⟨[num m.wt,dJ m.J,dJ m.V]⟩,dJ W]) (e2:fP (gB (w0,[nc]) l bs sl) ⟨[nc],[]⟩ 5 (zZ wi hj vi bi).v=some ((l9 rs axs js m).1.val nc)) (e3:eF (gB (w0,[nc]) l bs sl) 300 (zZ wi hj vi bi).fl=some (.bool (l9 rs axs js m).2)):zf aa (gB (w0,[nc]) l bs sl) 88 (zZ wi hj vi bi):=by
 refine ⟨rfl,fun nc' c w h0 hF hw=>?_⟩
 have hnc:nc'=nc:=h0.1 nc rfl
 subst hnc
 refine ⟨_,_,_,e1,e2,e3,?_⟩
 have:=adn (B4:=B2) (B6:=B4) (f:=c) (hS.move (EO hF)) (hm.move (EO hF)) hcap hw
 refine this.mono fun r w' hr=>?_
 rw [Uv] at hr
 exact hr
def mY (nr ng nb nc:Nat) (x y z:Int) (B1 B2 B3 B4:dY):List jC:=[(nr,0,[dJ B1,dJ B2]),(ng,0,[num x,num y,num z]),(nb,0,[dK nc,dJ B1,dJ B2,dJ B3,dJ B4])]
variable {nr ng nb n:Nat} {x y z:Int} {f:Bool} {a:Act} {Q:Exit→Act→World→Prop} {D:Code}
theorem adP (hS:sI w0 nc W B1 B3 rs axs js) (hb:kr w0 nc n B1 B4 ([]:List MB)) (hjn:js.length=n)
  (hw:jR w0 [nc] (mY nr ng nb nc x y z B1 B2 B3 B4)) (h:dP (dS 133 [(6,dK nr),(7,dK ng),(16,dJ W),(18,dK nc),(19,dK nb)]) [(nc,[.bool f],88)] [] a w) (hk:dO w0 [nc] w)
  (hQ:∀a' w' g1 g2,w.heap.size≤g1→w.heap.size≤g2→[nc,g1,g2].Nodup→dP (dS 133 [(6,dK nr),(7,dK ng),(18,dK nc),(19,dK nb),(20,.slice (some ⟨g1,0,none⟩) 0 0),(21,.slice (some ⟨g2,0,none⟩) 0 0)]) [(nc,[.bool f],88),(g1,([].flatMap fun m=>(lQ rs m).1.cs nc),98),(g2,([].flatMap fun m=>(l9 rs axs js m).1.cs nc),98)] [] a' w'→dO w0 [nc] w'→D.wp aa Q a' w'):(o7 [kS (dN aY),dZ (sR 7 (dN aY))] D).wp aa Q a w:=by
 subst hjn
 refine jZ ([x,y,z,0,0]) [f] [W,B1,B2,B3,B4] (g:=[]) (wt:=[]) (lt:=[(4,.int .i64 0)]) (sb:=[]) (T:=[]) (K:=[]) (RT:=[]) (wb:=[dU [dM 1,dM 2],dU [var 0,var 1,var 2],dU pF]) (ws:=(mY nr ng nb nc x y z B1 B2 B3 B4++[])) (fr:=fK 133 [(6,.pointer (some ⟨0,0,some 0⟩)),(7,.pointer (some ⟨1,0,some 0⟩)),(16,dM 0),(18,.pointer (some ⟨0,0,none⟩)),(19,.pointer (some ⟨2,0,some 0⟩))]) (H:=oC) (lo:=[]) (us':=fun gn _=>dS 133 [(6,dK nr),(7,dK ng),(18,dK nc),(19,dK nb),(20,.slice (some ⟨gn.getD 0 0,0,none⟩) 0 0),(21,.slice (some ⟨gn.getD 1 0,0,none⟩) 0 0)]) (gs':=fun gn _=>[(nc,[.bool f],88),(gn.getD 0 0,([].flatMap fun m=>(lQ rs m).1.cs nc),98),(gn.getD 1 0,([].flatMap fun m=>(l9 rs axs js m).1.cs nc),98)]) (ls':=fun _ _=>[]) 20 _ [0,1,2] [] [20,21] [] (fun gn nl e1 e2=>?_) (by kernel_rfl) (fun gn nl e1 e2 e3=>?_) ⟨fB _,?_,gD,fT,?_,fw (by simp),gH,fun _=>?_⟩ h hk (fun a' w' gn nl e1 e2 e3 e4 hs hk'=>?_)
 ·match gn,nl,e1,e2 with
  | [g1,g2],[],_,_=>show (_:Option _)=_; kernel_rfl
 ·match gn,nl,e1,e2 with
  | [g1,g2],[],_,_=>simpa using e3
 ·intro t ht
  simp only [ae] at ht
 ·intro x hx
  rcases bH.1 hx with hx | hx
  ·exact hw x hx
  simp only [ae] at hx
 ·refine ⟨fun e he=>?_,fun e he=>?_,fun e he=>by cases he⟩
  ·simp only [fG,ae] at he
  ·simp only [fG,ag,ae,or_false] at he
   subst he
   exact ⟨2,by show some (num 0)=some (.int .i64 (B4.2.1:Nat)); rw [hb.b3]; rfl⟩
 ·match gn,nl,e1,e2 with
  | [g1,g2],[],_,_ =>
   simp only [bN,bZ] at hs
   exact hQ a' w' g1 g2 (e4 g1 (by simp)).1 (e4 g2 (by simp)).1 (by simpa using e3) hs hk'
theorem adQ {m0:MB} (hS:sI w0 nc W B1 B3 rs axs js) (hb:kr w0 nc n B1 B4 ([m0]:List MB)) (hjn:js.length=n) (hc0:m0.J.2.1≤m0.J.2.2)
  (hw:jR w0 [nc] (mY nr ng nb nc x y z B1 B2 B3 B4)) (h:dP (dS 133 [(6,dK nr),(7,dK ng),(16,dJ W),(18,dK nc),(19,dK nb)]) [(nc,[.bool f],88)] [] a w) (hk:dO w0 [nc] w)
  (hQ:∀a' w' g1 g2,w.heap.size≤g1→w.heap.size≤g2→[nc,g1,g2].Nodup→dP (dS 133 [(6,dK nr),(7,dK ng),(18,dK nc),(19,dK nb),(20,.slice (some ⟨g1,0,none⟩) 1 1),(21,.slice (some ⟨g2,0,none⟩) 1 1)]) [(nc,[.bool ((f||(lQ rs m0).2)||(l9 rs axs js m0).2)],88),(g1,([m0].flatMap fun m=>(lQ rs m).1.cs nc),98),(g2,([m0].flatMap fun m=>(l9 rs axs js m).1.cs nc),98)] [] a' w'→dO w0 [nc] w'→D.wp aa Q a' w'):(o7 [kS (dN aY),dZ (sR 7 (dN aY))] D).wp aa Q a w:=by
 subst hjn
 have ok0:=hb.ok 0 m0 rfl
 obtain ⟨bM,oM,eM,lM,cM0⟩:=o9 hb.rows (show (([m0]:List MB).map MB.row)[0]?=some m0.row from rfl)
 refine jZ ([x,y,z,m0.wt,0]++(lQ rs m0).1.l++(l9 rs axs js m0).1.l) [f,(lQ rs m0).2,(l9 rs axs js m0).2] [W,B1,B2,B3,B4,m0.J,m0.V] (g:=[]) (wt:=[(4,.int .i64 0,3,3)]) (lt:=[(4,.int .i64 1)]) (sb:=[]) (T:=[zY 3 5 5 1,zZ 3 5 11 2]) (K:=[]) (RT:=[]) (wb:=[dU [dM 1,dM 2],dU [var 0,var 1,var 2],dU pF,dU [var 3,dM 5,dM 6]]) (ws:=(mY nr ng nb nc x y z B1 B2 B3 B4++[(bM,oM+0*3,m0.row)])) (fr:=fK 133 [(6,.pointer (some ⟨0,0,some 0⟩)),(7,.pointer (some ⟨1,0,some 0⟩)),(16,dM 0),(18,.pointer (some ⟨0,0,none⟩)),(19,.pointer (some ⟨2,0,some 0⟩))]) (H:=oC) (lo:=[]) (us':=fun gn _=>dS 133 [(6,dK nr),(7,dK ng),(18,dK nc),(19,dK nb),(20,.slice (some ⟨gn.getD 0 0,0,none⟩) 1 1),(21,.slice (some ⟨gn.getD 1 0,0,none⟩) 1 1)]) (gs':=fun gn _=>[(nc,[.bool ((f||(lQ rs m0).2)||(l9 rs axs js m0).2)],88),(gn.getD 0 0,([m0].flatMap fun m=>(lQ rs m).1.cs nc),98),(gn.getD 1 0,([m0].flatMap fun m=>(l9 rs axs js m).1.cs nc),98)]) (ls':=fun _ _=>[]) 20 _ [0,1,2] [] [20,21] [] (fun gn nl e1 e2=>?_) (by kernel_rfl) (fun gn nl e1 e2 e3=>?_) ⟨fB _,?_,gD,fT,?_,fw (by simp),gH,fun _=>?_⟩ h hk (fun a' w' gn nl e1 e2 e3 e4 hs hk'=>?_)
 ·match gn,nl,e1,e2 with
  | [g1,g2],[],_,_=>show (_:Option _)=_; kernel_rfl
 ·match gn,nl,e1,e2 with
  | [g1,g2],[],_,_=>simpa using e3
 ·intro t ht
  simp only [ag,ae,or_false] at ht
  rcases ht with rfl | rfl
  ·exact LW (B2:=B2) (B4:=B4) hS ok0 (by kernel_rfl) (by kernel_rfl) (by kernel_rfl)
  ·exact LX (B2:=B2) (B4:=B4) hS ok0 hc0 (by kernel_rfl) (by kernel_rfl) (by kernel_rfl)
 ·intro x hx
  rcases bH.1 hx with hx | hx
  ·exact hw x hx
  simp only [ag,ae,or_false] at hx
  subst hx
  ·exact ⟨⟨lM,by simpa using hb.aM _ eM⟩,aO _,by exact cM0⟩
 ·refine ⟨fun e he=>?_,fun e he=>?_,fun e he=>by cases he⟩
  ·simp only [fG,ag,ae,or_false] at he
   subst he
   ·exact ⟨⟨bM,oM,none⟩,B4.2.1,B4.2.2,0,2,(by show B4=_; rw [←eM]),rfl,rfl,by omega,(by rw [hb.b3]; simp),rfl,rfl⟩
  ·simp only [fG,ag,ae,or_false] at he
   subst he
   exact ⟨2,by show some (num 1)=some (.int .i64 (B4.2.1:Nat)); rw [hb.b3]; rfl⟩
 ·match gn,nl,e1,e2 with
  | [g1,g2],[],_,_ =>
   simp only [bN,bZ] at hs
   exact hQ a' w' g1 g2 (e4 g1 (by simp)).1 (e4 g2 (by simp)).1 (by simpa using e3) hs hk'
theorem adR {m0 m1:MB} (hS:sI w0 nc W B1 B3 rs axs js) (hb:kr w0 nc n B1 B4 ([m0,m1]:List MB)) (hjn:js.length=n) (hc0:m0.J.2.1≤m0.J.2.2) (hc1:m1.J.2.1≤m1.J.2.2)
  (hw:jR w0 [nc] (mY nr ng nb nc x y z B1 B2 B3 B4)) (h:dP (dS 133 [(6,dK nr),(7,dK ng),(16,dJ W),(18,dK nc),(19,dK nb)]) [(nc,[.bool f],88)] [] a w) (hk:dO w0 [nc] w)
  (hQ:∀a' w' g1 g2,w.heap.size≤g1→w.heap.size≤g2→[nc,g1,g2].Nodup→dP (dS 133 [(6,dK nr),(7,dK ng),(18,dK nc),(19,dK nb),(20,.slice (some ⟨g1,0,none⟩) 2 2),(21,.slice (some ⟨g2,0,none⟩) 2 2)]) [(nc,[.bool ((((f||(lQ rs m0).2)||(l9 rs axs js m0).2)||(lQ rs m1).2)||(l9 rs axs js m1).2)],88),(g1,([m0,m1].flatMap fun m=>(lQ rs m).1.cs nc),98),(g2,([m0,m1].flatMap fun m=>(l9 rs axs js m).1.cs nc),98)] [] a' w'→dO w0 [nc] w'→D.wp aa Q a' w'):(o7 [kS (dN aY),dZ (sR 7 (dN aY))] D).wp aa Q a w:=by
 subst hjn
 have ok0:=hb.ok 0 m0 rfl
 have ok1:=hb.ok 1 m1 rfl
 obtain ⟨bM,oM,eM,lM,cM0⟩:=o9 hb.rows (show (([m0,m1]:List MB).map MB.row)[0]?=some m0.row from rfl)
 obtain ⟨bM',oM',eM',_,cM1⟩:=o9 hb.rows (show (([m0,m1]:List MB).map MB.row)[1]?=some m1.row from rfl)
 rw [eM] at eM'; injection eM' with eM'; injection eM' with e1 e2; subst e1; subst e2
 refine jZ ([x,y,z,m0.wt,m1.wt]++(lQ rs m0).1.l++(l9 rs axs js m0).1.l++(lQ rs m1).1.l++(l9 rs axs js m1).1.l) [f,(lQ rs m0).2,(l9 rs axs js m0).2,(lQ rs m1).2,(l9 rs axs js m1).2] [W,B1,B2,B3,B4,m0.J,m0.V,m1.J,m1.V] (g:=[]) (wt:=[(4,.int .i64 0,3,3),(4,.int .i64 1,3,4)]) (lt:=[(4,.int .i64 2)]) (sb:=[]) (T:=[zY 3 5 5 1,zZ 3 5 11 2,zY 4 7 17 3,zZ 4 7 23 4]) (K:=[]) (RT:=[]) (wb:=[dU [dM 1,dM 2],dU [var 0,var 1,var 2],dU pF,dU [var 3,dM 5,dM 6],dU [var 4,dM 7,dM 8]]) (ws:=(mY nr ng nb nc x y z B1 B2 B3 B4++[(bM,oM+0*3,m0.row),(bM,oM+1*3,m1.row)])) (fr:=fK 133 [(6,.pointer (some ⟨0,0,some 0⟩)),(7,.pointer (some ⟨1,0,some 0⟩)),(16,dM 0),(18,.pointer (some ⟨0,0,none⟩)),(19,.pointer (some ⟨2,0,some 0⟩))]) (H:=oC) (lo:=[]) (us':=fun gn _=>dS 133 [(6,dK nr),(7,dK ng),(18,dK nc),(19,dK nb),(20,.slice (some ⟨gn.getD 0 0,0,none⟩) 2 2),(21,.slice (some ⟨gn.getD 1 0,0,none⟩) 2 2)]) (gs':=fun gn _=>[(nc,[.bool ((((f||(lQ rs m0).2)||(l9 rs axs js m0).2)||(lQ rs m1).2)||(l9 rs axs js m1).2)],88),(gn.getD 0 0,([m0,m1].flatMap fun m=>(lQ rs m).1.cs nc),98),(gn.getD 1 0,([m0,m1].flatMap fun m=>(l9 rs axs js m).1.cs nc),98)]) (ls':=fun _ _=>[]) 20 _ [0,1,2] [] [20,21] [] (fun gn nl e1 e2=>?_) (by kernel_rfl) (fun gn nl e1 e2 e3=>?_) ⟨fB _,?_,gD,fT,?_,fw (by simp),gH,fun _=>?_⟩ h hk (fun a' w' gn nl e1 e2 e3 e4 hs hk'=>?_)
 ·match gn,nl,e1,e2 with
  | [g1,g2],[],_,_=>show (_:Option _)=_; kernel_rfl
 ·match gn,nl,e1,e2 with
  | [g1,g2],[],_,_=>simpa using e3
 ·intro t ht
  simp only [ag,ae,or_false] at ht
  rcases ht with rfl | rfl | rfl | rfl
  ·exact LW (B2:=B2) (B4:=B4) hS ok0 (by kernel_rfl) (by kernel_rfl) (by kernel_rfl)
  ·exact LX (B2:=B2) (B4:=B4) hS ok0 hc0 (by kernel_rfl) (by kernel_rfl) (by kernel_rfl)
  ·exact LW (B2:=B2) (B4:=B4) hS ok1 (by kernel_rfl) (by kernel_rfl) (by kernel_rfl)
  ·exact LX (B2:=B2) (B4:=B4) hS ok1 hc1 (by kernel_rfl) (by kernel_rfl) (by kernel_rfl)
 ·intro x hx
  rcases bH.1 hx with hx | hx
  ·exact hw x hx
  simp only [ag,ae,or_false] at hx
  rcases hx with rfl | rfl
  ·exact ⟨⟨lM,by simpa using hb.aM _ eM⟩,aO _,by exact cM0⟩
  ·exact ⟨⟨lM,by simpa using hb.aM _ eM⟩,aO _,by exact cM1⟩
 ·refine ⟨fun e he=>?_,fun e he=>?_,fun e he=>by cases he⟩
  ·simp only [fG,ag,ae,or_false] at he
   rcases he with rfl | rfl
   ·exact ⟨⟨bM,oM,none⟩,B4.2.1,B4.2.2,0,2,(by show B4=_; rw [←eM]),rfl,rfl,by omega,(by rw [hb.b3]; simp),rfl,rfl⟩
   ·exact ⟨⟨bM,oM,none⟩,B4.2.1,B4.2.2,1,2,(by show B4=_; rw [←eM]),rfl,rfl,by omega,(by rw [hb.b3]; simp),rfl,rfl⟩
  ·simp only [fG,ag,ae,or_false] at he
   subst he
   exact ⟨2,by show some (num 2)=some (.int .i64 (B4.2.1:Nat)); rw [hb.b3]; rfl⟩
 ·match gn,nl,e1,e2 with
  | [g1,g2],[],_,_ =>
   simp only [bN,bZ] at hs
   exact hQ a' w' g1 g2 (e4 g1 (by simp)).1 (e4 g2 (by simp)).1 (by simpa using e3) hs hk'
end Go.Proofs
end
section
namespace Go.Proofs
open Go.Sm Go.RowKit En
def xu:List (Int×Int)→List (Int×Int)→List (Int×Int)→List Value
 | u::us,x::xs,g::gs=>num u.1::num u.2::num x.1::num x.2::num g.1::num g.2::xu us xs gs
 | _,_,_=>[]
variable {w0 w:World} {nc:Nat} {a:Act} {RR:Ending→World→Prop}
theorem LV (h:dP (dS 133 [(18,dK nc)]) [(nc,[.bool true],88)] [] a w) (hk:dO w0 [nc] w)
  (hQ:∀a' w',dP (dS 133 []) [(nc,[.bool true],88)] [] a' w'→dO w0 [nc] w'→RR (.returned (.tuple ⟨[.slice none 0 0,.bool false]⟩)) w'):(sR 9 (dN aY)).wp aa (bodyPost aa aY RR) a w :=
 qQ [] [] [] (g:=[]) (wt:=[]) (lt:=[]) (sb:=[]) (T:=[]) (K:=[]) (RT:=[]) (wb:=[]) (ws:=[]) (fr:=fK 133 [(18,.pointer (some ⟨0,0,none⟩))]) (H:=[dQ [.bool true] 88]) (lo:=[]) (u:=.tuple ⟨[.slice none 0 0,.bool false]⟩) 20 [0] [] (by kernel_rfl) (by kernel_rfl) (by simp) ⟨fB _,gG,gD,fT,il _ _,fw (by simp),gH,fun _=>iI⟩ h hk hQ
variable {nr ng nb:Nat} {B1 B2 B3 B4 F S:dY} {x y z:Int} {u0 v0 k0:Int×Int} {b1 b2 b3 f:Bool} {us vs:List V6} {Q:Exit→Act→World→Prop} {D:Code}
theorem adS {ms:List MB} (hb:kr w0 nc 1 B1 B4 ms)
  (hF:F.2.1=us.length) (hS:S.2.1=vs.length) (lF:us.length=ms.length) (lS:vs.length=ms.length) (sF:Sl w0 F.1 7 (us.map (V6.cs nc))) (sS:Sl w0 S.1 7 (vs.map (V6.cs nc))) (aF:∀a,F.1=some a→a.block≠nc) (aS:∀a,S.1=some a→a.block≠nc)
  (h1:gm ms us (ag6 1 (0,0),false) ms.length=([u0],b1)) (h2:gm ms vs (ag6 1 (0,0),false) ms.length=([v0],b2)) (h3:((iU ms 1 x y z).1.map iP,(iU ms 1 x y z).2)=([k0],b3))
  (hw:jR w0 [nc] (mY nr ng nb nc x y z B1 B2 B3 B4)) (h:dP (dS 133 [(6,dK nr),(7,dK ng),(18,dK nc),(19,dK nb),(20,dJ F),(21,dJ S)]) [(nc,[.bool f],88)] [] a w) (hk:dO w0 [nc] w)
  (hQ:∀a' w' g1 g2 g3,(∀g∈[g1,g2,g3],w.heap.size≤g)→[nc,g1,g2,g3].Nodup→dP (dS 133 [(6,dK nr),(18,dK nc),(24,.slice (some ⟨g1,0,none⟩) 1 1),(25,.slice (some ⟨g2,0,none⟩) 1 1),(26,.slice (some ⟨g3,0,none⟩) 1 1)]) [(nc,[.bool (((f||b1)||b2)||b3)],88),(g1,(eP [u0]).map num,23),(g2,(eP [v0]).map num,23),(g3,(eP [k0]).map num,23)] [] a' w'→dO w0 [nc] w'→D.wp aa Q a' w'):(o7 [dZ (sR 8 (dN aY))] D).wp aa Q a w:=by
 refine jZ ([x,y,z]++eP [u0]++eP [v0]++eP [k0]) [f,b1,b2,b3] [(none,0,0),B1,B2,B3,B4,F,S] (g:=[]) (wt:=[]) (lt:=[]) (sb:=[]) (T:=[]) (K:=[]) (RT:=[⟨44,[.agg ⟨pF⟩,dM 5],1,1,mB 1 [.int .i64 1],dQ ((dh 2).map fun q=>var (3+q)) 23⟩,⟨44,[.agg ⟨pF⟩,dM 6],1,1,mB 1 [.int .i64 2],dQ ((dh 2).map fun q=>var (5+q)) 23⟩,⟨45,[.agg ⟨pF⟩,.agg ⟨[var 0,var 1,var 2]⟩],1,1,mB 1 [.int .i64 3],dQ ((dh 2).map fun q=>var (7+q)) 23⟩]) (wb:=[dU [dM 1,dM 2],dU [var 0,var 1,var 2],dU pF]) (ws:=mY nr ng nb nc x y z B1 B2 B3 B4) (fr:=fK 133 [(6,.pointer (some ⟨0,0,some 0⟩)),(7,.pointer (some ⟨1,0,some 0⟩)),(18,.pointer (some ⟨0,0,none⟩)),(19,.pointer (some ⟨2,0,some 0⟩)),(20,dM 5),(21,dM 6)]) (H:=oC) (lo:=[]) (us':=fun gn _=>dS 133 [(6,dK nr),(18,dK nc),(24,.slice (some ⟨gn.getD 0 0,0,none⟩) 1 1),(25,.slice (some ⟨gn.getD 1 0,0,none⟩) 1 1),(26,.slice (some ⟨gn.getD 2 0,0,none⟩) 1 1)]) (gs':=fun gn _=>[(nc,[.bool (((f||b1)||b2)||b3)],88),(gn.getD 0 0,(eP [u0]).map num,23),(gn.getD 1 0,(eP [v0]).map num,23),(gn.getD 2 0,(eP [k0]).map num,23)]) (ls':=fun _ _=>[]) 20 _ [0,1,2,3] [] [24,25,26] [] (fun gn nl e1 e2=>?_) (by kernel_rfl) (fun gn nl e1 e2 e3=>?_) ⟨fB _,gG,gD,?_,hw,fw (by simp),gH,fun _=>iI⟩ h hk (fun a' w' gn nl e1 e2 e3 e4 hs hk'=>?_)
 ·match gn,nl,e1,e2 with
  | [g1,g2,g3],[],_,_=>show (_:Option _)=_; kernel_rfl
 ·match gn,nl,e1,e2 with
  | [g1,g2,g3],[],_,_=>simpa using e3
 ·intro t ht
  simp only [ag,ae,or_false] at ht
  rcases ht with rfl | rfl | rfl
  ·intro nc' c w hf0 hFz hfl
   have hnc:nc'=nc:=hf0 nc rfl
   subst hnc
   refine ⟨[afp nc' B1 B2 B3 B4,dJ F],(eP [u0]).map num,b1,by kernel_rfl,by kernel_rfl,by kernel_rfl,?_⟩
   have hb':=hb.move (EO hFz)
   have:=zu nc' 1 c B1 B2 B3 B4 F w ms us hb'.n1 hb'.b0 hb'.b3 hF lF (by have:=hb.m2; omega) hfl hb'.rows hb'.aM (uB (EO hFz) (y7 _ _) aF sF) aF hb'.ok
   refine this.mono fun r w' hr=>?_
   rw [yg,h1] at hr
   exact hr
  ·intro nc' c w hf0 hFz hfl
   have hnc:nc'=nc:=hf0 nc rfl
   subst hnc
   refine ⟨[afp nc' B1 B2 B3 B4,dJ S],(eP [v0]).map num,b2,by kernel_rfl,by kernel_rfl,by kernel_rfl,?_⟩
   have hb':=hb.move (EO hFz)
   have:=zu nc' 1 c B1 B2 B3 B4 S w ms vs hb'.n1 hb'.b0 hb'.b3 hS lS (by have:=hb.m2; omega) hfl hb'.rows hb'.aM (uB (EO hFz) (y7 _ _) aS sS) aS hb'.ok
   refine this.mono fun r w' hr=>?_
   rw [yg,h2] at hr
   exact hr
  ·intro nc' c w hf0 hFz hfl
   have hnc:nc'=nc:=hf0 nc rfl
   subst hnc
   refine ⟨[afp nc' B1 B2 B3 B4,.agg ⟨[num x,num y,num z]⟩],(eP [k0]).map num,b3,by kernel_rfl,by kernel_rfl,by kernel_rfl,?_⟩
   have:=KY (B1:=B2) (B2:=B3) (f:=c) (x:=x) (y:=y) (z:=z) (hb.move (EO hFz)) hfl
   simp only [aP] at h3
   rw [h3.1,h3.2] at this
   exact this
 ·match gn,nl,e1,e2 with
  | [g1,g2,g3],[],_,_ =>
   simp only [bN,bZ] at hs
   exact hQ a' w' g1 g2 g3 (fun g hg=>(e4 g (by simpa using hg)).1) (by simpa using e3) hs hk'
variable {g1 g2 g3:Nat}
theorem adM (hB:B1.2.1=1) (hown:∀g∈[nc,g1,g2,g3]++[],g∈[nc]∨w0.heap.size≤g)
  (hw:jR w0 [nc] [(nr,0,[dJ B1,dJ B2])]) (h:dP (dS 133 [(6,dK nr),(18,dK nc),(24,.slice (some ⟨g1,0,none⟩) 1 1),(25,.slice (some ⟨g2,0,none⟩) 1 1),(26,.slice (some ⟨g3,0,none⟩) 1 1)]) [(nc,[.bool false],88),(g1,(eP [u0]).map num,23),(g2,(eP [v0]).map num,23),(g3,(eP [k0]).map num,23)] [] a w) (hk:dO w0 [nc] w)
  (hQ:∀a' w' g4,w.heap.size≤g4→[nc,g1,g2,g3,g4].Nodup→dP (dS 133 [(24,.slice (some ⟨g1,0,none⟩) 1 1),(25,.slice (some ⟨g2,0,none⟩) 1 1),(26,.slice (some ⟨g3,0,none⟩) 1 1),(27,.slice (some ⟨g4,0,none⟩) 1 1)]) [(nc,[.bool false],88),(g1,(eP [u0]).map num,23),(g2,(eP [v0]).map num,23),(g3,(eP [k0]).map num,23),(g4,[.int .i64 0,.int .i64 0,.int .i64 0,.int .i64 0,.int .i64 0,.int .i64 0],47)] [] a' w'→dO w0 [nc] w'→D.wp aa Q a' w'):(o7 [dZ (sR 9 (dN aY)),dZ (sR 10 (dN aY))] D).wp aa Q a w:=by
 refine jZ ([0,0,0]++eP [u0]++eP [v0]++eP [k0]) [] [(none,0,0),B1,B2] (g:=[]) (wt:=[]) (lt:=[(1,.int .i64 1)]) (sb:=[]) (T:=[]) (K:=[]) (RT:=[]) (wb:=[dU [dM 1,dM 2]]) (ws:=[(nr,0,[dJ B1,dJ B2])]) (fr:=fK 133 [(6,.pointer (some ⟨0,0,some 0⟩)),(24,.slice (some ⟨1,0,none⟩) 1 1),(25,.slice (some ⟨2,0,none⟩) 1 1),(26,.slice (some ⟨3,0,none⟩) 1 1),(18,.pointer (some ⟨0,0,none⟩))]) (H:=[dQ [.bool false] 88,dQ ((dh 2).map fun q=>var (3+q)) 23,dQ ((dh 2).map fun q=>var (5+q)) 23,dQ ((dh 2).map fun q=>var (7+q)) 23]) (lo:=[]) (us':=fun gn _=>dS 133 [(24,.slice (some ⟨g1,0,none⟩) 1 1),(25,.slice (some ⟨g2,0,none⟩) 1 1),(26,.slice (some ⟨g3,0,none⟩) 1 1),(27,.slice (some ⟨gn.getD 0 0,0,none⟩) 1 1)]) (gs':=fun gn _=>[(nc,[.bool false],88),(g1,(eP [u0]).map num,23),(g2,(eP [v0]).map num,23),(g3,(eP [k0]).map num,23),(gn.getD 0 0,[.int .i64 0,.int .i64 0,.int .i64 0,.int .i64 0,.int .i64 0,.int .i64 0],47)]) (ls':=fun _ _=>[]) 20 _ [0,1,2,3,4] [] [27] [] (fun gn nl e1 e2=>?_) (by kernel_rfl) (fun gn nl e1 e2 e3=>?_) ⟨fB _,gG,gD,fT,hw,fw (by exact hown),gH,fun _=>?_⟩ h hk (fun a' w' gn nl e1 e2 e3 e4 hs hk'=>?_)
 ·match gn,nl,e1,e2 with
  | [g4],[],_,_=>show (_:Option _)=_; kernel_rfl
 ·match gn,nl,e1,e2 with
  | [g4],[],_,_=>simpa using e3
 ·refine ⟨(fun e he=>by cases he),fun e he=>?_,fun e he=>by cases he⟩
  simp only [fG,ag,ae,or_false] at he
  subst he
  exact ⟨2,by show some (num 1)=some (.int .i64 (B1.2.1:Nat)); rw [hB]; rfl⟩
 ·match gn,nl,e1,e2 with
  | [g4],[],_,_ =>
   simp only [bN] at hs
   exact hQ a' w' g4 (e4 g4 (by simp)).1 (by simpa using e3) hs hk'
variable {g4:Nat}
theorem adV (hown:∀g∈[nc,g1,g2,g3,g4]++[],g∈[nc]∨w0.heap.size≤g) (hnd:[nc,g1,g2,g3,g4].Nodup)
  (h:dP (dS 133 [(24,.slice (some ⟨g1,0,none⟩) 1 1),(25,.slice (some ⟨g2,0,none⟩) 1 1),(26,.slice (some ⟨g3,0,none⟩) 1 1),(27,.slice (some ⟨g4,0,none⟩) 1 1)]) [(nc,[.bool false],88),(g1,(eP [u0]).map num,23),(g2,(eP [v0]).map num,23),(g3,(eP [k0]).map num,23),(g4,[.int .i64 0,.int .i64 0,.int .i64 0,.int .i64 0,.int .i64 0,.int .i64 0],47)] [] a w) (hk:dO w0 [nc] w)
  (hQ:∀a' w',dP (dS 133 []) [(nc,[.bool false],88),(g4,xu [u0] [v0] [k0],47)] [] a' w'→dO w0 [nc] w'→RR (.returned (.tuple ⟨[.slice (some ⟨g4,0,none⟩) 1 1,.bool true]⟩)) w'):(sR 11 (dN aY)).wp aa (bodyPost aa aY RR) a w :=
 qQ ([0,0,0]++eP [u0]++eP [v0]++eP [k0]) [] [] (g:=[]) (wt:=[]) (lt:=[]) (sb:=[]) (T:=[]) (K:=[]) (RT:=[]) (wb:=[]) (ws:=[]) (fr:=fK 133 [(24,.slice (some ⟨1,0,none⟩) 1 1),(25,.slice (some ⟨2,0,none⟩) 1 1),(26,.slice (some ⟨3,0,none⟩) 1 1),(27,.slice (some ⟨4,0,none⟩) 1 1)]) (H:=[dQ [.bool false] 88,dQ ((dh 2).map fun q=>var (3+q)) 23,dQ ((dh 2).map fun q=>var (5+q)) 23,dQ ((dh 2).map fun q=>var (7+q)) 23]++[dQ [.int .i64 0,.int .i64 0,.int .i64 0,.int .i64 0,.int .i64 0,.int .i64 0] 47]) (lo:=[]) (u:=.tuple ⟨[.slice (some ⟨g4,0,none⟩) 1 1,.bool true]⟩) 20 [0,4] [] (by kernel_rfl) (by kernel_rfl) (by simp at hnd ⊢; omega) ⟨fB _,gG,gD,fT,il _ _,fw (by exact hown),gH,fun _=>iI⟩ h hk hQ
variable {u1 v1 k1:Int×Int}
theorem adT {ms:List MB} (hb:kr w0 nc 2 B1 B4 ms)
  (hF:F.2.1=us.length) (hS:S.2.1=vs.length) (lF:us.length=ms.length) (lS:vs.length=ms.length) (sF:Sl w0 F.1 7 (us.map (V6.cs nc))) (sS:Sl w0 S.1 7 (vs.map (V6.cs nc))) (aF:∀a,F.1=some a→a.block≠nc) (aS:∀a,S.1=some a→a.block≠nc)
  (h1:gm ms us (ag6 2 (0,0),false) ms.length=([u0,u1],b1)) (h2:gm ms vs (ag6 2 (0,0),false) ms.length=([v0,v1],b2)) (h3:((iU ms 2 x y z).1.map iP,(iU ms 2 x y z).2)=([k0,k1],b3))
  (hw:jR w0 [nc] (mY nr ng nb nc x y z B1 B2 B3 B4)) (h:dP (dS 133 [(6,dK nr),(7,dK ng),(18,dK nc),(19,dK nb),(20,dJ F),(21,dJ S)]) [(nc,[.bool f],88)] [] a w) (hk:dO w0 [nc] w)
  (hQ:∀a' w' g1 g2 g3,(∀g∈[g1,g2,g3],w.heap.size≤g)→[nc,g1,g2,g3].Nodup→dP (dS 133 [(6,dK nr),(18,dK nc),(24,.slice (some ⟨g1,0,none⟩) 2 2),(25,.slice (some ⟨g2,0,none⟩) 2 2),(26,.slice (some ⟨g3,0,none⟩) 2 2)]) [(nc,[.bool (((f||b1)||b2)||b3)],88),(g1,(eP [u0,u1]).map num,23),(g2,(eP [v0,v1]).map num,23),(g3,(eP [k0,k1]).map num,23)] [] a' w'→dO w0 [nc] w'→D.wp aa Q a' w'):(o7 [dZ (sR 8 (dN aY))] D).wp aa Q a w:=by
 refine jZ ([x,y,z]++eP [u0,u1]++eP [v0,v1]++eP [k0,k1]) [f,b1,b2,b3] [(none,0,0),B1,B2,B3,B4,F,S] (g:=[]) (wt:=[]) (lt:=[]) (sb:=[]) (T:=[]) (K:=[]) (RT:=[⟨44,[.agg ⟨pF⟩,dM 5],2,2,mB 1 [.int .i64 1],dQ ((dh 4).map fun q=>var (3+q)) 23⟩,⟨44,[.agg ⟨pF⟩,dM 6],2,2,mB 1 [.int .i64 2],dQ ((dh 4).map fun q=>var (7+q)) 23⟩,⟨45,[.agg ⟨pF⟩,.agg ⟨[var 0,var 1,var 2]⟩],2,2,mB 1 [.int .i64 3],dQ ((dh 4).map fun q=>var (11+q)) 23⟩]) (wb:=[dU [dM 1,dM 2],dU [var 0,var 1,var 2],dU pF]) (ws:=mY nr ng nb nc x y z B1 B2 B3 B4) (fr:=fK 133 [(6,.pointer (some ⟨0,0,some 0⟩)),(7,.pointer (some ⟨1,0,some 0⟩)),(18,.pointer (some ⟨0,0,none⟩)),(19,.pointer (some ⟨2,0,some 0⟩)),(20,dM 5),(21,dM 6)]) (H:=oC) (lo:=[]) (us':=fun gn _=>dS 133 [(6,dK nr),(18,dK nc),(24,.slice (some ⟨gn.getD 0 0,0,none⟩) 2 2),(25,.slice (some ⟨gn.getD 1 0,0,none⟩) 2 2),(26,.slice (some ⟨gn.getD 2 0,0,none⟩) 2 2)]) (gs':=fun gn _=>[(nc,[.bool (((f||b1)||b2)||b3)],88),(gn.getD 0 0,(eP [u0,u1]).map num,23),(gn.getD 1 0,(eP [v0,v1]).map num,23),(gn.getD 2 0,(eP [k0,k1]).map num,23)]) (ls':=fun _ _=>[]) 20 _ [0,1,2,3] [] [24,25,26] [] (fun gn nl e1 e2=>?_) (by kernel_rfl) (fun gn nl e1 e2 e3=>?_) ⟨fB _,gG,gD,?_,hw,fw (by simp),gH,fun _=>iI⟩ h hk (fun a' w' gn nl e1 e2 e3 e4 hs hk'=>?_)
 ·match gn,nl,e1,e2 with
  | [g1,g2,g3],[],_,_=>show (_:Option _)=_; kernel_rfl
 ·match gn,nl,e1,e2 with
  | [g1,g2,g3],[],_,_=>simpa using e3
 ·intro t ht
  simp only [ag,ae,or_false] at ht
  rcases ht with rfl | rfl | rfl
  ·intro nc' c w hf0 hFz hfl
   have hnc:nc'=nc:=hf0 nc rfl
   subst hnc
   refine ⟨[afp nc' B1 B2 B3 B4,dJ F],(eP [u0,u1]).map num,b1,by kernel_rfl,by kernel_rfl,by kernel_rfl,?_⟩
   have hb':=hb.move (EO hFz)
   have:=zu nc' 2 c B1 B2 B3 B4 F w ms us hb'.n1 hb'.b0 hb'.b3 hF lF (by have:=hb.m2; omega) hfl hb'.rows hb'.aM (uB (EO hFz) (y7 _ _) aF sF) aF hb'.ok
   refine this.mono fun r w' hr=>?_
   rw [yg,h1] at hr
   exact hr
  ·intro nc' c w hf0 hFz hfl
   have hnc:nc'=nc:=hf0 nc rfl
   subst hnc
   refine ⟨[afp nc' B1 B2 B3 B4,dJ S],(eP [v0,v1]).map num,b2,by kernel_rfl,by kernel_rfl,by kernel_rfl,?_⟩
   have hb':=hb.move (EO hFz)
   have:=zu nc' 2 c B1 B2 B3 B4 S w ms vs hb'.n1 hb'.b0 hb'.b3 hS lS (by have:=hb.m2; omega) hfl hb'.rows hb'.aM (uB (EO hFz) (y7 _ _) aS sS) aS hb'.ok
   refine this.mono fun r w' hr=>?_
   rw [yg,h2] at hr
   exact hr
  ·intro nc' c w hf0 hFz hfl
   have hnc:nc'=nc:=hf0 nc rfl
   subst hnc
   refine ⟨[afp nc' B1 B2 B3 B4,.agg ⟨[num x,num y,num z]⟩],(eP [k0,k1]).map num,b3,by kernel_rfl,by kernel_rfl,by kernel_rfl,?_⟩
   have:=KY (B1:=B2) (B2:=B3) (f:=c) (x:=x) (y:=y) (z:=z) (hb.move (EO hFz)) hfl
   simp only [aP] at h3
   rw [h3.1,h3.2] at this
   exact this
 ·match gn,nl,e1,e2 with
  | [g1,g2,g3],[],_,_ =>
   simp only [bN,bZ] at hs
   exact hQ a' w' g1 g2 g3 (fun g hg=>(e4 g (by simpa using hg)).1) (by simpa using e3) hs hk'
theorem adN (hB:B1.2.1=2) (hown:∀g∈[nc,g1,g2,g3]++[],g∈[nc]∨w0.heap.size≤g)
  (hw:jR w0 [nc] [(nr,0,[dJ B1,dJ B2])]) (h:dP (dS 133 [(6,dK nr),(18,dK nc),(24,.slice (some ⟨g1,0,none⟩) 2 2),(25,.slice (some ⟨g2,0,none⟩) 2 2),(26,.slice (some ⟨g3,0,none⟩) 2 2)]) [(nc,[.bool false],88),(g1,(eP [u0,u1]).map num,23),(g2,(eP [v0,v1]).map num,23),(g3,(eP [k0,k1]).map num,23)] [] a w) (hk:dO w0 [nc] w)
  (hQ:∀a' w' g4,w.heap.size≤g4→[nc,g1,g2,g3,g4].Nodup→dP (dS 133 [(24,.slice (some ⟨g1,0,none⟩) 2 2),(25,.slice (some ⟨g2,0,none⟩) 2 2),(26,.slice (some ⟨g3,0,none⟩) 2 2),(27,.slice (some ⟨g4,0,none⟩) 2 2)]) [(nc,[.bool false],88),(g1,(eP [u0,u1]).map num,23),(g2,(eP [v0,v1]).map num,23),(g3,(eP [k0,k1]).map num,23),(g4,[.int .i64 0,.int .i64 0,.int .i64 0,.int .i64 0,.int .i64 0,.int .i64 0,.int .i64 0,.int .i64 0,.int .i64 0,.int .i64 0,.int .i64 0,.int .i64 0],47)] [] a' w'→dO w0 [nc] w'→D.wp aa Q a' w'):(o7 [dZ (sR 9 (dN aY)),dZ (sR 10 (dN aY))] D).wp aa Q a w:=by
 refine jZ ([0,0,0]++eP [u0,u1]++eP [v0,v1]++eP [k0,k1]) [] [(none,0,0),B1,B2] (g:=[]) (wt:=[]) (lt:=[(1,.int .i64 2)]) (sb:=[]) (T:=[]) (K:=[]) (RT:=[]) (wb:=[dU [dM 1,dM 2]]) (ws:=[(nr,0,[dJ B1,dJ B2])]) (fr:=fK 133 [(6,.pointer (some ⟨0,0,some 0⟩)),(24,.slice (some ⟨1,0,none⟩) 2 2),(25,.slice (some ⟨2,0,none⟩) 2 2),(26,.slice (some ⟨3,0,none⟩) 2 2),(18,.pointer (some ⟨0,0,none⟩))]) (H:=[dQ [.bool false] 88,dQ ((dh 4).map fun q=>var (3+q)) 23,dQ ((dh 4).map fun q=>var (7+q)) 23,dQ ((dh 4).map fun q=>var (11+q)) 23]) (lo:=[]) (us':=fun gn _=>dS 133 [(24,.slice (some ⟨g1,0,none⟩) 2 2),(25,.slice (some ⟨g2,0,none⟩) 2 2),(26,.slice (some ⟨g3,0,none⟩) 2 2),(27,.slice (some ⟨gn.getD 0 0,0,none⟩) 2 2)]) (gs':=fun gn _=>[(nc,[.bool false],88),(g1,(eP [u0,u1]).map num,23),(g2,(eP [v0,v1]).map num,23),(g3,(eP [k0,k1]).map num,23),(gn.getD 0 0,[.int .i64 0,.int .i64 0,.int .i64 0,.int .i64 0,.int .i64 0,.int .i64 0,.int .i64 0,.int .i64 0,.int .i64 0,.int .i64 0,.int .i64 0,.int .i64 0],47)]) (ls':=fun _ _=>[]) 20 _ [0,1,2,3,4] [] [27] [] (fun gn nl e1 e2=>?_) (by kernel_rfl) (fun gn nl e1 e2 e3=>?_) ⟨fB _,gG,gD,fT,hw,fw (by exact hown),gH,fun _=>?_⟩ h hk (fun a' w' gn nl e1 e2 e3 e4 hs hk'=>?_)
 ·match gn,nl,e1,e2 with
  | [g4],[],_,_=>show (_:Option _)=_; kernel_rfl
 ·match gn,nl,e1,e2 with
  | [g4],[],_,_=>simpa using e3
 ·refine ⟨(fun e he=>by cases he),fun e he=>?_,fun e he=>by cases he⟩
  simp only [fG,ag,ae,or_false] at he
  subst he
  exact ⟨2,by show some (num 2)=some (.int .i64 (B1.2.1:Nat)); rw [hB]; rfl⟩
 ·match gn,nl,e1,e2 with
  | [g4],[],_,_ =>
   simp only [bN] at hs
   exact hQ a' w' g4 (e4 g4 (by simp)).1 (by simpa using e3) hs hk'
theorem adW (hown:∀g∈[nc,g1,g2,g3,g4]++[],g∈[nc]∨w0.heap.size≤g) (hnd:[nc,g1,g2,g3,g4].Nodup)
  (h:dP (dS 133 [(24,.slice (some ⟨g1,0,none⟩) 2 2),(25,.slice (some ⟨g2,0,none⟩) 2 2),(26,.slice (some ⟨g3,0,none⟩) 2 2),(27,.slice (some ⟨g4,0,none⟩) 2 2)]) [(nc,[.bool false],88),(g1,(eP [u0,u1]).map num,23),(g2,(eP [v0,v1]).map num,23),(g3,(eP [k0,k1]).map num,23),(g4,[.int .i64 0,.int .i64 0,.int .i64 0,.int .i64 0,.int .i64 0,.int .i64 0,.int .i64 0,.int .i64 0,.int .i64 0,.int .i64 0,.int .i64 0,.int .i64 0],47)] [] a w) (hk:dO w0 [nc] w)
  (hQ:∀a' w',dP (dS 133 []) [(nc,[.bool false],88),(g4,xu [u0,u1] [v0,v1] [k0,k1],47)] [] a' w'→dO w0 [nc] w'→RR (.returned (.tuple ⟨[.slice (some ⟨g4,0,none⟩) 2 2,.bool true]⟩)) w'):(sR 11 (dN aY)).wp aa (bodyPost aa aY RR) a w :=
 qQ ([0,0,0]++eP [u0,u1]++eP [v0,v1]++eP [k0,k1]) [] [] (g:=[]) (wt:=[]) (lt:=[]) (sb:=[]) (T:=[]) (K:=[]) (RT:=[]) (wb:=[]) (ws:=[]) (fr:=fK 133 [(24,.slice (some ⟨1,0,none⟩) 2 2),(25,.slice (some ⟨2,0,none⟩) 2 2),(26,.slice (some ⟨3,0,none⟩) 2 2),(27,.slice (some ⟨4,0,none⟩) 2 2)]) (H:=[dQ [.bool false] 88,dQ ((dh 4).map fun q=>var (3+q)) 23,dQ ((dh 4).map fun q=>var (7+q)) 23,dQ ((dh 4).map fun q=>var (11+q)) 23]++[dQ [.int .i64 0,.int .i64 0,.int .i64 0,.int .i64 0,.int .i64 0,.int .i64 0,.int .i64 0,.int .i64 0,.int .i64 0,.int .i64 0,.int .i64 0,.int .i64 0] 47]) (lo:=[]) (u:=.tuple ⟨[.slice (some ⟨g4,0,none⟩) 2 2,.bool true]⟩) 20 [0,4] [] (by kernel_rfl) (by kernel_rfl) (by simp at hnd ⊢; omega) ⟨fB _,gG,gD,fT,il _ _,fw (by exact hown),gH,fun _=>iI⟩ h hk hQ
variable {u2 v2 k2:Int×Int}
theorem adU {ms:List MB} (hb:kr w0 nc 3 B1 B4 ms)
  (hF:F.2.1=us.length) (hS:S.2.1=vs.length) (lF:us.length=ms.length) (lS:vs.length=ms.length) (sF:Sl w0 F.1 7 (us.map (V6.cs nc))) (sS:Sl w0 S.1 7 (vs.map (V6.cs nc))) (aF:∀a,F.1=some a→a.block≠nc) (aS:∀a,S.1=some a→a.block≠nc)
  (h1:gm ms us (ag6 3 (0,0),false) ms.length=([u0,u1,u2],b1)) (h2:gm ms vs (ag6 3 (0,0),false) ms.length=([v0,v1,v2],b2)) (h3:((iU ms 3 x y z).1.map iP,(iU ms 3 x y z).2)=([k0,k1,k2],b3))
  (hw:jR w0 [nc] (mY nr ng nb nc x y z B1 B2 B3 B4)) (h:dP (dS 133 [(6,dK nr),(7,dK ng),(18,dK nc),(19,dK nb),(20,dJ F),(21,dJ S)]) [(nc,[.bool f],88)] [] a w) (hk:dO w0 [nc] w)
  (hQ:∀a' w' g1 g2 g3,(∀g∈[g1,g2,g3],w.heap.size≤g)→[nc,g1,g2,g3].Nodup→dP (dS 133 [(6,dK nr),(18,dK nc),(24,.slice (some ⟨g1,0,none⟩) 3 3),(25,.slice (some ⟨g2,0,none⟩) 3 3),(26,.slice (some ⟨g3,0,none⟩) 3 3)]) [(nc,[.bool (((f||b1)||b2)||b3)],88),(g1,(eP [u0,u1,u2]).map num,23),(g2,(eP [v0,v1,v2]).map num,23),(g3,(eP [k0,k1,k2]).map num,23)] [] a' w'→dO w0 [nc] w'→D.wp aa Q a' w'):(o7 [dZ (sR 8 (dN aY))] D).wp aa Q a w:=by
 refine jZ ([x,y,z]++eP [u0,u1,u2]++eP [v0,v1,v2]++eP [k0,k1,k2]) [f,b1,b2,b3] [(none,0,0),B1,B2,B3,B4,F,S] (g:=[]) (wt:=[]) (lt:=[]) (sb:=[]) (T:=[]) (K:=[]) (RT:=[⟨44,[.agg ⟨pF⟩,dM 5],3,3,mB 1 [.int .i64 1],dQ ((dh 6).map fun q=>var (3+q)) 23⟩,⟨44,[.agg ⟨pF⟩,dM 6],3,3,mB 1 [.int .i64 2],dQ ((dh 6).map fun q=>var (9+q)) 23⟩,⟨45,[.agg ⟨pF⟩,.agg ⟨[var 0,var 1,var 2]⟩],3,3,mB 1 [.int .i64 3],dQ ((dh 6).map fun q=>var (15+q)) 23⟩]) (wb:=[dU [dM 1,dM 2],dU [var 0,var 1,var 2],dU pF]) (ws:=mY nr ng nb nc x y z B1 B2 B3 B4) (fr:=fK 133 [(6,.pointer (some ⟨0,0,some 0⟩)),(7,.pointer (some ⟨1,0,some 0⟩)),(18,.pointer (some ⟨0,0,none⟩)),(19,.pointer (some ⟨2,0,some 0⟩)),(20,dM 5),(21,dM 6)]) (H:=oC) (lo:=[]) (us':=fun gn _=>dS 133 [(6,dK nr),(18,dK nc),(24,.slice (some ⟨gn.getD 0 0,0,none⟩) 3 3),(25,.slice (some ⟨gn.getD 1 0,0,none⟩) 3 3),(26,.slice (some ⟨gn.getD 2 0,0,none⟩) 3 3)]) (gs':=fun gn _=>[(nc,[.bool (((f||b1)||b2)||b3)],88),(gn.getD 0 0,(eP [u0,u1,u2]).map num,23),(gn.getD 1 0,(eP [v0,v1,v2]).map num,23),(gn.getD 2 0,(eP [k0,k1,k2]).map num,23)]) (ls':=fun _ _=>[]) 20 _ [0,1,2,3] [] [24,25,26] [] (fun gn nl e1 e2=>?_) (by kernel_rfl) (fun gn nl e1 e2 e3=>?_) ⟨fB _,gG,gD,?_,hw,fw (by simp),gH,fun _=>iI⟩ h hk (fun a' w' gn nl e1 e2 e3 e4 hs hk'=>?_)
 ·match gn,nl,e1,e2 with
  | [g1,g2,g3],[],_,_=>show (_:Option _)=_; kernel_rfl
 ·match gn,nl,e1,e2 with
  | [g1,g2,g3],[],_,_=>simpa using e3
 ·intro t ht
  simp only [ag,ae,or_false] at ht
  rcases ht with rfl | rfl | rfl
  ·intro nc' c w hf0 hFz hfl
   have hnc:nc'=nc:=hf0 nc rfl
   subst hnc
   refine ⟨[afp nc' B1 B2 B3 B4,dJ F],(eP [u0,u1,u2]).map num,b1,by kernel_rfl,by kernel_rfl,by kernel_rfl,?_⟩
   have hb':=hb.move (EO hFz)
   have:=zu nc' 3 c B1 B2 B3 B4 F w ms us hb'.n1 hb'.b0 hb'.b3 hF lF (by have:=hb.m2; omega) hfl hb'.rows hb'.aM (uB (EO hFz) (y7 _ _) aF sF) aF hb'.ok
   refine this.mono fun r w' hr=>?_
   rw [yg,h1] at hr
   exact hr
  ·intro nc' c w hf0 hFz hfl
   have hnc:nc'=nc:=hf0 nc rfl
   subst hnc
   refine ⟨[afp nc' B1 B2 B3 B4,dJ S],(eP [v0,v1,v2]).map num,b2,by kernel_rfl,by kernel_rfl,by kernel_rfl,?_⟩
   have hb':=hb.move (EO hFz)
   have:=zu nc' 3 c B1 B2 B3 B4 S w ms vs hb'.n1 hb'.b0 hb'.b3 hS lS (by have:=hb.m2; omega) hfl hb'.rows hb'.aM (uB (EO hFz) (y7 _ _) aS sS) aS hb'.ok
   refine this.mono fun r w' hr=>?_
   rw [yg,h2] at hr
   exact hr
  ·intro nc' c w hf0 hFz hfl
   have hnc:nc'=nc:=hf0 nc rfl
   subst hnc
   refine ⟨[afp nc' B1 B2 B3 B4,.agg ⟨[num x,num y,num z]⟩],(eP [k0,k1,k2]).map num,b3,by kernel_rfl,by kernel_rfl,by kernel_rfl,?_⟩
   have:=KY (B1:=B2) (B2:=B3) (f:=c) (x:=x) (y:=y) (z:=z) (hb.move (EO hFz)) hfl
   simp only [aP] at h3
   rw [h3.1,h3.2] at this
   exact this
 ·match gn,nl,e1,e2 with
  | [g1,g2,g3],[],_,_ =>
   simp only [bN,bZ] at hs
   exact hQ a' w' g1 g2 g3 (fun g hg=>(e4 g (by simpa using hg)).1) (by simpa using e3) hs hk'
theorem adO (hB:B1.2.1=3) (hown:∀g∈[nc,g1,g2,g3]++[],g∈[nc]∨w0.heap.size≤g)
  (hw:jR w0 [nc] [(nr,0,[dJ B1,dJ B2])]) (h:dP (dS 133 [(6,dK nr),(18,dK nc),(24,.slice (some ⟨g1,0,none⟩) 3 3),(25,.slice (some ⟨g2,0,none⟩) 3 3),(26,.slice (some ⟨g3,0,none⟩) 3 3)]) [(nc,[.bool false],88),(g1,(eP [u0,u1,u2]).map num,23),(g2,(eP [v0,v1,v2]).map num,23),(g3,(eP [k0,k1,k2]).map num,23)] [] a w) (hk:dO w0 [nc] w)
  (hQ:∀a' w' g4,w.heap.size≤g4→[nc,g1,g2,g3,g4].Nodup→dP (dS 133 [(24,.slice (some ⟨g1,0,none⟩) 3 3),(25,.slice (some ⟨g2,0,none⟩) 3 3),(26,.slice (some ⟨g3,0,none⟩) 3 3),(27,.slice (some ⟨g4,0,none⟩) 3 3)]) [(nc,[.bool false],88),(g1,(eP [u0,u1,u2]).map num,23),(g2,(eP [v0,v1,v2]).map num,23),(g3,(eP [k0,k1,k2]).map num,23),(g4,[.int .i64 0,.int .i64 0,.int .i64 0,.int .i64 0,.int .i64 0,.int .i64 0,.int .i64 0,.int .i64 0,.int .i64 0,.int .i64 0,.int .i64 0,.int .i64 0,.int .i64 0,.int .i64 0,.int .i64 0,.int .i64 0,.int .i64 0,.int .i64 0],47)] [] a' w'→dO w0 [nc] w'→D.wp aa Q a' w'):(o7 [dZ (sR 9 (dN aY)),dZ (sR 10 (dN aY))] D).wp aa Q a w:=by
 refine jZ ([0,0,0]++eP [u0,u1,u2]++eP [v0,v1,v2]++eP [k0,k1,k2]) [] [(none,0,0),B1,B2] (g:=[]) (wt:=[]) (lt:=[(1,.int .i64 3)]) (sb:=[]) (T:=[]) (K:=[]) (RT:=[]) (wb:=[dU [dM 1,dM 2]]) (ws:=[(nr,0,[dJ B1,dJ B2])]) (fr:=fK 133 [(6,.pointer (some ⟨0,0,some 0⟩)),(24,.slice (some ⟨1,0,none⟩) 3 3),(25,.slice (some ⟨2,0,none⟩) 3 3),(26,.slice (some ⟨3,0,none⟩) 3 3),(18,.pointer (some ⟨0,0,none⟩))]) (H:=[dQ [.bool false] 88,dQ ((dh 6).map fun q=>var (3+q)) 23,dQ ((dh 6).map fun q=>var (9+q)) 23,dQ ((dh 6).map fun q=>var (15+q)) 23]) (lo:=[]) (us':=fun gn _=>dS 133 [(24,.slice (some ⟨g1,0,none⟩) 3 3),(25,.slice (some ⟨g2,0,none⟩) 3 3),(26,.slice (some ⟨g3,0,none⟩) 3 3),(27,.slice (some ⟨gn.getD 0 0,0,none⟩) 3 3)]) (gs':=fun gn _=>[(nc,[.bool false],88),(g1,(eP [u0,u1,u2]).map num,23),(g2,(eP [v0,v1,v2]).map num,23),(g3,(eP [k0,k1,k2]).map num,23),(gn.getD 0 0,[.int .i64 0,.int .i64 0,.int .i64 0,.int .i64 0,.int .i64 0,.int .i64 0,.int .i64 0,.int .i64 0,.int .i64 0,.int .i64 0,.int .i64 0,.int .i64 0,.int .i64 0,.int .i64 0,.int .i64 0,.int .i64 0,.int .i64 0,.int .i64 0],47)]) (ls':=fun _ _=>[]) 20 _ [0,1,2,3,4] [] [27] [] (fun gn nl e1 e2=>?_) (by kernel_rfl) (fun gn nl e1 e2 e3=>?_) ⟨fB _,gG,gD,fT,hw,fw (by exact hown),gH,fun _=>?_⟩ h hk (fun a' w' gn nl e1 e2 e3 e4 hs hk'=>?_)
 ·match gn,nl,e1,e2 with
  | [g4],[],_,_=>show (_:Option _)=_; kernel_rfl
 ·match gn,nl,e1,e2 with
  | [g4],[],_,_=>simpa using e3
 ·refine ⟨(fun e he=>by cases he),fun e he=>?_,fun e he=>by cases he⟩
  simp only [fG,ag,ae,or_false] at he
  subst he
  exact ⟨2,by show some (num 3)=some (.int .i64 (B1.2.1:Nat)); rw [hB]; rfl⟩
 ·match gn,nl,e1,e2 with
  | [g4],[],_,_ =>
   simp only [bN] at hs
   exact hQ a' w' g4 (e4 g4 (by simp)).1 (by simpa using e3) hs hk'
theorem adX (hown:∀g∈[nc,g1,g2,g3,g4]++[],g∈[nc]∨w0.heap.size≤g) (hnd:[nc,g1,g2,g3,g4].Nodup)
  (h:dP (dS 133 [(24,.slice (some ⟨g1,0,none⟩) 3 3),(25,.slice (some ⟨g2,0,none⟩) 3 3),(26,.slice (some ⟨g3,0,none⟩) 3 3),(27,.slice (some ⟨g4,0,none⟩) 3 3)]) [(nc,[.bool false],88),(g1,(eP [u0,u1,u2]).map num,23),(g2,(eP [v0,v1,v2]).map num,23),(g3,(eP [k0,k1,k2]).map num,23),(g4,[.int .i64 0,.int .i64 0,.int .i64 0,.int .i64 0,.int .i64 0,.int .i64 0,.int .i64 0,.int .i64 0,.int .i64 0,.int .i64 0,.int .i64 0,.int .i64 0,.int .i64 0,.int .i64 0,.int .i64 0,.int .i64 0,.int .i64 0,.int .i64 0],47)] [] a w) (hk:dO w0 [nc] w)
  (hQ:∀a' w',dP (dS 133 []) [(nc,[.bool false],88),(g4,xu [u0,u1,u2] [v0,v1,v2] [k0,k1,k2],47)] [] a' w'→dO w0 [nc] w'→RR (.returned (.tuple ⟨[.slice (some ⟨g4,0,none⟩) 3 3,.bool true]⟩)) w'):(sR 11 (dN aY)).wp aa (bodyPost aa aY RR) a w :=
 qQ ([0,0,0]++eP [u0,u1,u2]++eP [v0,v1,v2]++eP [k0,k1,k2]) [] [] (g:=[]) (wt:=[]) (lt:=[]) (sb:=[]) (T:=[]) (K:=[]) (RT:=[]) (wb:=[]) (ws:=[]) (fr:=fK 133 [(24,.slice (some ⟨1,0,none⟩) 3 3),(25,.slice (some ⟨2,0,none⟩) 3 3),(26,.slice (some ⟨3,0,none⟩) 3 3),(27,.slice (some ⟨4,0,none⟩) 3 3)]) (H:=[dQ [.bool false] 88,dQ ((dh 6).map fun q=>var (3+q)) 23,dQ ((dh 6).map fun q=>var (9+q)) 23,dQ ((dh 6).map fun q=>var (15+q)) 23]++[dQ [.int .i64 0,.int .i64 0,.int .i64 0,.int .i64 0,.int .i64 0,.int .i64 0,.int .i64 0,.int .i64 0,.int .i64 0,.int .i64 0,.int .i64 0,.int .i64 0,.int .i64 0,.int .i64 0,.int .i64 0,.int .i64 0,.int .i64 0,.int .i64 0] 47]) (lo:=[]) (u:=.tuple ⟨[.slice (some ⟨g4,0,none⟩) 3 3,.bool true]⟩) 20 [0,4] [] (by kernel_rfl) (by kernel_rfl) (by simp at hnd ⊢; omega) ⟨fB _,gG,gD,fT,il _ _,fw (by exact hown),gH,fun _=>iI⟩ h hk hQ
end Go.Proofs
end
section
namespace Go.Proofs
open Go.Sm Go.RowKit En
theorem acz:(sR 6 (dN aY))=o7 [kS (dN aY),dZ (sR 7 (dN aY))] (sR 8 (dN aY)):=by kernel_rfl
theorem KU:(sR 8 (dN aY))=o7 [dZ (sR 8 (dN aY))] (sR 9 (dN aY)):=by kernel_rfl
theorem KV:(sR 9 (dN aY))=o7 [dZ (sR 9 (dN aY)),dZ (sR 10 (dN aY))] (sR 11 (dN aY)):=by kernel_rfl
def vE (w0:World) (nc n:Nat) (F:Bool) (us xs gs:List (Int×Int)) (e:Ending) (w':World):Prop:=dO w0 [nc] w'∧(F=true→e=.returned (.tuple ⟨[.slice none 0 0,.bool false]⟩))∧(F=false→∃gl,w0.heap.size≤gl∧gl<w'.heap.size∧e=.returned (.tuple ⟨[.slice (some ⟨gl,0,none⟩) n n,.bool true]⟩)∧w'.heap[gl]?=some (.cells ⟨xu us xs gs⟩ 47 (0,0)))
variable {w0:World} {nc n:Nat}
theorem vE.base {w1:World} {F:Bool} {us xs gs:List (Int×Int)} {e:Ending} {w':World} (hk:dO w0 [nc] w1) (h:vE w1 nc n F us xs gs e w'):vE w0 nc n F us xs gs e w' :=
 ⟨hk.trans h.1,h.2.1,fun hF=>by obtain ⟨gl,h1,h2⟩:=h.2.2 hF; exact ⟨gl,aZ hk.size h1,h2⟩⟩
variable {w:World}
theorem Y1 (h:dO w0 [nc] w):∀(b o:Nat) (v:Value),b<w0.heap.size→b≠nc→w0.cell? ⟨b,o,none⟩=some v→w.cell? ⟨b,o,none⟩=some v :=
 fun _ _ _ h1 h2 hv=>(h.cell h1 (by simpa using h2)).trans hv
variable {g:Nat}
theorem M0 {vs:List Value} {e:TypeId} (h:w.heap[g]?=some (.cells ⟨vs⟩ e (0,0))) (hl:0<vs.length):tV w (g,0,vs):=⟨hl,fun k v hk=>by simpa [bS,h] using hk⟩
variable {nr ng nb:Nat} {B1 B2 B3 B4 F S:dY} {x y z:Int} {f:Bool} {us vs:List V6} {a:Act}
theorem ad8 {ms:List MB} (hb:kr w0 nc 1 B1 B4 ms)
  (hF:F.2.1=us.length) (hS:S.2.1=vs.length) (lF:us.length=ms.length) (lS:vs.length=ms.length) (sF:Sl w0 F.1 7 (us.map (V6.cs nc))) (sS:Sl w0 S.1 7 (vs.map (V6.cs nc))) (aF:∀a,F.1=some a→a.block≠nc) (aS:∀a,S.1=some a→a.block≠nc)
  (hw:jR w0 [nc] (mY nr ng nb nc x y z B1 B2 B3 B4)) (h:dP (dS 133 [(6,dK nr),(7,dK ng),(18,dK nc),(19,dK nb),(20,dJ F),(21,dJ S)]) [(nc,[.bool f],88)] [] a w) (hk:dO w0 [nc] w) :
  (sR 8 (dN aY)).wp aa (bodyPost aa aY (vE w0 nc 1 (((f||(gm ms us (ag6 1 (0,0),false) ms.length).2)||(gm ms vs (ag6 1 (0,0),false) ms.length).2)||(iU ms 1 x y z).2) (gm ms us (ag6 1 (0,0),false) ms.length).1 (gm ms vs (ag6 1 (0,0),false) ms.length).1 ((iU ms 1 x y z).1.map iP))) a w:=by
 have q1:=ry ms us (ag6 1 (0,0),false) ms.length
 have q2:=ry ms vs (ag6 1 (0,0),false) ms.length
 have q3:((iU ms 1 x y z).1.map iP).length=1:=by
  have:=ry ms (ag6 ms.length (gV x y z)) (ag6 1 (0,0),false) ms.length
  simp only [iU,dF,this]; rfl
 generalize e1:gm ms us (ag6 1 (0,0),false) ms.length=p1 at q1 ⊢
 generalize e2:gm ms vs (ag6 1 (0,0),false) ms.length=p2 at q2 ⊢
 generalize e3:((iU ms 1 x y z).1.map iP)=p3 at q3 ⊢
 obtain ⟨p1,b1⟩:=p1
 obtain ⟨p2,b2⟩:=p2
 match p1,p2,p3,q1,q2,q3 with
 | [u0],[v0],[k0],_,_,_ =>
 rw [KU]
 refine adS hb hF hS lF lS sF sS aF aS e1 e2 (by rw [e3]) hw h hk fun a1 w1 g1 g2 g3 hn nd s1 k1=>?_
 generalize (((f||b1)||b2)||(iU ms 1 x y z).2)=FF at s1 ⊢
 have hg:∀g∈[g1,g2,g3],w0.heap.size≤g:=fun g hgm=>aZ hk.size (hn g hgm)
 cases FF with
 | true =>
  refine LV (dP.sub (gs':=[(nc,[.bool true],88)]) (ls':=[]) s1 (fun x hx=>by simp only [ag,ae,or_false] at hx; subst hx; rfl) (fun x hx=>by simp only [ag,ae,or_false] at hx; subst hx; exact aA) (fun x hx=>by cases hx) (by simp)) k1 fun a2 w2 s2 k2=>?_
  exact ⟨k2,fun _=>rfl,fun e=>by cases e⟩
 | false =>
  rw [KV]
  have ho:∀g∈[nc,g1,g2,g3]++[],g∈[nc]∨w0.heap.size≤g:=fun g hgm=>by
   rw [afk] at hgm
   rcases ag.1 hgm with r | r
   ·exact .inl (by simp [r])
   ·exact .inr (hg g r)
  refine adM hb.b0 ho (fun x hx=>hw x (by simp only [ag,ae,or_false] at hx; subst hx; exact aA)) s1 k1 fun a2 w2 g4 h4 nd4 s2 k2=>?_
  refine adV (fun g hgm=>?_) nd4 s2 k2 fun a3 w3 s3 k3=>?_
  ·rw [afk] at hgm
   by_cases hq:g=g4
   ·subst hq; exact .inr (aZ k1.size h4)
   ·exact ho g (by simp at hgm ⊢; rcases hgm with r | r | r | r | r; exact .inl r; exact .inr (.inl r); exact .inr (.inr (.inl r)); exact .inr (.inr (.inr r)); exact absurd r hq)
  ·have q2:=s3.gl _ (aT _ aA)
   exact ⟨k3,(fun e=>by cases e),fun _=>⟨g4,aZ k1.size h4,(aB.1 q2).1,rfl,q2⟩⟩
theorem ad9 {ms:List MB} (hb:kr w0 nc 2 B1 B4 ms)
  (hF:F.2.1=us.length) (hS:S.2.1=vs.length) (lF:us.length=ms.length) (lS:vs.length=ms.length) (sF:Sl w0 F.1 7 (us.map (V6.cs nc))) (sS:Sl w0 S.1 7 (vs.map (V6.cs nc))) (aF:∀a,F.1=some a→a.block≠nc) (aS:∀a,S.1=some a→a.block≠nc)
  (hw:jR w0 [nc] (mY nr ng nb nc x y z B1 B2 B3 B4)) (h:dP (dS 133 [(6,dK nr),(7,dK ng),(18,dK nc),(19,dK nb),(20,dJ F),(21,dJ S)]) [(nc,[.bool f],88)] [] a w) (hk:dO w0 [nc] w) :
  (sR 8 (dN aY)).wp aa (bodyPost aa aY (vE w0 nc 2 (((f||(gm ms us (ag6 2 (0,0),false) ms.length).2)||(gm ms vs (ag6 2 (0,0),false) ms.length).2)||(iU ms 2 x y z).2) (gm ms us (ag6 2 (0,0),false) ms.length).1 (gm ms vs (ag6 2 (0,0),false) ms.length).1 ((iU ms 2 x y z).1.map iP))) a w:=by
 have q1:=ry ms us (ag6 2 (0,0),false) ms.length
 have q2:=ry ms vs (ag6 2 (0,0),false) ms.length
 have q3:((iU ms 2 x y z).1.map iP).length=2:=by
  have:=ry ms (ag6 ms.length (gV x y z)) (ag6 2 (0,0),false) ms.length
  simp only [iU,dF,this]; rfl
 generalize e1:gm ms us (ag6 2 (0,0),false) ms.length=p1 at q1 ⊢
 generalize e2:gm ms vs (ag6 2 (0,0),false) ms.length=p2 at q2 ⊢
 generalize e3:((iU ms 2 x y z).1.map iP)=p3 at q3 ⊢
 obtain ⟨p1,b1⟩:=p1
 obtain ⟨p2,b2⟩:=p2
 match p1,p2,p3,q1,q2,q3 with
 | [u0,u1],[v0,v1],[k0,k1],_,_,_ =>
 rw [KU]
 refine adT hb hF hS lF lS sF sS aF aS e1 e2 (by rw [e3]) hw h hk fun a1 w1 g1 g2 g3 hn nd s1 k1=>?_
 generalize (((f||b1)||b2)||(iU ms 2 x y z).2)=FF at s1 ⊢
 have hg:∀g∈[g1,g2,g3],w0.heap.size≤g:=fun g hgm=>aZ hk.size (hn g hgm)
 cases FF with
 | true =>
  refine LV (dP.sub (gs':=[(nc,[.bool true],88)]) (ls':=[]) s1 (fun x hx=>by simp only [ag,ae,or_false] at hx; subst hx; rfl) (fun x hx=>by simp only [ag,ae,or_false] at hx; subst hx; exact aA) (fun x hx=>by cases hx) (by simp)) k1 fun a2 w2 s2 k2=>?_
  exact ⟨k2,fun _=>rfl,fun e=>by cases e⟩
 | false =>
  rw [KV]
  have ho:∀g∈[nc,g1,g2,g3]++[],g∈[nc]∨w0.heap.size≤g:=fun g hgm=>by
   rw [afk] at hgm
   rcases ag.1 hgm with r | r
   ·exact .inl (by simp [r])
   ·exact .inr (hg g r)
  refine adN hb.b0 ho (fun x hx=>hw x (by simp only [ag,ae,or_false] at hx; subst hx; exact aA)) s1 k1 fun a2 w2 g4 h4 nd4 s2 k2=>?_
  refine adW (fun g hgm=>?_) nd4 s2 k2 fun a3 w3 s3 k3=>?_
  ·rw [afk] at hgm
   by_cases hq:g=g4
   ·subst hq; exact .inr (aZ k1.size h4)
   ·exact ho g (by simp at hgm ⊢; rcases hgm with r | r | r | r | r; exact .inl r; exact .inr (.inl r); exact .inr (.inr (.inl r)); exact .inr (.inr (.inr r)); exact absurd r hq)
  ·have q2:=s3.gl _ (aT _ aA)
   exact ⟨k3,(fun e=>by cases e),fun _=>⟨g4,aZ k1.size h4,(aB.1 q2).1,rfl,q2⟩⟩
theorem aea {ms:List MB} (hb:kr w0 nc 3 B1 B4 ms)
  (hF:F.2.1=us.length) (hS:S.2.1=vs.length) (lF:us.length=ms.length) (lS:vs.length=ms.length) (sF:Sl w0 F.1 7 (us.map (V6.cs nc))) (sS:Sl w0 S.1 7 (vs.map (V6.cs nc))) (aF:∀a,F.1=some a→a.block≠nc) (aS:∀a,S.1=some a→a.block≠nc)
  (hw:jR w0 [nc] (mY nr ng nb nc x y z B1 B2 B3 B4)) (h:dP (dS 133 [(6,dK nr),(7,dK ng),(18,dK nc),(19,dK nb),(20,dJ F),(21,dJ S)]) [(nc,[.bool f],88)] [] a w) (hk:dO w0 [nc] w) :
  (sR 8 (dN aY)).wp aa (bodyPost aa aY (vE w0 nc 3 (((f||(gm ms us (ag6 3 (0,0),false) ms.length).2)||(gm ms vs (ag6 3 (0,0),false) ms.length).2)||(iU ms 3 x y z).2) (gm ms us (ag6 3 (0,0),false) ms.length).1 (gm ms vs (ag6 3 (0,0),false) ms.length).1 ((iU ms 3 x y z).1.map iP))) a w:=by
 have q1:=ry ms us (ag6 3 (0,0),false) ms.length
 have q2:=ry ms vs (ag6 3 (0,0),false) ms.length
 have q3:((iU ms 3 x y z).1.map iP).length=3:=by
  have:=ry ms (ag6 ms.length (gV x y z)) (ag6 3 (0,0),false) ms.length
  simp only [iU,dF,this]; rfl
 generalize e1:gm ms us (ag6 3 (0,0),false) ms.length=p1 at q1 ⊢
 generalize e2:gm ms vs (ag6 3 (0,0),false) ms.length=p2 at q2 ⊢
 generalize e3:((iU ms 3 x y z).1.map iP)=p3 at q3 ⊢
 obtain ⟨p1,b1⟩:=p1
 obtain ⟨p2,b2⟩:=p2
 match p1,p2,p3,q1,q2,q3 with
 | [u0,u1,u2],[v0,v1,v2],[k0,k1,k2],_,_,_ =>
 rw [KU]
 refine adU hb hF hS lF lS sF sS aF aS e1 e2 (by rw [e3]) hw h hk fun a1 w1 g1 g2 g3 hn nd s1 k1=>?_
 generalize (((f||b1)||b2)||(iU ms 3 x y z).2)=FF at s1 ⊢
 have hg:∀g∈[g1,g2,g3],w0.heap.size≤g:=fun g hgm=>aZ hk.size (hn g hgm)
 cases FF with
 | true =>
  refine LV (dP.sub (gs':=[(nc,[.bool true],88)]) (ls':=[]) s1 (fun x hx=>by simp only [ag,ae,or_false] at hx; subst hx; rfl) (fun x hx=>by simp only [ag,ae,or_false] at hx; subst hx; exact aA) (fun x hx=>by cases hx) (by simp)) k1 fun a2 w2 s2 k2=>?_
  exact ⟨k2,fun _=>rfl,fun e=>by cases e⟩
 | false =>
  rw [KV]
  have ho:∀g∈[nc,g1,g2,g3]++[],g∈[nc]∨w0.heap.size≤g:=fun g hgm=>by
   rw [afk] at hgm
   rcases ag.1 hgm with r | r
   ·exact .inl (by simp [r])
   ·exact .inr (hg g r)
  refine adO hb.b0 ho (fun x hx=>hw x (by simp only [ag,ae,or_false] at hx; subst hx; exact aA)) s1 k1 fun a2 w2 g4 h4 nd4 s2 k2=>?_
  refine adX (fun g hgm=>?_) nd4 s2 k2 fun a3 w3 s3 k3=>?_
  ·rw [afk] at hgm
   by_cases hq:g=g4
   ·subst hq; exact .inr (aZ k1.size h4)
   ·exact ho g (by simp at hgm ⊢; rcases hgm with r | r | r | r | r; exact .inl r; exact .inr (.inl r); exact .inr (.inr (.inl r)); exact .inr (.inr (.inr r)); exact absurd r hq)
  ·have q2:=s3.gl _ (aT _ aA)
   exact ⟨k3,(fun e=>by cases e),fun _=>⟨g4,aZ k1.size h4,(aB.1 q2).1,rfl,q2⟩⟩
def zw (rs:List (Int×Int)) (ms:List MB):List V6:=ms.map fun m=>(lQ rs m).1
def zX (rs:List (Int×Int)) (axs:List V6) (js:List JV) (ms:List MB):List V6:=ms.map fun m=>(l9 rs axs js m).1
def yY (rs:List (Int×Int)) (ms:List MB) (n:Nat):List (Int×Int)×Bool:=gm ms (zw rs ms) (ag6 n (0,0),false) ms.length
def yZ (rs:List (Int×Int)) (axs:List V6) (js:List JV) (ms:List MB) (n:Nat):List (Int×Int)×Bool:=gm ms (zX rs axs js ms) (ag6 n (0,0),false) ms.length
def BN (rs:List (Int×Int)) (axs:List V6) (js:List JV) (f:Bool):List MB→Bool
 | []=>f
 | m::ms=>BN rs axs js ((f||(lQ rs m).2)||(l9 rs axs js m).2) ms
def BM (rs:List (Int×Int)) (axs:List V6) (js:List JV) (ms:List MB) (n:Nat) (x y z:Int) (f:Bool):Bool:=((BN rs axs js f ms||(yY rs ms n).2)||(yZ rs axs js ms n).2)||(iU ms n x y z).2
theorem zO (h:w.heap[g]?=some (.cells ⟨us.flatMap (V6.cs nc)⟩ 98 (0,0))):Sl w (some ⟨g,0,none⟩) 7 (us.map (V6.cs nc)):=fun _=>⟨g,0,rfl,(aB.1 h).1,fun i r hi k v hk=>by
 have:=O0 us nc i r hi k v hk
 simp [bS,h,this]⟩
theorem LY {g1 g2 m:Nat} {ms:List MB} (hb:kr w0 nc n B1 B4 ms) (lF:us.length=ms.length) (lS:vs.length=ms.length) (hm:ms.length=m) (hw0:jR w0 [nc] (mY nr ng nb nc x y z B1 B2 B3 B4)) (hnd:[nc,g1,g2].Nodup)
  (h:dP (dS 133 [(6,dK nr),(7,dK ng),(18,dK nc),(19,dK nb),(20,.slice (some ⟨g1,0,none⟩) m m),(21,.slice (some ⟨g2,0,none⟩) m m)]) [(nc,[.bool f],88),(g1,us.flatMap (V6.cs nc),98),(g2,vs.flatMap (V6.cs nc),98)] [] a w) (hk:dO w0 [nc] w) :
  (sR 8 (dN aY)).wp aa (bodyPost aa aY (vE w0 nc n (((f||(gm ms us (ag6 n (0,0),false) ms.length).2)||(gm ms vs (ag6 n (0,0),false) ms.length).2)||(iU ms n x y z).2) (gm ms us (ag6 n (0,0),false) ms.length).1 (gm ms vs (ag6 n (0,0),false) ms.length).1 ((iU ms n x y z).1.map iP))) a w:=by
 subst hm
 have x1:=h.gl _ (aT _ aA)
 have x2:=h.gl _ (aT _ (aT _ aA))
 simp only [ag5,ag,ae,or_false,not_or] at hnd
 obtain ⟨⟨d1,d2⟩,_⟩:=hnd
 have hw:jR w [nc] (mY nr ng nb nc x y z B1 B2 B3 B4):=fun q hq=>⟨⟨aC (hw0 q hq).1.1 hk.size,(hw0 q hq).1.2⟩,hk.win (hw0 q hq).1.1 (hw0 q hq).1.2 (hw0 q hq).2⟩
 have s':dP (dS 133 [(6,dK nr),(7,dK ng),(18,dK nc),(19,dK nb),(20,dJ (some ⟨g1,0,none⟩,us.length,us.length)),(21,dJ (some ⟨g2,0,none⟩,vs.length,vs.length))]) [(nc,[.bool f],88)] [] a w :=
  dP.sub h (fun q hq=>by
   simp only [ag,ae,or_false] at hq
   rcases hq with rfl | rfl | rfl | rfl | rfl | rfl
   ·rfl
   ·rfl
   ·rfl
   ·rfl
   ·rw [lF]; rfl
   ·rw [lS]; rfl) (fun q hq=>by simp only [ag,ae,or_false] at hq; subst hq; exact aA) (fun q hq=>by cases hq) (by simp)
 have hb':=hb.move (Y1 hk)
 obtain ⟨n1,n2⟩:=hb.n1
 have key:(sR 8 (dN aY)).wp aa (bodyPost aa aY (vE w nc n (((f||(gm ms us (ag6 n (0,0),false) ms.length).2)||(gm ms vs (ag6 n (0,0),false) ms.length).2)||(iU ms n x y z).2) (gm ms us (ag6 n (0,0),false) ms.length).1 (gm ms vs (ag6 n (0,0),false) ms.length).1 ((iU ms n x y z).1.map iP))) a w:=by
  obtain rfl | rfl | rfl:n=1∨n=2∨n=3:=by omega
  ·exact ad8 (F:=(some ⟨g1,0,none⟩,us.length,us.length)) (S:=(some ⟨g2,0,none⟩,vs.length,vs.length)) hb' rfl rfl lF lS (zO x1) (zO x2) (fun q e=>by injection e with e; subst e; exact ae4 d1) (fun q e=>by injection e with e; subst e; exact ae4 d2) hw s' (dO.refl w [nc])
  ·exact ad9 (F:=(some ⟨g1,0,none⟩,us.length,us.length)) (S:=(some ⟨g2,0,none⟩,vs.length,vs.length)) hb' rfl rfl lF lS (zO x1) (zO x2) (fun q e=>by injection e with e; subst e; exact ae4 d1) (fun q e=>by injection e with e; subst e; exact ae4 d2) hw s' (dO.refl w [nc])
  ·exact aea (F:=(some ⟨g1,0,none⟩,us.length,us.length)) (S:=(some ⟨g2,0,none⟩,vs.length,vs.length)) hb' rfl rfl lF lS (zO x1) (zO x2) (fun q e=>by injection e with e; subst e; exact ae4 d1) (fun q e=>by injection e with e; subst e; exact ae4 d2) hw s' (dO.refl w [nc])
 refine Code.wp_mono (fun e a w hq=>?_) key
 cases e with
 | normal=>obtain ⟨h1,v,h2,h3⟩:=hq; exact ⟨h1,v,h2,h3.base hk⟩
 | ret=>obtain ⟨h1,v,h2,h3⟩:=hq; exact ⟨h1,v,h2,h3.base hk⟩
 | panic c=>obtain ⟨h1,h2⟩:=hq; exact ⟨h1,h2.base hk⟩
 | outgrown=>exact vE.base hk hq
 | _=>exact hq
theorem aeh {W:dY} {rs:List (Int×Int)} {axs:List V6} {js:List JV} {ms:List MB} (hS:sI w0 nc W B1 B3 rs axs js) (hb:kr w0 nc n B1 B4 ms) (hjn:js.length=n) (hcap:∀m∈ms,m.J.2.1≤m.J.2.2)
  (hw:jR w0 [nc] (mY nr ng nb nc x y z B1 B2 B3 B4)) (h:dP (dS 133 [(6,dK nr),(7,dK ng),(16,dJ W),(18,dK nc),(19,dK nb)]) [(nc,[.bool f],88)] [] a w) (hk:dO w0 [nc] w) :
  (sR 6 (dN aY)).wp aa (bodyPost aa aY (vE w0 nc n (BM rs axs js ms n x y z f) (yY rs ms n).1 (yZ rs axs js ms n).1 ((iU ms n x y z).1.map iP))) a w:=by
 rw [acz]
 have hm2:=hb.m2
 match ms,hb,hcap,hm2 with
 | [],hb,hcap,_=>exact adP hS hb hjn hw h hk fun a1 w1 g1 g2 _ _ nd s1 k1=>LY (us:=zw rs []) (vs:=zX rs axs js []) hb rfl rfl rfl hw nd s1 k1
 | [m0],hb,hcap,_=>exact adQ hS hb hjn (hcap m0 (by simp)) hw h hk fun a1 w1 g1 g2 _ _ nd s1 k1=>LY (us:=zw rs [m0]) (vs:=zX rs axs js [m0]) hb rfl rfl rfl hw nd s1 k1
 | [m0,m1],hb,hcap,_=>exact adR hS hb hjn (hcap m0 (by simp)) (hcap m1 (by simp)) hw h hk fun a1 w1 g1 g2 _ _ nd s1 k1=>LY (us:=zw rs [m0,m1]) (vs:=zX rs axs js [m0,m1]) hb rfl rfl rfl hw nd s1 k1
 | _::_::_::_,_,_,hm2=>exact absurd hm2 (by simp)
end Go.Proofs
end
section
section
namespace Go.Sm
open Go.RowKit
abbrev Ch:=Option Addr×Nat×Nat
structure Grow (w:World) (S:Ch) (sz:Nat) (e:TypeId) (n:Nat) (cells:List Value):Prop where
 len:S.2.1=n
 cl:cells.length=n*sz
 nil:S.1=none→n=0∧S.2.2=0
 blk:∀a,S.1=some a→∃g cs,a=⟨g,0,none⟩∧w.heap[g]?=some (.cells cs e (0,0))∧S.2.2*sz≤cs.size∧n≤S.2.2∧cs.toList.take cells.length=cells
theorem Grow.start (w:World) (sz:Nat) (e:TypeId):Grow w (none,0,0) sz e 0 []:=⟨rfl,by simp,fun _=>⟨rfl,rfl⟩,fun a h=>by cases h⟩
structure aky (w:World) (S S':Ch) (w':World):Prop where
 os:w'.os=w.os
 tape:w'.tape=w.tape
 output:w'.output=w.output
 size:w.heap.size≤w'.heap.size
 frame:∀g,g<w.heap.size→(∀a,S.1=some a→a.block≠g)→w'.heap[g]?=w.heap[g]?
 home:∃g,S'.1=some ⟨g,0,none⟩∧((∃a,S.1=some a∧a.block=g)∨w.heap.size≤g)
theorem Hw (g j:Nat):(⟨g,0,none⟩:Addr).add j=⟨g,j,none⟩:=by unfold Addr.add; split<;>simp_all
variable {n:Nat}
theorem alP {P:Program} {ops:Array Oper} {o:Oper} {tail:List Oper} {Q:Exit→Act→World→Prop} {a:Act} {w:World} {x y:Operand} {tS tX elem e' t:TypeId} {ti:TypeInfo} {z:Value} {S:Ch} {yb:Nat} {cells row:List Value}
  (hg:o.guard=none) (ho:o.op=.call { callee:=.builtin .append,args:=#[x,y],argTypes:=#[tS,tX] }) (hS:P.underlying tS=some (.slice elem)) (hX:P.underlying tX=some (.slice e')) (hi:P.info? elem=some ti) (hz:ti.zero=some z) (hzs:z.cells.size=ti.size)
  (hbig:(2*(n+1)+200)*ti.bytes≤281474976710656) (hn:n<1000000) (hrow:row.length=ti.size) (hok:∀v∈row,v.oneCell'=true) (hx:a.eval x=.slice S.1 S.2.1 S.2.2) (hy:a.eval y=.slice (some ⟨yb,0,none⟩) 1 1) (hyb:w.heap[yb]?=some (.cells ⟨row⟩ t (0,0)))
  (hG:Grow w S ti.size elem n cells) (hQ:∀(w':World) (S':Ch),Grow w' S' ti.size elem (n+1) (cells++row)→aky w S S' w'→wpList P ops Q tail (a.put o.dst (.slice S'.1 S'.2.1 S'.2.2)) w'):wpList P ops Q (o::tail) a w:=by
 refine wpList_plain hg fun K hK=>?_
 have hX':(∃e,P.underlying tX=some (.slice e))∨P.underlying tX=some .string:=.inl ⟨_,hX⟩
 have hcellY:∀j v,row[j]?=some v→w.cell? ((⟨yb,0,none⟩:Addr).add j)=some v:=fun j v hj=>by
  rw [Hw]
  simpa [bS,hyb] using hj
 have hl:(Builtin.lenOf (.slice (some ⟨yb,0,none⟩) 1 1)).run P w=.ok 1 w:=by simp [Builtin.lenOf]
 have hfw:∀w0:World,w0.heap=w.heap→(dE ti.size 1 (.slice (some ⟨yb,0,none⟩) 1 1)).run P w0=.ok row.toArray w0:=fun w0 hw0=>by
  have:=run_loadCells_list (P:=P) w0 ⟨yb,0,none⟩ row (fun j v hj=>by have:=hcellY j v hj; simpa [bS,hw0] using this)
  simp [dE,←hrow,this]
 obtain ⟨S1,S2,S3⟩:=S
 obtain ⟨g1,g2,g3,g4⟩:=hG
 simp only at g1 g3 g4 hx
 subst g1
 have key:∀(v:Value) (w':World),(afi #[tS,tX] o.type #[.slice S1 S2 S3,.slice (some ⟨yb,0,none⟩) 1 1]).run P w=.ok v w'→wpList P ops Q tail (a.put o.dst v) w'→o.wp P a w K Q:=fun v w' hrun hq=>by
  obtain ⟨dst,op,ty,pos,aft,gd⟩:=o
  simp only at ho hg hrun hq
  subst ho
  unfold Oper.wp execOp
  simp only [resolve,invoke,builtin,di,dA,bC,List.map_toArray,dI,ae9,hx,hy,hrun]
  exact hK _ _ hq
 by_cases hroom:S2+1≤S3
 ·cases S1 with
  | none=>have:=g3 rfl; omega
  | some ad =>
   obtain ⟨g,cs,rfl,b1,b2,b3,b4⟩:=g4 ad rfl
   have hsz:S2*ti.size+row.length≤cs.size:=by
    rw [hrow]
    have:(S2+1)*ti.size≤S3*ti.size:=Nat.mul_le_mul_right _ hroom
    rw [Nat.add_mul] at this
    omega
   have hadd:=Hw g (S2*ti.size)
   have hst:=run_storeCells_at (P:=P) g (S2*ti.size) elem row 0 cs w b1 (by omega) hok
   rw [←hadd] at hst
   refine key _ _ (Ec hS hX' hi hl (hfw w rfl) hroom hst) (hQ _ (some ⟨g,0,none⟩,S2+1,S3) ⟨rfl,?_,fun e=>(by cases e),fun a' ha=>?_⟩ ⟨rfl,rfl,rfl,by simp,fun k hk hne=>setRow_other _ _ _ _ (fun e=>hne ⟨g,0,none⟩ rfl e.symm),g,rfl,.inl ⟨_,rfl,rfl⟩⟩)
   ·simp [g2,hrow,Nat.add_mul]
   ·injection ha with ha; subst ha
    refine ⟨g,_,rfl,setRow_heap w g cs _ elem (0,0) b1,?_,hroom,?_⟩
    ·simp only [Nat.add_zero,aeR,afa,List.length_take,List.length_drop,Array.length_toList]
     omega
    ·simp only [Nat.add_zero]
     have e1:cs.toList.take (S2*ti.size)=cells:=by rw [←g2]; exact b4
     rw [e1,List.take_append_of_le_length (au _),List.take_length]
 ·have hc:S3<S2+1:=by omega
  have hfit:Builtin.nextslicecap (S2+1) S3*ti.bytes≤281474976710656:=aZ (Nat.mul_le_mul_right _ (P5 hc)) hbig
  have hold:(dE ti.size S2 (.slice S1 S2 S3)).run P w.drew=.ok cells.toArray w.drew:=by
   cases S1 with
   | none =>
    have:=(g3 rfl).1
    subst this
    have:cells=[]:=bR (by simpa using g2)
    subst this
    simp [dE]
   | some ad =>
    obtain ⟨g,cs,rfl,b1,b2,b3,b4⟩:=g4 ad rfl
    have:=run_loadCells_list (P:=P) w.drew ⟨g,0,none⟩ cells (fun j v hj=>by
     have hadd:=Hw g j
     rw [←b4] at hj
     simp only [dx] at hj
     split at hj
     ·have hb:w.drew.heap[g]?=some (.cells cs elem (0,0)):=b1
      simpa [hadd,bS,hb] using hj
     ·cases hj)
    rw [g2] at this
    simp [dE,this]
  obtain ⟨cap,hcap,hrun⟩:=D9 (P:=P) (ty:=o.type) (base:=S1) (c:=S3) hS hX' hi hz hl (hfw w.drew rfl) hold hc (by omega) hfit
  refine key _ _ hrun (hQ _ (some ⟨w.heap.size,0,none⟩,S2+1,cap) ⟨rfl,?_,fun e=>(by cases e),fun a' ha=>?_⟩ ⟨rfl,rfl,rfl,by rw [ve]; exact Nat.le_succ _,fun k hk _=>nD w.drew _ hk,w.heap.size,rfl,.inr (au _)⟩)
  ·simp [g2,hrow,Nat.add_mul]
  ·injection ha with ha; subst ha
   refine ⟨w.heap.size,_,rfl,heap_alloc_new w.drew _,?_,hcap,?_⟩
   ·simp only [Array.size_append,aeR,size_zeroCells,hzs,g2,hrow]
    rw [←Nat.add_one_mul,←Nat.add_mul]
    exact Nat.mul_le_mul_right _ (by omega)
   ·simp only [Array.toList_append]
    rw [List.take_append_of_le_length (au _),List.take_length]
end Go.Sm
end
section
namespace Go.Sm
open Go.RowKit
section
variable {X:Xt} {G K:Act→World→Prop} {fr fr':List Value} {H H' lo wb loc':Hp} {wg:List Nat} {a:Act} {w w0:World} {ex:List Nat} {us:List (Option Value)} {us':List Nat→List Nat→List (Option Value)} {gs ls:List gQ} {gs' ls':List Nat→List Nat→List gQ} {ws:List jC}
theorem acm (gi li tg tl:List Nat) (R:List Nat→World→Prop) (hrun:Aj X G K ⟨fr,H,lo++wb,[]⟩ ⟨fr',H',loc',wg⟩) (h:dP us gs ls a w) (hk:dO w0 ex w) (hw:jR w0 ex ws) (hown:Own w0 ex gs ls) (hi:In X.env us gs ls ws fr H lo wb) (hz:qc X.env (eH gs ls ws) (lo++wb) w) (h0:∀c,X.env.f0=some c→(eH gs ls ws).gp[0]?=some c)
  (hW:kv X (iC X.env (eH gs ls ws) w))
  (htg:(tg.zipIdx H.length).all (fun y=>match fr'[y.1]? with | some v=>tC y.2 v | none=>false)=true) (htl:(tl.zipIdx (lo++wb).length).all (fun y=>match fr'[y.1]? with | some v=>zF y.2 v | none=>false)=true)
  (hbg:(((H'.drop H.length).take tg.length).map ownB)=tg.map fun _=>true) (hbl:(((loc'.drop (lo++wb).length).take tl.length).map ownB)=tl.map fun _=>true) (hlive:((H'.take H.length).map ownB)=H.map fun _=>true)
  (ho:∀ng nl:List Nat,ng.length=tg.length→nl.length=tl.length→(gs.map (·.1)++ls.map (·.1)++ng++nl).Nodup→Cc X.env (oZ gs ls ws ng nl) (us' ng nl) (gs' ng nl) (ls' ng nl) gi li fr' H' loc') (hwa:(((loc'.drop ls.length).take ws.length).map mJ)=ws.map fun _=>true)
  (hR0:∀(m':Mp) (a':Act) (w':World) (nl:List Nat),jQ (iC X.env (eH gs ls ws) w) H w ⟨fr',H',loc',wg⟩ m' a' w'→At ⟨gs.map (·.1),(eH gs ls ws).lp++nl.map fun g=>(g,0)⟩ m'→R nl w')
  (hQ:∀(a':Act) (w':World) (ng nl:List Nat),R nl w'→ng.length=tg.length→nl.length=tl.length→(gs.map (·.1)++ls.map (·.1)++ng++nl).Nodup→(∀n∈ng++nl,w.heap.size≤n∧n<w'.heap.size)→dP (us' ng nl) (gs' ng nl) (ls' ng nl) a' w'→dO w0 ex w'→K a' w'):G a w:=by
 have hww:∀x∈ws,tV w x:=fun x hx=>hk.win (hw x hx).1.1 (hw x hx).1.2 (hw x hx).2
 have hpre:=h.pre hww (G7 hw hown) hi.f1 hi.f2 hi.hH hi.ha hi.hL hi.la hi.hW hi.wa hz h0
 refine hrun _ _ _ _ a w ⟨rfl,hW⟩ hpre.GH fun m' a' w' hs=>?_
 have hA0:=(vF X.env (eH gs ls ws) w).mono hs.ext.le
 obtain ⟨ng,g1,g2⟩:=Dh hs (fun i _ v=>tC i v) (fun _ _ _ _ _ _ _ _=>trivial) m'.gb (fun i t v u hv hr=>by obtain ⟨o,q⟩:=Df hv; exact DL hr q) (fun i t v hv=>by obtain ⟨o,rfl | ⟨n,c,rfl⟩⟩:=Df hv<;>rfl) tg H.length (fun j t e=>by
  have:=bn.1 htg (t,H.length+j) (aN (i:=j) (by simp [List.getElem?_zipIdx,e]))
  simp only at this
  split at this
  ·rename_i v hv; exact ⟨v,hv,this⟩
  ·cases this)
 obtain ⟨nl,l1,l2⟩:=Dh hs (fun i _ v=>zF i v) (fun _ _ _ _ _ _ _ _=>trivial) m'.lb (fun i t v u hv hr=>by obtain ⟨o,q⟩:=Fh hv; exact Va hr q) (fun i t v hv=>by obtain ⟨o,rfl⟩:=Fh hv; rfl) tl (lo++wb).length (fun j t e=>by
  have:=bn.1 htl (t,(lo++wb).length+j) (aN (i:=j) (by simp [List.getElem?_zipIdx,e]))
  simp only at this
  split at this
  ·rename_i v hv; exact ⟨v,hv,this⟩
  ·cases this)
 have hGl:H.length=gs.length:=by simpa using congrArg ae1 hi.hH
 have hLl:(lo++wb).length=ls.length+ws.length:=by
  have e1:lo.length=ls.length:=by simpa using congrArg ae1 hi.hL
  have e2:wb.length=ws.length:=by simpa using congrArg ae1 hi.hW
  simp [e1,e2]
 have hnb:∀(j g:Nat),ng[j]?=some g→m'.gb (gs.length+j)=some g∧∃b,H'[gs.length+j]?=some b∧ownB b=true:=fun j g e=>by
  refine ⟨by rw [←hGl]; exact g2 j g e,?_⟩
  obtain ⟨t,ht⟩:∃t,tg[j]?=some t:=⟨_,ah (by rw [←g1]; exact (ai.1 e).1)⟩
  obtain ⟨b,b1,b2⟩:=tu hbg.symm ht
  simp only [dx,aeX] at b1
  split at b1
  ·exact ⟨b,by rw [←hGl]; exact b1,b2.symm⟩
  ·cases b1
 have hnl:∀(j g:Nat),nl[j]?=some g→m'.lb (ls.length+ws.length+j)=some g∧∃b,loc'[ls.length+ws.length+j]?=some b∧ownB b=true:=fun j g e=>by
  refine ⟨by rw [←hLl]; exact l2 j g e,?_⟩
  obtain ⟨t,ht⟩:∃t,tl[j]?=some t:=⟨_,ah (by rw [←l1]; exact (ai.1 e).1)⟩
  obtain ⟨b,b1,b2⟩:=tu hbl.symm ht
  simp only [dx,aeX] at b1
  split at b1
  ·exact ⟨b,by rw [←hLl]; exact b1,b2.symm⟩
  ·cases b1
 have hR:=hs.ext.rel
 have hold:∀(i g:Nat),(gs.map (·.1))[i]?=some g→m'.gb i=some g∧∃b,H'[i]?=some b∧ownB b=true:=fun i g e=>by
  refine ⟨hs.ext.le.gb i g (show (eH gs ls ws).gp[i]?=some g from e),?_⟩
  have hi':i<H.length:=by have:=(ai.1 e).1; simp at this; omega
  obtain ⟨b,b1,b2⟩:=tu hlive.symm (ah hi')
  rw [dx,if_pos hi'] at b1
  exact ⟨b,b1,b2.symm⟩
 have hsz:∀n∈ng++nl,w.heap.size≤n∧n<w'.heap.size:=fun n hn=>by
  rcases bH.1 hn with hn | hn
  ·obtain ⟨j,hj⟩:=cZ hn
   obtain ⟨q1,b,q2,q3⟩:=hnb j n hj
   refine ⟨?_,(hR.ic _ _ q1).1⟩
   rcases hs.ext.img _ _ q1 with ⟨i,e⟩ | e
   ·exfalso
    have e':(gs.map (·.1))[i]?=some n:=e
    obtain ⟨r1,b',r2,r3⟩:=hold i n e'
    have:=hR.ko _ _ n b b' q1 r1 q2 r2 (jU q3).1 (jU r3).1
    have:=(ai.1 e').1
    simp at this; omega
   ·exact e
  ·obtain ⟨j,hj⟩:=cZ hn
   obtain ⟨q1,b,q2,q3⟩:=hnl j n hj
   refine ⟨?_,(hR.iN _ _ q1).1⟩
   rcases hs.ext.oG _ _ q1 with e | e
   ·exfalso
    simp only [iC,aR,eH] at e
    obtain ⟨y,y1,_⟩:=e
    have:=(ai.1 y1).1
    simp at this
    omega
   ·exact e
 have hltw:∀n∈gs.map (·.1)++ls.map (·.1),n<w.heap.size:=fun n hn=>by
  rcases bH.1 hn with hn | hn<;>obtain ⟨y,y1,rfl⟩:=aeZ.1 hn
  ·exact (aB.1 (h.gl y y1)).1
  ·exact (aB.1 (h.lo y y1)).1
 have hnd:(gs.map (·.1)++ls.map (·.1)++ng++nl).Nodup:=by
  refine afe.2 ⟨afe.2 ⟨h.nd,?_,fun a ha b hb e=>?_⟩,?_,fun a ha b hb e=>?_⟩
  ·refine ae7.2 fun i j hi' hj hij e0=>?_
   obtain ⟨n,hn⟩:∃n,ng[i]?=some n:=⟨_,ah hi'⟩
   have e:ng[i]?=ng[j]?:=by rw [ah hi',ah hj,e0]
   obtain ⟨q1,b,q2,q3⟩:=hnb i n hn
   obtain ⟨r1,b',r2,r3⟩:=hnb j n (by rw [←e]; exact hn)
   have:=hR.ko _ _ n b b' q1 r1 q2 r2 (jU q3).1 (jU r3).1
   omega
  ·subst e; have:=hltw a ha; have:=(hsz a (aeY _ hb)).1; omega
  ·refine ae7.2 fun i j hi' hj hij e0=>?_
   obtain ⟨n,hn⟩:∃n,nl[i]?=some n:=⟨_,ah hi'⟩
   have e:nl[i]?=nl[j]?:=by rw [ah hi',ah hj,e0]
   obtain ⟨q1,b,q2,q3⟩:=hnl i n hn
   obtain ⟨r1,b',r2,r3⟩:=hnl j n (by rw [←e]; exact hn)
   rcases hR.pJ _ _ n b b' q1 r1 q2 r2 with k | ⟨_,_,k,_⟩
   ·omega
   ·rw [(jU q3).2.1] at k; cases k
  ·subst e
   rcases bH.1 ha with ha | ha
   ·have:=hltw a ha; have:=(hsz a (dm _ hb)).1; omega
   ·obtain ⟨i,hi'⟩:=cZ ha
    obtain ⟨j,hj⟩:=cZ hb
    exact hR.lh _ _ a (hnb i a hi').1 (hnl j a hj).1
 have hA:At (oZ gs ls ws ng nl) m':=by
  refine ⟨fun i g e=>?_,fun i g e=>?_,fun i y e=>?_⟩
  ·simp only [oZ] at e
   by_cases hi':i<gs.length
   ·rw [aH (by simpa using hi')] at e
    exact hA0.gb i g e
   ·rw [bu (by simpa using afb hi')] at e
    simp only [dF] at e
    have:=(hnb _ g e).1
    rwa [show gs.length+(i - gs.length)=i by omega] at this
  ·simp only [oZ] at e
   by_cases hi':i<gs.length
   ·rw [aH (by simpa using hi')] at e
    exact hA0.lo i g e
   ·rw [bu (by simpa using afb hi')] at e
    simp only [dF] at e
    obtain ⟨q1,b,q2,q3⟩:=hnb _ g e
    rw [show gs.length+(i - gs.length)=i by omega] at q1 q2
    obtain ⟨_,b',r1,r2⟩:=hR.ic i g q1
    rw [q2] at r1; injection r1 with r1; subst r1
    rw [r2.lo]; exact (jU q3).2.1
  ·simp only [oZ] at e
   by_cases hi':i<ls.length+ws.length
   ·rw [aH (by simp [eH]; omega)] at e
    exact hA0.lb i y e
   ·rw [bu (by simp [eH]; omega)] at e
    simp only [bY,aR] at e
    obtain ⟨g,e1,rfl⟩:=e
    have hlen:(eH gs ls ws).lp.length=ls.length+ws.length:=by simp [eH]
    rw [hlen] at e1
    obtain ⟨q1,b,q2,q3⟩:=hnl _ g e1
    rw [show ls.length+ws.length+(i - (ls.length+ws.length))=i by omega] at q1 q2
    refine ⟨q1,?_⟩
    obtain ⟨_,b',r1,r2⟩:=hR.iN i g q1
    rw [q2] at r1; injection r1 with r1; subst r1
    obtain ⟨_,_,_,_,_,_,k,_⟩:=r2.blk (jU q3).1
    exact (k (jU q3).2.1).1
 have hp:=Bt hpre hs hA (fun i y e=>by
  simp only [oZ]
  rw [aH (ai.1 e).1]; exact e)
 have ho':=ho ng nl g1 l1 hnd
 exact hQ a' w' ng nl (hR0 m' a' w' nl hs ⟨fun i g e=>hA0.gb i g e,fun i g e=>hA0.lo i g e,hA.lb⟩) g1 l1 hnd hsz (hp.GN gi li ho'.f0 ho'.f1 ho'.hG ho'.hL ho'.nd) (hk.post hp hown hww hwa)
end
variable {n:Nat}
theorem Zq {E:Env} {q:Pl} {m0 m':Mp} {H0:Hp} {w0 w':World} {s:St} {a':Act} (hs:jQ m0 H0 w0 s m' a' w') (hE:m'.env=E) (hA:At q m') {ib gb k qi:Nat} {b bq:eG} {vs:List Value} (h1:q.lp[ib]?=some (gb,0)) (h2:s.loc[ib]?=some b) (h3:ownB b=true) (h4:b.cells[k]?=some (.slice (some ⟨qi,0,none⟩) n n)) (hn:n≠0) (h5:s.H[qi]?=some bq) (h6:bq.live=true∧bq.loose=true) (h7:bq.cells.length=n*bq.eD) (hv:eQ (fP E q 4) bq.cells=some vs) :
  ∃(S:Ch) (cb:Array Value),w'.heap[gb]?=some (.cells cb b.elem (0,0))∧cb.size=b.cells.length∧cb[k]?=some (.slice S.1 S.2.1 S.2.2)∧(∀(j:Nat) (v u:Value),b.cells[j]?=some v→fP E q 4 v=some u→cb[j]?=some u)∧Grow w' S bq.eD bq.elem n vs∧∃g,S.1=some ⟨g,0,none⟩∧m'.gb qi=some g:=by
 obtain ⟨k1,k2⟩:=hA.lb ib (gb,0) h1
 have hR:=hs.ext.rel
 obtain ⟨_,b',hb',hL⟩:=hR.iN ib gb k1
 rw [h2] at hb'; injection hb' with hb'; subst hb'
 obtain ⟨o1,o2,o3⟩:=jU h3
 obtain ⟨cb,t,f,q1,q2,q3,q4,q5⟩:=hL.blk o1
 obtain ⟨rfl,rfl⟩:=q5 o3
 obtain ⟨r1,r2⟩:=q4 o2
 simp only at k2
 rw [k2,List.drop_zero,dH (by simp [r2])] at q3
 obtain ⟨v',hv1,hv2⟩:=q3.at h4
 have hcell:∀(j:Nat) (v:Value),b.cells[j]?=some v→∃v',cb[j]?=some v'∧VR m' v v':=fun j v hj=>by
  obtain ⟨v',e1,e2⟩:=q3.at hj
  exact ⟨v',by simpa using e1,e2⟩
 obtain ⟨g,c',rfl,hg,hc,htot⟩:∃g c',v'=.slice (some ⟨g,0,none⟩) n c'∧m'.gb qi=some g∧n≤c'∧(c'=n∨c'*m'.eD qi≤m'.tot qi):=by
  cases hv2 with
  | ow e=>exact ⟨_,_,rfl,e,au _,.inl rfl⟩
  | qW e _ hc ht=>exact ⟨_,_,rfl,e,hc,.inr (by simpa using ht)⟩
  | qV=>exact absurd rfl hn
 obtain ⟨_,bq',hbq',hG⟩:=hR.ic qi g hg
 rw [h5] at hbq'; injection hbq' with hbq'; subst hbq'
 obtain ⟨cs,s1,s2,s3,s4,s5⟩:=hG.blk h6.1
 have hvs:=oN (p9 hA 4) _ _ _ (by rw [hE]; exact hv) (s3.mono (Be m'))
 refine ⟨(some ⟨g,0,none⟩,n,c'),cb,q1,r2,by simpa using hv1,fun j v u e1 e2=>?_,⟨rfl,by rw [nR _ _ hv,h7],fun e=>(by cases e),fun a ha=>?_⟩,g,rfl,hg⟩
 ·obtain ⟨v',e3,e4⟩:=hcell j v e1
  rw [p9 hA 4 v u v' (by rw [hE]; exact e2) e4] at e3
  exact e3
 ·injection ha with ha; subst ha
  refine ⟨g,cs,rfl,s1,?_,hc,?_⟩
  ·rcases htot with rfl | ht
   ·show c'*bq.eD≤cs.size; omega
   ·show c'*bq.eD≤cs.size; rw [←hG.ez,←s5 h6.2]; exact ht
  ·rw [nR _ _ hv]; exact hvs
section
variable {P:Program} {X:Xt} {O:ig} {esc:Nat→Bool} {ops l tail:List Oper} {fr:List Value} {H lo wb:Hp} {a:Act} {w w0:World} {ex:List Nat} {Q:Exit→Act→World→Prop} {us us':List (Option Value)} {gs gs' ls ls':List gQ} {ws:List jC}
theorem aa2 (hN:kP P) (hX:kD P X) (hO:iY P X.env O) (hc:ajJ l=true) (gi li:List Nat) (hchk:(qC P X O esc ops l ⟨fr,H,lo++wb,[]⟩).map (pI X.env (eH gs ls ws) us' gi li ls.length ws.length)=some (goal us' gs' ls' ws.length))
  (hi:nE X.env (eH gs ls ws) fr H lo wb=((us,true),(gs.map iT,true),(ls.map iT,true),(ws.map (fun x=>some x.2.2),true))) (nd:(gs'.map (·.1)++ls'.map (·.1)).Nodup)
  (h:dP us gs ls a w) (hk:dO w0 ex w) (hw:jR w0 ex ws) (hown:Own w0 ex gs ls) (hz:qc X.env (eH gs ls ws) (lo++wb) w) (h0:∀c,X.env.f0=some c→(eH gs ls ws).gp[0]?=some c) (hW:kv X (iC X.env (eH gs ls ws) w))
  (hQ:∀a' w',dP us' gs' ls' a' w'→dO w0 ex w'→wpList P ops.toArray Q tail a' w'):wpList P ops.toArray Q (l++tail) a w:=by
 obtain ⟨s',h1,h2⟩:=aR.1 hchk
 obtain ⟨ho,hwa⟩:=zx h2 nd
 exact piece gi li (Re hN hX hO hc h1) h hk hw hown (oH hi) hz h0 hW ho hwa hQ
end
section
variable {P:Program} {X:Xt} {O:ig} {esc:Nat→Bool} {ops l tail:List Oper} {fr:List Value} {H lo wb:Hp} {a:Act} {w w0:World} {ex:List Nat} {Q:Exit→Act→World→Prop} {us:List (Option Value)} {us':List Nat→List Nat→List (Option Value)} {gs ls:List gQ} {gs' ls':List Nat→List Nat→List gQ} {ws:List jC}
theorem aa1 (hN:kP P) (hX:kD P X) (hO:iY P X.env O) (hc:ajJ l=true) (gi li tg tl:List Nat)
  (hchk:∀ng nl:List Nat,ng.length=tg.length→nl.length=tl.length→(qC P X O esc ops l ⟨fr,H,lo++wb,[]⟩).map (uj X.env (oZ gs ls ws ng nl) (us' ng nl) gi li tg tl ls.length ws.length H.length (lo++wb).length)=some (goal (us' ng nl) (gs' ng nl) (ls' ng nl) ws.length,(true,true),tg.map (fun _=>true),tl.map (fun _=>true),H.map (fun _=>true)))
  (hi:nE X.env (eH gs ls ws) fr H lo wb=((us,true),(gs.map iT,true),(ls.map iT,true),(ws.map (fun x=>some x.2.2),true)))
  (nd:∀ng nl:List Nat,ng.length=tg.length→nl.length=tl.length→(gs.map (·.1)++ls.map (·.1)++ng++nl).Nodup→((gs' ng nl).map (·.1)++(ls' ng nl).map (·.1)).Nodup)
  (h:dP us gs ls a w) (hk:dO w0 ex w) (hw:jR w0 ex ws) (hown:Own w0 ex gs ls) (hz:qc X.env (eH gs ls ws) (lo++wb) w) (h0:∀c,X.env.f0=some c→(eH gs ls ws).gp[0]?=some c) (hW:kv X (iC X.env (eH gs ls ws) w))
  (hQ:∀(a':Act) (w':World) (ng nl:List Nat),ng.length=tg.length→nl.length=tl.length→(gs.map (·.1)++ls.map (·.1)++ng++nl).Nodup→(∀n∈ng++nl,w.heap.size≤n∧n<w'.heap.size)→dP (us' ng nl) (gs' ng nl) (ls' ng nl) a' w'→dO w0 ex w'→wpList P ops.toArray Q tail a' w'):wpList P ops.toArray Q (l++tail) a w:=by
 obtain ⟨s',h1,h2⟩:=aR.1 (hchk (tg.map fun _=>0) (tl.map fun _=>0) (by simp) (by simp))
 simp only [uj,aP] at h2
 obtain ⟨hq0,⟨h3,h4⟩,h5,h6,h7⟩:=h2
 have hwa:(((s'.loc.drop ls.length).take ws.length).map mJ)=ws.map fun _=>true:=by
  simp only [pI,goal,aP] at hq0
  rw [hq0.2.2.2]
  exact Dn ws
 refine QP gi li tg tl (Re hN hX hO hc h1) h hk hw hown (oH hi) hz h0 hW h3 h4 h5 h6 h7 (fun ng nl e1 e2 e3=>?_) hwa hQ
 obtain ⟨s2,k1,k2⟩:=aR.1 (hchk ng nl e1 e2)
 rw [h1] at k1; injection k1 with k1; subst k1
 simp only [uj,aP] at k2
 exact (zx k2.1 (nd ng nl e1 e2 e3)).1
end
end Go.Sm
end
end
section
namespace Go.Proofs
open Go.Sm Go.RowKit En
def fZ (j:JV) (p:Int):List Value:=[.string j.name,num j.kind,num p,num j.o0,num j.o1,num j.o2,num j.lo,num j.hi,num j.weight,num j.speed,num j.iL,num j.iO]
theorem all_nil {α:Type} {p:α→Prop}:∀e∈([]:List α),p e:=fun _ h=>by cases h
theorem dR {α:Type} {p:α→Prop} {a:α} {l:List α} (h:p a) (hl:∀e∈l,p e):∀e∈a::l,p e:=List.forall_mem_cons.2 ⟨h,hl⟩
variable {E:Env} {nd:Value}
theorem fq {g:List (Value×Value)} {b c:Bool} (h:eF E 300 nd=some (.bool b)) (hb:b=c) (hg:Sat E g):Sat E ((nd,.bool c)::g):=afl ⟨300,.bool c,h.trans (by rw [hb]),rfl⟩ hg
variable {m:Mp} {h:Nat} {S:Option Addr×Nat×Nat}
theorem CZ {n:Int} (hm:m.env=E) (hS:(S.2.1:Int)=n) (h1:E.sl h=S) (h2:eF E 2 nd=some (num n)):∃d,eF m.env d nd=some (.int .i64 ((m.env.sl h).2.1:Nat)):=⟨2,by rw [hm,h1,hS]; exact h2⟩
theorem jf {k:Nat} (hm:m.env=E) (hS:S.2.1=k) (h1:E.sl h=S) (h2:eF E 2 nd=some (num (k:Nat))):∃d,eF m.env d nd=some (.int .i64 ((m.env.sl h).2.1:Nat)):=⟨2,by rw [hm,h1,hS]; exact h2⟩
structure Ak where
 T:List pE:=[]
 K:List pq:=[]
 RT:List qG:=[]
 QT:List Qt:=[]
 NT:List Nt:=[]
structure DZ (E:Env) (t:Ak):Prop where
 tab:∀x∈t.T,zf aa E 88 x
 vK:∀x∈t.K,Af aa E 88 x
 row:∀x∈t.RT,Cg aa E 88 x
 qt:∀x∈t.QT,jB aa E x
 nt:∀x∈t.NT,sG aa E x
def tF (P:Program) (esc:FuncId→Nat→Bool) (Z:World×List Nat) (l:List Int) (bs:List Bool) (sl:List dY) (g:List (Value×Value)) (lt:List (Nat×Value)) (t:Ak):ig:=kQ P (fG Z l bs sl g [] lt []) esc 200 (Bu t.QT (Bd t.NT (Bw 88 t.RT (Av 88 t.K (BK 88 t.T (ym 89 (vZ (fG Z l bs sl g [] [] []) vP))))))) 12
theorem uX (Z:World×List Nat) (l:List Int) (bs:List Bool) (sl:List dY) (g:List (Value×Value)) (lt:List (Nat×Value)) (t:Ak) (h:Sat (gB Z l bs sl) g) (hl:∀e∈lt,∃d,eF (gB Z l bs sl) d e.2=some (.int .i64 (((gB Z l bs sl).sl e.1).2.1:Nat))) (ht:DZ (gB Z l bs sl) t):iY aa (gB Z l bs sl) (tF aa Tryz.esc Z l bs sl g lt t)∧jc (tF aa Tryz.esc Z l bs sl g lt t) :=
 zl (X:=fG Z l bs sl g [] lt []) Tryz.mixed Tryz.ky (tL Z l bs sl g [] lt [] h) (QY ht.qt (P6 ht.nt (Ra ht.row (Nj ht.vK (UH ht.tab (ES En.AY (BH (X:=fG Z l bs sl g [] [] []) h _ (QD Z l bs sl)))))))) (QZ (P7 (Rb (Nk (UI (ET (BI _ _))))))) ⟨rfl,(fun i b e=>by simp [fG] at e),fun m hm _=>⟨(fun e he=>by cases he),(fun e he=>by rw [hm]; exact hl e he),(fun e he=>by cases he)⟩⟩ 12
theorem jo:DZ E {}:=⟨fun x h=>(by cases h),fun x h=>(by cases h),fun x h=>(by cases h),fun x h=>(by cases h),fun x h=>(by cases h)⟩
theorem yA {QT:List Qt} (h:∀x∈QT,jB aa E x):DZ E { QT:=QT }:=⟨fun x h=>(by cases h),fun x h=>(by cases h),fun x h=>(by cases h),h,fun x h=>(by cases h)⟩
structure zb (l:List Int) (bs:List Bool) (sl:List dY) (g:List (Value×Value)) (wt:List (Nat×Value×Nat×Nat)) (lt:List (Nat×Value)) (t:Ak) (gs ls:List gQ) (ws:List jC) (w0:World) (ex:List Nat):Prop where
 sat:Sat (gB (w0,ex) l bs sl) g
 vo:DZ (gB (w0,ex) l bs sl) t
 wins:jR w0 ex ws
 own:∀g∈gs.map (·.1)++ls.map (·.1),g∈ex∨w0.heap.size≤g
 f0:∀c,ex.head?=some c→(gs.map (·.1))[0]?=some c
 win:∀w,kv (fG (w0,ex) l bs sl g wt lt []) (iC (gB (w0,ex) l bs sl) (eH gs ls ws) w)
section
variable {l:List Int} {bs:List Bool} {sl:List dY} {g:List (Value×Value)} {wt:List (Nat×Value×Nat×Nat)} {lt:List (Nat×Value)} {t:Ak} {Q:Exit→Act→World→Prop} {D c:Code} {fr:List Value} {H lo wb:Hp} {a:Act} {w w0:World} {ex:List Nat} {ws:List jC} {us us':List (Option Value)} {gs gs' ls ls':List gQ}
theorem uN (l:List Int) (bs:List Bool) (sl:List dY) (f:Nat) (cs:List Code) (gi li:List Nat)
  (hchk:(qK aa (fG (w0,ex) l bs sl g wt lt []) (tF aa Tryz.esc (w0,ex) l bs sl g lt t) (Tryz.esc f) 200 cs ⟨fr,H,lo++wb,[]⟩).map (pI (gB (w0,ex) l bs sl) (eH gs ls ws) us' gi li ls.length ws.length)=some (goal us' gs' ls' ws.length))
  (hi:nE (gB (w0,ex) l bs sl) (eH gs ls ws) fr H lo wb=((us,true),(gs.map iT,true),(ls.map iT,true),(ws.map (fun x=>some x.2.2),true))) (nd:(gs'.map (·.1)++ls'.map (·.1)).Nodup)
  (hS:zb l bs sl g wt lt t gs ls ws w0 ex) (h:dP us gs ls a w) (hk:dO w0 ex w)
  (hQ:∀a' w',dP us' gs' ls' a' w'→dO w0 ex w'→D.wp aa Q a' w'):(o7 cs D).wp aa Q a w :=
 M7 (X:=fG (w0,ex) l bs sl g wt lt []) Tryz.mixed Tryz.ky (tL _ _ _ _ _ _ _ _ hS.sat) (uX (w0,ex) l bs sl g lt t hS.sat (hS.win w).len hS.vo).1 (uX (w0,ex) l bs sl g lt t hS.sat (hS.win w).len hS.vo).2 cs gi li hchk hi nd h hk hS.wins (fw hS.own) (uR rfl hk (fw hS.own) (oH hi)) (fun c hc=>hS.f0 c hc) (hS.win w) hQ
theorem Cq (l:List Int) (bs:List Bool) (sl:List dY) (f:Nat) (x:Ex) (gi li:List Nat)
  (hchk:(exec aa (fG (w0,ex) l bs sl g wt lt []) (tF aa Tryz.esc (w0,ex) l bs sl g lt t) (Tryz.esc f) 200 c ⟨fr,H,lo++wb,[]⟩).map (fun r=>(r.1,pI (gB (w0,ex) l bs sl) (eH gs ls ws) us' gi li ls.length ws.length r.2))=some (x,goal us' gs' ls' ws.length))
  (hi:nE (gB (w0,ex) l bs sl) (eH gs ls ws) fr H lo wb=((us,true),(gs.map iT,true),(ls.map iT,true),(ws.map (fun x=>some x.2.2),true))) (nd:(gs'.map (·.1)++ls'.map (·.1)).Nodup)
  (hS:zb l bs sl g wt lt t gs ls ws w0 ex) (h:dP us gs ls a w) (hk:dO w0 ex w)
  (hQ:∀a' w',dP us' gs' ls' a' w'→dO w0 ex w'→Q (vS x) a' w'):c.wp aa Q a w :=
 Ng (X:=fG (w0,ex) l bs sl g wt lt []) Tryz.mixed Tryz.ky (tL _ _ _ _ _ _ _ _ hS.sat) (uX (w0,ex) l bs sl g lt t hS.sat (hS.win w).len hS.vo).1 (uX (w0,ex) l bs sl g lt t hS.sat (hS.win w).len hS.vo).2 x gi li hchk hi nd h hk hS.wins (fw hS.own) (uR rfl hk (fw hS.own) (oH hi)) (fun c hc=>hS.f0 c hc) (hS.win w) hQ
theorem Q7 (l:List Int) (bs:List Bool) (sl:List dY) (f:Nat) {fn:Func} {R:Ending→World→Prop} {u:Value} (gi li:List Nat)
  (hchk:(exec aa (fG (w0,ex) l bs sl g wt lt []) (tF aa Tryz.esc (w0,ex) l bs sl g lt t) (Tryz.esc f) 200 c ⟨fr,H,lo++wb,[]⟩).map (fun r=>(r.1,((qP aa r.2 fn.results.toList).bind fun vs=>fP (gB (w0,ex) l bs sl) (eH gs ls ws) 5 (kW vs)),pI (gB (w0,ex) l bs sl) (eH gs ls ws) us' gi li ls.length ws.length r.2))=some (.ret,some u,goal us' gs' ls' ws.length))
  (hi:nE (gB (w0,ex) l bs sl) (eH gs ls ws) fr H lo wb=((us,true),(gs.map iT,true),(ls.map iT,true),(ws.map (fun x=>some x.2.2),true))) (nd:(gs'.map (·.1)++ls'.map (·.1)).Nodup)
  (hS:zb l bs sl g wt lt t gs ls ws w0 ex) (h:dP us gs ls a w) (hk:dO w0 ex w)
  (hQ:∀a' w',dP us' gs' ls' a' w'→dO w0 ex w'→R (.returned u) w'):c.wp aa (bodyPost aa fn R) a w :=
 Q8 (X:=fG (w0,ex) l bs sl g wt lt []) Tryz.mixed Tryz.ky (tL _ _ _ _ _ _ _ _ hS.sat) (uX (w0,ex) l bs sl g lt t hS.sat (hS.win w).len hS.vo).1 (uX (w0,ex) l bs sl g lt t hS.sat (hS.win w).len hS.vo).2 gi li hchk hi nd h hk hS.wins (fw hS.own) (uR rfl hk (fw hS.own) (oH hi)) (fun c hc=>hS.f0 c hc) (hS.win w) hQ
variable {ops o1 tail:List Oper}
theorem uw (l:List Int) (bs:List Bool) (sl:List dY) (hc:ajJ o1=true) (gi li:List Nat)
  (hchk:(qC aa (fG (w0,ex) l bs sl g wt lt []) (tF aa Tryz.esc (w0,ex) l bs sl g lt t) (fun _=>true) ops o1 ⟨fr,H,lo++wb,[]⟩).map (pI (gB (w0,ex) l bs sl) (eH gs ls ws) us' gi li ls.length ws.length)=some (goal us' gs' ls' ws.length))
  (hi:nE (gB (w0,ex) l bs sl) (eH gs ls ws) fr H lo wb=((us,true),(gs.map iT,true),(ls.map iT,true),(ws.map (fun x=>some x.2.2),true))) (nd:(gs'.map (·.1)++ls'.map (·.1)).Nodup)
  (hS:zb l bs sl g wt lt t gs ls ws w0 ex) (h:dP us gs ls a w) (hk:dO w0 ex w)
  (hQ:∀a' w',dP us' gs' ls' a' w'→dO w0 ex w'→wpList aa ops.toArray Q tail a' w'):wpList aa ops.toArray Q (o1++tail) a w :=
 aa2 (X:=fG (w0,ex) l bs sl g wt lt []) Tryz.ky (tL _ _ _ _ _ _ _ _ hS.sat) (uX (w0,ex) l bs sl g lt t hS.sat (hS.win w).len hS.vo).1 hc gi li hchk hi nd h hk hS.wins (fw hS.own) (uR rfl hk (fw hS.own) (oH hi)) (fun c hc=>hS.f0 c hc) (hS.win w) hQ
end
section
variable {g:List (Value×Value)} {wt:List (Nat×Value×Nat×Nat)} {lt:List (Nat×Value)} {t:Ak} {Q:Exit→Act→World→Prop} {D:Code} {fr:List Value} {H lo wb:Hp} {a:Act} {w w0:World} {ex:List Nat} {ws:List jC} {us:List (Option Value)} {us':List Nat→List Nat→List (Option Value)} {gs ls:List gQ} {gs' ls':List Nat→List Nat→List gQ}
theorem xI (l:List Int) (bs:List Bool) (sl:List dY) (f:Nat) (cs:List Code) (gi li tg tl:List Nat)
  (hchk:∀ng nl:List Nat,ng.length=tg.length→nl.length=tl.length→(qK aa (fG (w0,ex) l bs sl g wt lt []) (tF aa Tryz.esc (w0,ex) l bs sl g lt t) (Tryz.esc f) 200 cs ⟨fr,H,lo++wb,[]⟩).map (uj (gB (w0,ex) l bs sl) (oZ gs ls ws ng nl) (us' ng nl) gi li tg tl ls.length ws.length H.length (lo++wb).length)=some (goal (us' ng nl) (gs' ng nl) (ls' ng nl) ws.length,(true,true),tg.map (fun _=>true),tl.map (fun _=>true),H.map (fun _=>true)))
  (hi:nE (gB (w0,ex) l bs sl) (eH gs ls ws) fr H lo wb=((us,true),(gs.map iT,true),(ls.map iT,true),(ws.map (fun x=>some x.2.2),true)))
  (nd:∀ng nl:List Nat,ng.length=tg.length→nl.length=tl.length→(gs.map (·.1)++ls.map (·.1)++ng++nl).Nodup→((gs' ng nl).map (·.1)++(ls' ng nl).map (·.1)).Nodup)
  (hS:zb l bs sl g wt lt t gs ls ws w0 ex) (h:dP us gs ls a w) (hk:dO w0 ex w)
  (hQ:∀(a':Act) (w':World) (ng nl:List Nat),ng.length=tg.length→nl.length=tl.length→(gs.map (·.1)++ls.map (·.1)++ng++nl).Nodup→(∀n∈ng++nl,w.heap.size≤n∧n<w'.heap.size)→dP (us' ng nl) (gs' ng nl) (ls' ng nl) a' w'→dO w0 ex w'→D.wp aa Q a' w'):(o7 cs D).wp aa Q a w :=
 M6 (X:=fG (w0,ex) l bs sl g wt lt []) Tryz.mixed Tryz.ky (tL _ _ _ _ _ _ _ _ hS.sat) (uX (w0,ex) l bs sl g lt t hS.sat (hS.win w).len hS.vo).1 (uX (w0,ex) l bs sl g lt t hS.sat (hS.win w).len hS.vo).2 cs gi li tg tl hchk hi nd h hk hS.wins (fw hS.own) (uR rfl hk (fw hS.own) (oH hi)) (fun c hc=>hS.f0 c hc) (hS.win w) hQ
theorem Il (l:List Int) (bs:List Bool) (sl:List dY) (f:Nat) (cs:List Code) (gi li tg tl:List Nat) (R:List Nat→World→Prop)
  (hchk:∀ng nl:List Nat,ng.length=tg.length→nl.length=tl.length→(qK aa (fG (w0,ex) l bs sl g wt lt []) (tF aa Tryz.esc (w0,ex) l bs sl g lt t) (Tryz.esc f) 200 cs ⟨fr,H,lo++wb,[]⟩).map (uj (gB (w0,ex) l bs sl) (oZ gs ls ws ng nl) (us' ng nl) gi li tg tl ls.length ws.length H.length (lo++wb).length)=some (goal (us' ng nl) (gs' ng nl) (ls' ng nl) ws.length,(true,true),tg.map (fun _=>true),tl.map (fun _=>true),H.map (fun _=>true)))
  (hi:nE (gB (w0,ex) l bs sl) (eH gs ls ws) fr H lo wb=((us,true),(gs.map iT,true),(ls.map iT,true),(ws.map (fun x=>some x.2.2),true)))
  (nd:∀ng nl:List Nat,ng.length=tg.length→nl.length=tl.length→(gs.map (·.1)++ls.map (·.1)++ng++nl).Nodup→((gs' ng nl).map (·.1)++(ls' ng nl).map (·.1)).Nodup)
  (hS:zb l bs sl g wt lt t gs ls ws w0 ex) (h:dP us gs ls a w) (hk:dO w0 ex w)
  (hR:∀(s':St) (m':Mp) (a':Act) (w':World) (nl:List Nat),qK aa (fG (w0,ex) l bs sl g wt lt []) (tF aa Tryz.esc (w0,ex) l bs sl g lt t) (Tryz.esc f) 200 cs ⟨fr,H,lo++wb,[]⟩=some s'→jQ (iC (gB (w0,ex) l bs sl) (eH gs ls ws) w) H w s' m' a' w'→At ⟨gs.map (·.1),(eH gs ls ws).lp++nl.map fun g=>(g,0)⟩ m'→R nl w')
  (hQ:∀(a':Act) (w':World) (ng nl:List Nat),R nl w'→ng.length=tg.length→nl.length=tl.length→(gs.map (·.1)++ls.map (·.1)++ng++nl).Nodup→(∀n∈ng++nl,w.heap.size≤n∧n<w'.heap.size)→dP (us' ng nl) (gs' ng nl) (ls' ng nl) a' w'→dO w0 ex w'→D.wp aa Q a' w'):(o7 cs D).wp aa Q a w:=by
 have hX:=tL _ _ _ _ _ wt lt [] hS.sat
 have hO:=uX (w0,ex) l bs sl g lt t hS.sat (hS.win w).len hS.vo
 obtain ⟨s',h1,h2⟩:=aR.1 (hchk (tg.map fun _=>0) (tl.map fun _=>0) (by simp) (by simp))
 simp only [uj,aP] at h2
 obtain ⟨hq0,⟨h3,h4⟩,h5,h6,h7⟩:=h2
 have hwa:(((s'.loc.drop ls.length).take ws.length).map mJ)=ws.map fun _=>true:=by
  simp only [pI,goal,aP] at hq0
  rw [hq0.2.2.2]
  exact Dn ws
 refine acm gi li tg tl R (F6 Tryz.mixed Tryz.ky hX hO.1 hO.2 cs h1) h hk hS.wins (fw hS.own) (oH hi) (uR rfl hk (fw hS.own) (oH hi)) (fun c hc=>hS.f0 c hc) (hS.win w) h3 h4 h5 h6 h7 (fun ng nl e1 e2 e3=>?_) hwa (fun m' a' w' nl hs hA=>hR s' m' a' w' nl h1 hs hA) hQ
 obtain ⟨s2,k1,k2⟩:=aR.1 (hchk ng nl e1 e2)
 rw [h1] at k1; injection k1 with k1; subst k1
 simp only [uj,aP] at k2
 exact (zx k2.1 (nd ng nl e1 e2 e3)).1
variable {ops o1 tail:List Oper}
theorem FJ (l:List Int) (bs:List Bool) (sl:List dY) (hc:ajJ o1=true) (gi li tg tl:List Nat)
  (hchk:∀ng nl:List Nat,ng.length=tg.length→nl.length=tl.length→(qC aa (fG (w0,ex) l bs sl g wt lt []) (tF aa Tryz.esc (w0,ex) l bs sl g lt t) (fun _=>true) ops o1 ⟨fr,H,lo++wb,[]⟩).map (uj (gB (w0,ex) l bs sl) (oZ gs ls ws ng nl) (us' ng nl) gi li tg tl ls.length ws.length H.length (lo++wb).length)=some (goal (us' ng nl) (gs' ng nl) (ls' ng nl) ws.length,(true,true),tg.map (fun _=>true),tl.map (fun _=>true),H.map (fun _=>true)))
  (hi:nE (gB (w0,ex) l bs sl) (eH gs ls ws) fr H lo wb=((us,true),(gs.map iT,true),(ls.map iT,true),(ws.map (fun x=>some x.2.2),true)))
  (nd:∀ng nl:List Nat,ng.length=tg.length→nl.length=tl.length→(gs.map (·.1)++ls.map (·.1)++ng++nl).Nodup→((gs' ng nl).map (·.1)++(ls' ng nl).map (·.1)).Nodup)
  (hS:zb l bs sl g wt lt t gs ls ws w0 ex) (h:dP us gs ls a w) (hk:dO w0 ex w)
  (hQ:∀(a':Act) (w':World) (ng nl:List Nat),ng.length=tg.length→nl.length=tl.length→(gs.map (·.1)++ls.map (·.1)++ng++nl).Nodup→(∀n∈ng++nl,w.heap.size≤n∧n<w'.heap.size)→dP (us' ng nl) (gs' ng nl) (ls' ng nl) a' w'→dO w0 ex w'→wpList aa ops.toArray Q tail a' w'):wpList aa ops.toArray Q (o1++tail) a w :=
 aa1 (X:=fG (w0,ex) l bs sl g wt lt []) Tryz.ky (tL _ _ _ _ _ _ _ _ hS.sat) (uX (w0,ex) l bs sl g lt t hS.sat (hS.win w).len hS.vo).1 hc gi li tg tl hchk hi nd h hk hS.wins (fw hS.own) (uR rfl hk (fw hS.own) (oH hi)) (fun c hc=>hS.f0 c hc) (hS.win w) hQ
end
end Go.Proofs
end
section
namespace Go.Proofs
open Go.Sm Go.RowKit En
structure fu (w0:World) (ex:List Nat) (S:dY) (ix:Int) (sz:Nat) (b o:Nat) (vs:List Value):Prop where
 pl:∃o0,S.1=some ⟨b,o0,none⟩∧0≤ix∧ix<(S.2.1:Nat)∧o=o0+ix.toNat*sz
 wf:(b<w0.heap.size∧b∉ex)∧tV w0 (b,o,vs)
variable {w0:World} {ex:List Nat} {S:dY} {ix:Int} {sz b o i:Nat} {vs:List Value}
theorem qa {m:Mp} {h:Nat} {nd:Value} (hw:fu w0 ex S ix sz b o vs) (h1:m.env.sl h=S) (h2:eF m.env 2 nd=some (.int .i64 ix)) (h3:m.lb i=some b) (h4:m.sh i=o) :
  ∃(a:Addr) (n c:Nat) (ix:Int) (d:Nat),m.env.sl h=(some a,n,c)∧a.spot=none∧eF m.env d nd=some (.int .i64 ix)∧0≤ix∧ix<n∧m.lb i=some a.block∧m.sh i=a.off+ix.toNat*sz:=by
 obtain ⟨o0,e1,e2,e3,e4⟩:=hw.pl
 exact ⟨⟨b,o0,none⟩,S.2.1,S.2.2,ix,2,by rw [h1,←e1],rfl,h2,e2,e3,h3,by rw [h4,e4]⟩
variable {rows:List (List Value)}
theorem iy {r:List Value} (hs:Sl w0 S.1 sz rows) (hl:S.2.1=rows.length) (hi:rows[i]?=some r) (hr:0<r.length) (hx:∀a,S.1=some a→a.block∉ex):∃b o,fu w0 ex S i sz b o r:=by
 obtain ⟨b,off,e,hR⟩:=hs (fun e=>by rw [e] at hi; simp at hi)
 refine ⟨b,off+i*sz,⟨off,e,by omega,?_,by simp⟩,⟨hR.lt,hx _ e⟩,hr,fun k v hk=>?_⟩
 ·have:=(ai.1 hi).1
  rw [hl]; omega
 ·have:=hR.c i r hi k v hk
  rwa [←Nat.add_assoc] at this
theorem oP {A B C E:List Nat} (h:(A++B++C++E).Nodup):((A++C)++(B++E)).Nodup:=by
 refine (List.Perm.nodup_iff ?_).1 h
 simp only [afd]
 refine List.Perm.append_left A ?_
 rw [←afd,←afd]
 exact List.Perm.append_right E List.perm_append_comm
def opsOf:Code→List Oper | .region _ ops _=>ops.toList | _=>[]
def Yx:Code→Bool | .region _ _ d=>!d | _=>false
variable {c:Code} {Q:Exit→Act→World→Prop} {a:Act} {w:World}
theorem yC (hc:Yx c=true) (h:wpList aa (opsOf c).toArray Q (opsOf c) a w):c.wp aa Q a w:=by
 cases c with
 | region id ops d =>
  cases d with
  | true=>cases hc
  | false=>exact wp_region_list (by simpa [opsOf] using h)
 | _=>cases hc
theorem xN (k:Nat) (h:wpList aa (opsOf c).toArray Q ((opsOf c).take k++(opsOf c).drop k) a w):wpList aa (opsOf c).toArray Q (opsOf c) a w:=by rwa [List.take_append_drop] at h
structure BX (c:Code) (k:Nat) (x y d:Tmp) (elem:TypeId) (sz:Nat):Prop where
 h:∃(o:Oper) (tS tX e':TypeId) (ti:TypeInfo) (z:Value),(opsOf c).drop k=o::(opsOf c).drop (k+1)∧o.guard=none∧o.dst=some d∧o.op=.call { callee:=.builtin .append,args:=#[.tmp x,.tmp y],argTypes:=#[tS,tX] } ∧
  aa.underlying tS=some (.slice elem)∧aa.underlying tX=some (.slice e')∧aa.info? elem=some ti∧ti.zero=some z∧z.cells.size=ti.size∧ti.size=sz∧ti.bytes≤1000000
variable {us:List (Option Value)} {gs ls:List gQ}
theorem BF (h:dP us gs ls a w) (d:Nat) (v:Value):dP (us.set d (some v)) gs ls (a.put (some d) v) w:=by
 refine ⟨h.df,by simp [h.sz,Act.put],fun t u e=>?_,h.gl,h.lo,h.nd⟩
 rw [List.getElem?_set] at e
 simp only [Act.put,Array.getElem?_setIfInBounds]
 by_cases hd:d=t
 ·subst hd
  simp only [if_true] at e ⊢
  rw [h.sz] at e
  split at e
  ·rename_i hlt; injection e with e; injection e with e; subst e; simp [hlt]
  ·cases e
 ·rw [if_neg hd] at e ⊢
  exact h.fr t u e
variable {w':World}
theorem BG (h:dP us gs ls a w) (hf:∀g∈gs.map (·.1)++ls.map (·.1),w'.heap[g]?=w.heap[g]?):dP us gs ls a w' :=
 ⟨h.df,h.sz,h.fr,fun x hx=>(hf _ (aeY _ (List.mem_map_of_mem hx))).trans (h.gl x hx),fun x hx=>(hf _ (dm _ (List.mem_map_of_mem hx))).trans (h.lo x hx),h.nd⟩
theorem qE (h:dP us gs ls a w):∀g∈gs.map (·.1)++ls.map (·.1),g<w.heap.size:=fun g hg=>by
 rcases bH.1 hg with r | r<;>obtain ⟨x,x1,rfl⟩:=aeZ.1 r
 ·exact (aB.1 (h.gl x x1)).1
 ·exact (aB.1 (h.lo x x1)).1
theorem GV (h:dP us gs ls a w) {t:Nat} {u:Value} (e:us[t]?=some (some u)):a.eval (.tmp t)=u:=by
 have:=h.fr t u e
 simp [Act.eval,this]
def blk (S:dY):List Nat:=match S.1 with
 | some a=>[a.block]
 | none=>[]
theorem vH {a:Addr} (h:S.1=some a):blk S=[a.block]:=by unfold blk; rw [h]
theorem ZA {g:Nat} (h:g∈blk S):∃a,S.1=some a∧a.block=g:=by
 unfold blk at h
 split at h
 ·rename_i a e; exact ⟨a,e,(List.mem_singleton.1 h).symm⟩
 ·cases h
variable {ex2:List Nat}
theorem _root_.Go.Sm.dO.comp (h:dO w0 ex w) (k:dO w ex2 w') (hx:∀g∈ex2,g∈ex∨w0.heap.size≤g):dO w0 ex w' :=
 ⟨k.os.trans h.os,k.tape.trans h.tape,k.output.trans h.output,aZ h.size k.size,fun g h1 h2=>(k.frame g (aC h1 h.size) fun hm=>by rcases hx g hm with r | r; exact h2 r; omega).trans (h.frame g h1 h2)⟩
theorem _root_.Go.Sm.aky.keep {S':dY} (h:aky w S S' w'):dO w (blk S) w' :=
 ⟨h.os,h.tape,h.output,h.size,fun g h1 h2=>h.frame g h1 fun a ha e=>h2 (by rw [vH ha,e]; simp)⟩
variable {n:Nat} {e:TypeId} {cs:List Value}
theorem _root_.Go.Sm.Grow.lt (h:Grow w S sz e n cs):∀g∈blk S,g<w.heap.size:=fun g hg=>by
 obtain ⟨a,ha,rfl⟩:=ZA hg
 obtain ⟨g,cs,rfl,h1,_⟩:=h.blk a ha
 exact (aB.1 h1).1
theorem _root_.Go.Sm.Grow.keep (h:Grow w S sz e n cs) (k:dO w ex w') (hx:∀g∈blk S,g∉ex):Grow w' S sz e n cs :=
 ⟨h.len,h.cl,h.nil,fun a ha=>by
  obtain ⟨g,c,rfl,h1,h2⟩:=h.blk a ha
  exact ⟨g,c,rfl,(k.frame g (aB.1 h1).1 (hx g (by rw [vH ha]; simp))).trans h1,h2⟩⟩
variable {oa:Option Addr}
theorem kI (h:Sl w oa n rows) (k:dO w ex w') (hx:∀a,oa=some a→a.block∉ex):Sl w' oa n rows:=fun h0=>by
 obtain ⟨b,off,e,h1⟩:=h h0
 have hb:=hx _ e
 exact ⟨b,off,e,aC h1.lt k.size,fun i r hi q v hv=>(k.cell h1.lt hb).trans (h1.c i r hi q v hv)⟩
theorem Uw (h:Sl w oa n rows) (k:dO w ex w') (hx:∀a,oa=some a→rows≠[]→a.block∉ex):Sl w' oa n rows:=fun h0=>by
 obtain ⟨b,off,e,h1⟩:=h h0
 have hb:=hx _ e h0
 exact ⟨b,off,e,aC h1.lt k.size,fun i r hi q v hv=>(k.cell h1.lt hb).trans (h1.c i r hi q v hv)⟩
theorem _root_.Go.Sm.Grow.sl (h:Grow w S sz e n rows.flatten) (hr:∀r∈rows,r.length=sz) (hn:rows.length=n):Sl w S.1 sz rows:=fun h0=>by
 cases hS:S.1 with
 | none=>exact absurd (bR (hn.trans (h.nil hS).1)) h0
 | some a =>
  obtain ⟨g,cs,rfl,h1,h2,h3,h4⟩:=h.blk a hS
  refine ⟨g,0,rfl,(aB.1 h1).1,fun i r hi k v hk=>?_⟩
  have h5:rows.flatten[i*sz+k]?=some v:=by
   have:=flat_get rows sz hr i r hi k v hk
   simpa using this
  rw [←h4] at h5
  simp only [dx] at h5
  split at h5
  ·simpa [bS,h1] using h5
  ·cases h5
theorem fu.mv (h:fu w0 ex S ix sz b o vs) (hk:dO w0 ex w) (hx:∀g∈ex2,g∈ex∨w0.heap.size≤g):fu w ex2 S ix sz b o vs :=
 ⟨h.pl,⟨aC h.wf.1.1 hk.size,fun hm=>by rcases hx b hm with r | r; exact h.wf.1.2 r; have:=h.wf.1.1; omega⟩,hk.win h.wf.1.1 h.wf.1.2 h.wf.2⟩
variable {k:Nat}
theorem HZ {x y d:Tmp} {elem ty:TypeId} {yb:Nat} {cells row:List Value} (hA:BX c k x y d elem sz) (hn:n≤1000) (hrow:row.length=sz) (hok:∀v∈row,v.oneCell'=true)
  (h:dP us gs ls a w) (ex_:us[x]?=some (some (dJ S))) (ey:us[y]?=some (some (.slice (some ⟨yb,0,none⟩) 1 1))) (hy:w.heap[yb]?=some (.cells ⟨row⟩ ty (0,0))) (hG:Grow w S sz elem n cells) (hfar:∀g∈blk S,g∉gs.map (·.1)++ls.map (·.1))
  (hQ:∀(w':World) (S':dY),Grow w' S' sz elem (n+1) (cells++row)→dO w (blk S) w'→(∀g∈blk S',g∈blk S∨w.heap.size≤g)→dP (us.set d (some (dJ S'))) gs ls (a.put (some d) (dJ S')) w'→wpList aa (opsOf c).toArray Q ((opsOf c).drop (k+1)) (a.put (some d) (dJ S')) w') :
  wpList aa (opsOf c).toArray Q ((opsOf c).drop k) a w:=by
 obtain ⟨o,tS,tX,e',ti,z,h1,h2,h3,h4,h5,h6,h7,h8,h9,rfl,hb⟩:=hA.h
 rw [h1]
 refine alP h2 h4 h5 h6 h7 h8 h9 (aZ (Nat.mul_le_mul (aZ (by omega:2*(n+1)+200≤3000) (au 3000)) hb) (by decide)) (by omega) hrow hok (GV h ex_) (GV h ey) hy hG fun w' S' hG' hg=>?_
 rw [h3]
 have hlt:=qE h
 have hfr:∀g∈gs.map (·.1)++ls.map (·.1),w'.heap[g]?=w.heap[g]?:=fun g hg'=>hg.frame g (hlt g hg') fun a ha e=>hfar g (by rw [vH ha,e]; simp) hg'
 refine hQ w' S' hG' hg.keep (fun g hg'=>?_) (BG (BF h d (dJ S')) hfr)
 obtain ⟨b,hb',rfl⟩:=ZA hg'
 obtain ⟨g,e,hh⟩:=hg.home
 rw [hb'] at e; injection e with e; subst e
 rcases hh with ⟨a,ha,e⟩ | hh
 ·exact .inl (by rw [vH ha]; simpa using e.symm)
 ·exact .inr hh
theorem jG {nc:Nat} {r l:List Nat}:∀c,(nc::r).head?=some c→(nc::l)[0]?=some c:=fun _ h=>h
def Kg:Value→Option (Nat×Nat)
 | .slice (some ⟨q,0,none⟩) n c=>bif ay n c then some (q,n) else none
 | _=>none
theorem Zp {v:Value} {q:Nat} (h:Kg v=some (q,n)):v=.slice (some ⟨q,0,none⟩) n n:=by
 unfold Kg at h
 split at h
 ·rename_i q' n' c
  cases hb:ay n' c with
  | false=>rw [hb] at h; cases h
  | true =>
   rw [hb] at h
   simp only [cond_true,ak,aP] at h
   obtain ⟨rfl,rfl⟩:=h
   rw [bf hb]
 ·cases h
def Cn (E:Env) (q:Pl) (ib k:Nat) (s:St):Option ((Bool×TypeId×Nat)×List (Option Value)×Option ((Bool×Nat×TypeId)×Nat×Option (List Value)×Nat)) :=
 (s.loc[ib]?).map fun b=>((ownB b,b.elem,b.cells.length),b.cells.map (fP E q 4),((b.cells[k]?).bind Kg).bind fun x=>(s.H[x.1]?).map fun bq=>((bq.live&&bq.loose,bq.eD,bq.elem),x.2,eQ (fP E q 4) bq.cells,bq.cells.length))
theorem Kh {E:Env} {q:Pl} {m0 m':Mp} {H0:Hp} {s:St} {a':Act} (hs:jQ m0 H0 w0 s m' a' w') (hE:m'.env=E) (hA:At q m') {ib gb len ln:Nat} {e2:TypeId} {ev:List (Option Value)} (h1:q.lp[ib]?=some (gb,0)) (hc:Cn E q ib k s=some ((true,e,len),ev,some ((true,sz,e2),n,some vs,ln))) (hn:n≠0) (hl:ln=n*sz) :
  ∃(S:dY) (cb:Array Value),w'.heap[gb]?=some (.cells cb e (0,0))∧cb.size=len∧cb[k]?=some (dJ S)∧(∀(j:Nat) (u:Value),ev[j]?=some (some u)→cb[j]?=some u)∧Grow w' S sz e2 n vs∧∃g,S.1=some ⟨g,0,none⟩∧((∃j,m0.gb j=some g)∨w0.heap.size≤g):=by
 unfold Cn at hc
 obtain ⟨b,hb,hc1⟩:=aR.1 hc
 simp only [aP] at hc1
 obtain ⟨⟨c1,rfl,rfl⟩,rfl,hc2⟩:=hc1
 obtain ⟨⟨qi,n'⟩,c2,hc3⟩:=Option.bind_eq_some_iff.1 hc2
 obtain ⟨v,v1,v2⟩:=Option.bind_eq_some_iff.1 c2
 have:=Zp v2
 subst this
 obtain ⟨bq,hq,hc4⟩:=aR.1 hc3
 simp only [aP,aQ] at hc4
 obtain ⟨⟨c3,rfl,rfl⟩,rfl,c4,rfl⟩:=hc4
 obtain ⟨S,cb,k1,k2,k3,k4,k5,g,k6,k7⟩:=Zq hs hE hA h1 hb c1 v1 hn hq c3 hl c4
 refine ⟨S,cb,k1,k2,k3,fun j u hj=>?_,k5,g,k6,hs.ext.img _ _ k7⟩
 simp only [bY,aR] at hj
 obtain ⟨v,v3,v4⟩:=hj
 exact k4 j v u v3 v4
end Go.Proofs
end
section
namespace Go.Proofs
open Go.Sm Go.RowKit En
abbrev iF:=Nat→Int
def pl (P:iF):List Int:=(dh 24).map P
def gT (P:iF):List Value:=(pl P).map num
def fE (j:JV):List Int:=[j.kind,j.parent,j.o0,j.o1,j.o2,j.lo,j.hi,j.weight,j.speed,j.iL,j.iO]
def pg (i:Nat) (l:List Int):V6:=⟨FN i l,FN (i+1) l,FN (i+2) l,FN (i+3) l,FN (i+4) l,FN (i+5) l⟩
def nz (kind:Int) (P:iF):V6:=pg 249 (kind::(dh 18).map P)
def kM (P:iF):V6:=⟨P 18,P 19,P 20,P 21,P 22,P 23⟩
theorem Ii:(dN aD)=o7 [dZ (dN aD),jM (dN aD),nP (dN aD),dZ (sR 3 (dN aD)),dZ (sR 4 (dN aD))] (.seq (CS (dN aD)) (sR 6 (dN aD))):=by kernel_rfl
theorem Ij {cb:Array Value} {a b c d e:Value} (h:cb.size=5) (h0:cb[0]?=some a) (h1:cb[1]?=some b) (h2:cb[2]?=some c) (h3:cb[3]?=some d) (h4:cb[4]?=some e):cb=#[a,b,c,d,e]:=by
 obtain ⟨l⟩:=cb
 match l,h with
 | [x0,x1,x2,x3,x4],_ =>
  simp only [List.getElem?_toArray,List.getElem?_cons_zero,aeW,ak] at h0 h1 h2 h3 h4
  subst h0 h1 h2 h3 h4
  rfl
variable {w0 w:World} {a:Act} {nc b0 o0:Nat} {f:Bool} {B0 B1 X:dY} {m:Int} {j0:JV} {P0:iF} {Q:Exit→Act→World→Prop} {D:Code}
theorem hd1 (hB0:B0.2.1=1) (hB1:(B1.2.1:Int)=m) (hw0:fu w0 [nc] B0 0 12 b0 o0 j0.vals)
  (hQ:∀x∈([⟨68,[.agg ⟨[dM 0,dM 1]⟩,dM 2],.row false 1 1 (dQ [var 12,var 13,var 14,var 15,var 16,var 17,var 18,var 19,var 20,var 21,var 22,var 23,var 24,var 25,var 26,var 27,var 28,var 29,var 30,var 31,var 32,var 33,var 34,var 35] 135)⟩]:List Qt),jB aa (gB (w0,[nc]) ([m]++fE j0++pl P0) [f] [B0,B1,X]) x)
  (hown:∀q∈[nc]++[],q∈([nc]:List Nat)∨w0.heap.size≤q) (h:dP (dS 137 [(0,dK nc),(1,.agg ⟨[dJ B0,dJ B1]⟩),(2,dJ X)]) [(nc,[.bool f],88)] [] a w) (hk:dO w0 [nc] w)
  (hK:∀(a':Act) (w':World) (gL g9 nr n6 nb:Nat) (A:dY),(∀q∈[gL,g9,nr,n6,nb],w.heap.size≤q∧q<w'.heap.size)→[nc,gL,g9,nr,n6,nb].Nodup→dP (dS 137 [(0,dK nc),(4,dK nr),(6,dK n6),(7,.slice (some ⟨gL,0,none⟩) 1 1),(8,dK nb),(9,.slice (some ⟨g9,0,none⟩) 1 1)]) [(nc,[.bool f],88),(gL,([P0].flatMap gT),135),(g9,([P0].flatMap fun P=>(kM P).cs nc),98)] [(nr,[dJ B0,dJ B1],35),(n6,[.pointer none,.slice none 0 0,.slice none 0 0,.slice none 0 0,.slice none 0 0],92)] a' w'→w'.heap[nb]?=some (.cells #[dK nc,dJ B0,dJ B1,dJ A,.slice none 0 0] 92 (0,0))→Grow w' A 7 98 1 ([nz j0.kind P0].flatMap fun v=>v.cs nc)→(∃g,A.1=some ⟨g,0,none⟩∧w.heap.size≤g)→dO w0 [nc] w'→D.wp aa Q a' w'):(o7 [dZ (dN aD),jM (dN aD),nP (dN aD),dZ (sR 3 (dN aD)),dZ (sR 4 (dN aD))] D).wp aa Q a w:=by
 have hnc:∃cs,w.heap[nc]?=some (.cells cs 88 (0,0)):=⟨_,h.gl _ aA⟩
 refine Il ([m]++fE j0++pl P0) [f] [B0,B1,X] (g:=[]) (wt:=[(0,.int .i64 0,12,0)]) (lt:=[(0,.int .i64 1),(1,var 0)]) (t:={ QT:=[⟨68,[.agg ⟨[dM 0,dM 1]⟩,dM 2],.row false 1 1 (dQ [var 12,var 13,var 14,var 15,var 16,var 17,var 18,var 19,var 20,var 21,var 22,var 23,var 24,var 25,var 26,var 27,var 28,var 29,var 30,var 31,var 32,var 33,var 34,var 35] 135)⟩] }) (ws:=[(b0,o0,j0.vals)]) (fr:=fK 137 [(0,.pointer (some ⟨0,0,none⟩)),(1,.agg ⟨[dM 0,dM 1]⟩),(2,dM 2)]) (H:=[dQ [mB 1 [.int .i64 0]] 88]) (lo:=[]) (wb:=[dU [.string j0.name,var 1,var 2,var 3,var 4,var 5,var 6,var 7,var 8,var 9,var 10,var 11]]) (gs:=[(nc,[.bool f],88)]) (ls:=[]) (us':=fun gn nl=>dS 137 [(0,dK nc),(4,dK (nl.getD 0 0)),(6,dK (nl.getD 1 0)),(7,.slice (some ⟨(gn.getD 0 0),0,none⟩) 1 1),(8,dK (nl.getD 2 0)),(9,.slice (some ⟨(gn.getD 1 0),0,none⟩) 1 1)]) (gs':=fun gn nl=>[(nc,[.bool f],88),((gn.getD 0 0),([P0].flatMap gT),135),((gn.getD 1 0),([P0].flatMap fun P=>(kM P).cs nc),98)]) (ls':=fun gn nl=>[((nl.getD 0 0),[dJ B0,dJ B1],35),((nl.getD 1 0),[.pointer none,.slice none 0 0,.slice none 0 0,.slice none 0 0,.slice none 0 0],92)]) 41 _ [0,1,2] [1,2] [7,9] [4,6,8]
  (fun nl w'=>nl.length=3→∃(S:dY) (cb:Array Value),w'.heap[nl.getD 2 0]?=some (.cells cb 92 (0,0))∧cb.size=5∧cb[3]?=some (dJ S)∧(∀(j:Nat) (u:Value),[some (dK nc),some (dJ B0),some (dJ B1),none,some (.slice none 0 0)][j]?=some (some u)→cb[j]?=some u)∧Grow w' S 7 98 1 ([nz j0.kind P0].flatMap fun v=>v.cs nc)∧∃g,S.1=some ⟨g,0,none⟩∧((∃j,(iC (gB (w0,[nc]) ([m]++fE j0++pl P0) [f] [B0,B1,X]) (eH [(nc,[.bool f],88)] [] [(b0,o0,j0.vals)]) w).gb j=some g)∨w.heap.size≤g))
  (fun gn nl e1 e2=>?_) (by kernel_rfl) (fun gn nl e1 e2 e3=>?_) ⟨fB _,yA hQ,?_,(by exact hown),gH,fun _=>?_⟩ h hk (fun s' m' a' w' nl hr hs hA=>?_) (fun a' w' gn nl hR e1 e2 e3 e4 hs hk'=>?_)
 ·match gn,nl,e1,e2 with
  | [gL,g9],[nr,n6,nb],_,_=>show (_:Option _)=_; kernel_rfl
 ·match gn,nl,e1,e2 with
  | [gL,g9],[nr,n6,nb],_,_ =>
   have:=oP e3
   simp only [dI,ae9,dw,dD,bN,bZ,ag5,ag,ae,or_false,not_or] at this ⊢
   obtain ⟨⟨a1,a2,a3,a4,a5⟩,⟨a6,a7,a8,a9⟩,⟨b1,b2,b3⟩,⟨b4,b5⟩,_⟩:=this
   exact ⟨⟨a1,a2,a3,a4⟩,⟨a6,a7,a8⟩,⟨b1,b2⟩,b4,(by simp),List.nodup_nil⟩
 ·intro x hx
  simp only [ag,ae,or_false] at hx
  rcases hx with rfl
  ·exact hw0.wf
 ·refine ⟨fun e he=>?_,fun e he=>?_,fun e he=>by cases he⟩
  ·simp only [fG,ag,ae,or_false] at he
   rcases he with rfl
   ·obtain ⟨z0,z1,z2,z3,z4⟩:=hw0.pl
    exact ⟨⟨b0,z0,none⟩,B0.2.1,B0.2.2,0,2,(by show B0=_; rw [←z1]),rfl,rfl,z2,z3,rfl,z4⟩
  ·simp only [fG,ag,ae,or_false] at he
   rcases he with rfl | rfl
   ·exact ⟨2,by show some (num 1)=some (.int .i64 (B0.2.1:Nat)); rw [hB0]; rfl⟩
   ·exact ⟨2,by show some (num m)=some (.int .i64 (B1.2.1:Nat)); rw [←hB1]; rfl⟩
 ·intro hl
  match nl,hl with
  | [nr,n6,nb],_ =>
  have hc:(qK aa (fG (w0,[nc]) ([m]++fE j0++pl P0) [f] [B0,B1,X] [] [(0,.int .i64 0,12,0)] [(0,.int .i64 1),(1,var 0)] []) (tF aa Tryz.esc (w0,[nc]) ([m]++fE j0++pl P0) [f] [B0,B1,X] [] [(0,.int .i64 1),(1,var 0)] { QT:=[⟨68,[.agg ⟨[dM 0,dM 1]⟩,dM 2],.row false 1 1 (dQ [var 12,var 13,var 14,var 15,var 16,var 17,var 18,var 19,var 20,var 21,var 22,var 23,var 24,var 25,var 26,var 27,var 28,var 29,var 30,var 31,var 32,var 33,var 34,var 35] 135)⟩] }) (Tryz.esc 41) 200 [dZ (dN aD),jM (dN aD),nP (dN aD),dZ (sR 3 (dN aD)),dZ (sR 4 (dN aD))] ⟨fK 137 [(0,.pointer (some ⟨0,0,none⟩)),(1,.agg ⟨[dM 0,dM 1]⟩),(2,dM 2)],[dQ [mB 1 [.int .i64 0]] 88],[]++[dU [.string j0.name,var 1,var 2,var 3,var 4,var 5,var 6,var 7,var 8,var 9,var 10,var 11]],[]⟩).map (Cn (gB (w0,[nc]) ([m]++fE j0++pl P0) [f] [B0,B1,X]) ⟨[nc],(eH [(nc,[.bool f],88)] [] [(b0,o0,j0.vals)]).lp++[(nr,0),(n6,0),(nb,0)]⟩ 3 3)=some (some ((true,92,5),[some (dK nc),some (dJ B0),some (dJ B1),none,some (.slice none 0 0)],some ((true,7,98),1,some ([nz j0.kind P0].flatMap fun v=>v.cs nc),7))):=by kernel_rfl
  rw [hr] at hc
  simp only [Option.map_some,ak] at hc
  exact Kh hs hs.ext.le.env hA rfl hc (by decide) (by decide)
 ·match gn,nl,e1,e2 with
  | [gL,g9],[nr,n6,nb],_,_ =>
   simp only [bN,bZ] at hs hR
   obtain ⟨A,cb,k1,k2,k3,k4,k5,g,k6,k7⟩:=hR rfl
   have hcb:cb=#[dK nc,dJ B0,dJ B1,dJ A,.slice none 0 0]:=Ij k2 (k4 0 _ rfl) (k4 1 _ rfl) (k4 2 _ rfl) k3 (k4 4 _ rfl)
   subst hcb
   refine hK a' w' gL g9 nr n6 nb A (fun q hq=>e4 q hq) (oP e3) hs k1 k5 ⟨g,k6,?_⟩ hk'
   rcases k7 with ⟨j,hj⟩ | k7
   ·exfalso
    have hg:g=nc:=by
     match j,hj with
     | 0,hj=>exact (Option.some.inj hj).symm
     | _+1,hj=>cases hj
    subst hg
    obtain ⟨g',cs,q1,q2,_⟩:=k5.blk _ k6
    injection q1 with q1; subst q1
    have q3:=hs.gl _ aA
    rw [q2] at q3
    injection q3 with q3
    injection q3 with _ q3
    exact absurd (show (98:Nat)=88 from q3) (by decide)
   ·exact k7
variable {j1:JV} {P1:iF} {b1 o1:Nat}
theorem hd2 (hB0:B0.2.1=2) (hB1:(B1.2.1:Int)=m) (hw0:fu w0 [nc] B0 0 12 b0 o0 j0.vals) (hw1:fu w0 [nc] B0 1 12 b1 o1 j1.vals)
  (hQ:∀x∈([⟨68,[.agg ⟨[dM 0,dM 1]⟩,dM 2],.row false 2 2 (dQ [var 23,var 24,var 25,var 26,var 27,var 28,var 29,var 30,var 31,var 32,var 33,var 34,var 35,var 36,var 37,var 38,var 39,var 40,var 41,var 42,var 43,var 44,var 45,var 46,var 47,var 48,var 49,var 50,var 51,var 52,var 53,var 54,var 55,var 56,var 57,var 58,var 59,var 60,var 61,var 62,var 63,var 64,var 65,var 66,var 67,var 68,var 69,var 70] 135)⟩]:List Qt),jB aa (gB (w0,[nc]) ([m]++fE j0++fE j1++pl P0++pl P1) [f] [B0,B1,X]) x)
  (hown:∀q∈[nc]++[],q∈([nc]:List Nat)∨w0.heap.size≤q) (h:dP (dS 137 [(0,dK nc),(1,.agg ⟨[dJ B0,dJ B1]⟩),(2,dJ X)]) [(nc,[.bool f],88)] [] a w) (hk:dO w0 [nc] w)
  (hK:∀(a':Act) (w':World) (gL g9 nr n6 nb:Nat) (A:dY),(∀q∈[gL,g9,nr,n6,nb],w.heap.size≤q∧q<w'.heap.size)→[nc,gL,g9,nr,n6,nb].Nodup→dP (dS 137 [(0,dK nc),(4,dK nr),(6,dK n6),(7,.slice (some ⟨gL,0,none⟩) 2 2),(8,dK nb),(9,.slice (some ⟨g9,0,none⟩) 2 2)]) [(nc,[.bool f],88),(gL,([P0,P1].flatMap gT),135),(g9,([P0,P1].flatMap fun P=>(kM P).cs nc),98)] [(nr,[dJ B0,dJ B1],35),(n6,[.pointer none,.slice none 0 0,.slice none 0 0,.slice none 0 0,.slice none 0 0],92)] a' w'→w'.heap[nb]?=some (.cells #[dK nc,dJ B0,dJ B1,dJ A,.slice none 0 0] 92 (0,0))→Grow w' A 7 98 2 ([nz j0.kind P0,nz j1.kind P1].flatMap fun v=>v.cs nc)→(∃g,A.1=some ⟨g,0,none⟩∧w.heap.size≤g)→dO w0 [nc] w'→D.wp aa Q a' w'):(o7 [dZ (dN aD),jM (dN aD),nP (dN aD),dZ (sR 3 (dN aD)),dZ (sR 4 (dN aD))] D).wp aa Q a w:=by
 have hnc:∃cs,w.heap[nc]?=some (.cells cs 88 (0,0)):=⟨_,h.gl _ aA⟩
 refine Il ([m]++fE j0++fE j1++pl P0++pl P1) [f] [B0,B1,X] (g:=[]) (wt:=[(0,.int .i64 0,12,0),(0,.int .i64 1,12,1)]) (lt:=[(0,.int .i64 2),(1,var 0)]) (t:={ QT:=[⟨68,[.agg ⟨[dM 0,dM 1]⟩,dM 2],.row false 2 2 (dQ [var 23,var 24,var 25,var 26,var 27,var 28,var 29,var 30,var 31,var 32,var 33,var 34,var 35,var 36,var 37,var 38,var 39,var 40,var 41,var 42,var 43,var 44,var 45,var 46,var 47,var 48,var 49,var 50,var 51,var 52,var 53,var 54,var 55,var 56,var 57,var 58,var 59,var 60,var 61,var 62,var 63,var 64,var 65,var 66,var 67,var 68,var 69,var 70] 135)⟩] }) (ws:=[(b0,o0,j0.vals),(b1,o1,j1.vals)]) (fr:=fK 137 [(0,.pointer (some ⟨0,0,none⟩)),(1,.agg ⟨[dM 0,dM 1]⟩),(2,dM 2)]) (H:=[dQ [mB 1 [.int .i64 0]] 88]) (lo:=[]) (wb:=[dU [.string j0.name,var 1,var 2,var 3,var 4,var 5,var 6,var 7,var 8,var 9,var 10,var 11],dU [.string j1.name,var 12,var 13,var 14,var 15,var 16,var 17,var 18,var 19,var 20,var 21,var 22]]) (gs:=[(nc,[.bool f],88)]) (ls:=[]) (us':=fun gn nl=>dS 137 [(0,dK nc),(4,dK (nl.getD 0 0)),(6,dK (nl.getD 1 0)),(7,.slice (some ⟨(gn.getD 0 0),0,none⟩) 2 2),(8,dK (nl.getD 2 0)),(9,.slice (some ⟨(gn.getD 1 0),0,none⟩) 2 2)]) (gs':=fun gn nl=>[(nc,[.bool f],88),((gn.getD 0 0),([P0,P1].flatMap gT),135),((gn.getD 1 0),([P0,P1].flatMap fun P=>(kM P).cs nc),98)]) (ls':=fun gn nl=>[((nl.getD 0 0),[dJ B0,dJ B1],35),((nl.getD 1 0),[.pointer none,.slice none 0 0,.slice none 0 0,.slice none 0 0,.slice none 0 0],92)]) 41 _ [0,1,2] [2,3] [7,9] [4,6,8]
  (fun nl w'=>nl.length=3→∃(S:dY) (cb:Array Value),w'.heap[nl.getD 2 0]?=some (.cells cb 92 (0,0))∧cb.size=5∧cb[3]?=some (dJ S)∧(∀(j:Nat) (u:Value),[some (dK nc),some (dJ B0),some (dJ B1),none,some (.slice none 0 0)][j]?=some (some u)→cb[j]?=some u)∧Grow w' S 7 98 2 ([nz j0.kind P0,nz j1.kind P1].flatMap fun v=>v.cs nc)∧∃g,S.1=some ⟨g,0,none⟩∧((∃j,(iC (gB (w0,[nc]) ([m]++fE j0++fE j1++pl P0++pl P1) [f] [B0,B1,X]) (eH [(nc,[.bool f],88)] [] [(b0,o0,j0.vals),(b1,o1,j1.vals)]) w).gb j=some g)∨w.heap.size≤g))
  (fun gn nl e1 e2=>?_) (by kernel_rfl) (fun gn nl e1 e2 e3=>?_) ⟨fB _,yA hQ,?_,(by exact hown),gH,fun _=>?_⟩ h hk (fun s' m' a' w' nl hr hs hA=>?_) (fun a' w' gn nl hR e1 e2 e3 e4 hs hk'=>?_)
 ·match gn,nl,e1,e2 with
  | [gL,g9],[nr,n6,nb],_,_=>show (_:Option _)=_; kernel_rfl
 ·match gn,nl,e1,e2 with
  | [gL,g9],[nr,n6,nb],_,_ =>
   have:=oP e3
   simp only [dI,ae9,dw,dD,bN,bZ,ag5,ag,ae,or_false,not_or] at this ⊢
   obtain ⟨⟨a1,a2,a3,a4,a5⟩,⟨a6,a7,a8,a9⟩,⟨b1,b2,b3⟩,⟨b4,b5⟩,_⟩:=this
   exact ⟨⟨a1,a2,a3,a4⟩,⟨a6,a7,a8⟩,⟨b1,b2⟩,b4,(by simp),List.nodup_nil⟩
 ·intro x hx
  simp only [ag,ae,or_false] at hx
  rcases hx with rfl | rfl
  ·exact hw0.wf
  ·exact hw1.wf
 ·refine ⟨fun e he=>?_,fun e he=>?_,fun e he=>by cases he⟩
  ·simp only [fG,ag,ae,or_false] at he
   rcases he with rfl | rfl
   ·obtain ⟨z0,z1,z2,z3,z4⟩:=hw0.pl
    exact ⟨⟨b0,z0,none⟩,B0.2.1,B0.2.2,0,2,(by show B0=_; rw [←z1]),rfl,rfl,z2,z3,rfl,z4⟩
   ·obtain ⟨z0,z1,z2,z3,z4⟩:=hw1.pl
    exact ⟨⟨b1,z0,none⟩,B0.2.1,B0.2.2,1,2,(by show B0=_; rw [←z1]),rfl,rfl,z2,z3,rfl,z4⟩
  ·simp only [fG,ag,ae,or_false] at he
   rcases he with rfl | rfl
   ·exact ⟨2,by show some (num 2)=some (.int .i64 (B0.2.1:Nat)); rw [hB0]; rfl⟩
   ·exact ⟨2,by show some (num m)=some (.int .i64 (B1.2.1:Nat)); rw [←hB1]; rfl⟩
 ·intro hl
  match nl,hl with
  | [nr,n6,nb],_ =>
  have hc:(qK aa (fG (w0,[nc]) ([m]++fE j0++fE j1++pl P0++pl P1) [f] [B0,B1,X] [] [(0,.int .i64 0,12,0),(0,.int .i64 1,12,1)] [(0,.int .i64 2),(1,var 0)] []) (tF aa Tryz.esc (w0,[nc]) ([m]++fE j0++fE j1++pl P0++pl P1) [f] [B0,B1,X] [] [(0,.int .i64 2),(1,var 0)] { QT:=[⟨68,[.agg ⟨[dM 0,dM 1]⟩,dM 2],.row false 2 2 (dQ [var 23,var 24,var 25,var 26,var 27,var 28,var 29,var 30,var 31,var 32,var 33,var 34,var 35,var 36,var 37,var 38,var 39,var 40,var 41,var 42,var 43,var 44,var 45,var 46,var 47,var 48,var 49,var 50,var 51,var 52,var 53,var 54,var 55,var 56,var 57,var 58,var 59,var 60,var 61,var 62,var 63,var 64,var 65,var 66,var 67,var 68,var 69,var 70] 135)⟩] }) (Tryz.esc 41) 200 [dZ (dN aD),jM (dN aD),nP (dN aD),dZ (sR 3 (dN aD)),dZ (sR 4 (dN aD))] ⟨fK 137 [(0,.pointer (some ⟨0,0,none⟩)),(1,.agg ⟨[dM 0,dM 1]⟩),(2,dM 2)],[dQ [mB 1 [.int .i64 0]] 88],[]++[dU [.string j0.name,var 1,var 2,var 3,var 4,var 5,var 6,var 7,var 8,var 9,var 10,var 11],dU [.string j1.name,var 12,var 13,var 14,var 15,var 16,var 17,var 18,var 19,var 20,var 21,var 22]],[]⟩).map (Cn (gB (w0,[nc]) ([m]++fE j0++fE j1++pl P0++pl P1) [f] [B0,B1,X]) ⟨[nc],(eH [(nc,[.bool f],88)] [] [(b0,o0,j0.vals),(b1,o1,j1.vals)]).lp++[(nr,0),(n6,0),(nb,0)]⟩ 4 3)=some (some ((true,92,5),[some (dK nc),some (dJ B0),some (dJ B1),none,some (.slice none 0 0)],some ((true,7,98),2,some ([nz j0.kind P0,nz j1.kind P1].flatMap fun v=>v.cs nc),14))):=by kernel_rfl
  rw [hr] at hc
  simp only [Option.map_some,ak] at hc
  exact Kh hs hs.ext.le.env hA rfl hc (by decide) (by decide)
 ·match gn,nl,e1,e2 with
  | [gL,g9],[nr,n6,nb],_,_ =>
   simp only [bN,bZ] at hs hR
   obtain ⟨A,cb,k1,k2,k3,k4,k5,g,k6,k7⟩:=hR rfl
   have hcb:cb=#[dK nc,dJ B0,dJ B1,dJ A,.slice none 0 0]:=Ij k2 (k4 0 _ rfl) (k4 1 _ rfl) (k4 2 _ rfl) k3 (k4 4 _ rfl)
   subst hcb
   refine hK a' w' gL g9 nr n6 nb A (fun q hq=>e4 q hq) (oP e3) hs k1 k5 ⟨g,k6,?_⟩ hk'
   rcases k7 with ⟨j,hj⟩ | k7
   ·exfalso
    have hg:g=nc:=by
     match j,hj with
     | 0,hj=>exact (Option.some.inj hj).symm
     | _+1,hj=>cases hj
    subst hg
    obtain ⟨g',cs,q1,q2,_⟩:=k5.blk _ k6
    injection q1 with q1; subst q1
    have q3:=hs.gl _ aA
    rw [q2] at q3
    injection q3 with q3
    injection q3 with _ q3
    exact absurd (show (98:Nat)=88 from q3) (by decide)
   ·exact k7
theorem hd3 {j2:JV} {P2:iF} (hB0:B0.2.1=3) (hB1:(B1.2.1:Int)=m) (hw0:fu w0 [nc] B0 0 12 b0 o0 j0.vals) (hw1:fu w0 [nc] B0 1 12 b1 o1 j1.vals) {b2 o2:Nat} (hw2:fu w0 [nc] B0 2 12 b2 o2 j2.vals)
  (hQ:∀x∈([⟨68,[.agg ⟨[dM 0,dM 1]⟩,dM 2],.row false 3 3 (dQ [var 34,var 35,var 36,var 37,var 38,var 39,var 40,var 41,var 42,var 43,var 44,var 45,var 46,var 47,var 48,var 49,var 50,var 51,var 52,var 53,var 54,var 55,var 56,var 57,var 58,var 59,var 60,var 61,var 62,var 63,var 64,var 65,var 66,var 67,var 68,var 69,var 70,var 71,var 72,var 73,var 74,var 75,var 76,var 77,var 78,var 79,var 80,var 81,var 82,var 83,var 84,var 85,var 86,var 87,var 88,var 89,var 90,var 91,var 92,var 93,var 94,var 95,var 96,var 97,var 98,var 99,var 100,var 101,var 102,var 103,var 104,var 105] 135)⟩]:List Qt),jB aa (gB (w0,[nc]) ([m]++fE j0++fE j1++fE j2++pl P0++pl P1++pl P2) [f] [B0,B1,X]) x)
  (hown:∀q∈[nc]++[],q∈([nc]:List Nat)∨w0.heap.size≤q) (h:dP (dS 137 [(0,dK nc),(1,.agg ⟨[dJ B0,dJ B1]⟩),(2,dJ X)]) [(nc,[.bool f],88)] [] a w) (hk:dO w0 [nc] w)
  (hK:∀(a':Act) (w':World) (gL g9 nr n6 nb:Nat) (A:dY),(∀q∈[gL,g9,nr,n6,nb],w.heap.size≤q∧q<w'.heap.size)→[nc,gL,g9,nr,n6,nb].Nodup→dP (dS 137 [(0,dK nc),(4,dK nr),(6,dK n6),(7,.slice (some ⟨gL,0,none⟩) 3 3),(8,dK nb),(9,.slice (some ⟨g9,0,none⟩) 3 3)]) [(nc,[.bool f],88),(gL,([P0,P1,P2].flatMap gT),135),(g9,([P0,P1,P2].flatMap fun P=>(kM P).cs nc),98)] [(nr,[dJ B0,dJ B1],35),(n6,[.pointer none,.slice none 0 0,.slice none 0 0,.slice none 0 0,.slice none 0 0],92)] a' w'→w'.heap[nb]?=some (.cells #[dK nc,dJ B0,dJ B1,dJ A,.slice none 0 0] 92 (0,0))→Grow w' A 7 98 3 ([nz j0.kind P0,nz j1.kind P1,nz j2.kind P2].flatMap fun v=>v.cs nc)→(∃g,A.1=some ⟨g,0,none⟩∧w.heap.size≤g)→dO w0 [nc] w'→D.wp aa Q a' w'):(o7 [dZ (dN aD),jM (dN aD),nP (dN aD),dZ (sR 3 (dN aD)),dZ (sR 4 (dN aD))] D).wp aa Q a w:=by
 have hnc:∃cs,w.heap[nc]?=some (.cells cs 88 (0,0)):=⟨_,h.gl _ aA⟩
 refine Il ([m]++fE j0++fE j1++fE j2++pl P0++pl P1++pl P2) [f] [B0,B1,X] (g:=[]) (wt:=[(0,.int .i64 0,12,0),(0,.int .i64 1,12,1),(0,.int .i64 2,12,2)]) (lt:=[(0,.int .i64 3),(1,var 0)]) (t:={ QT:=[⟨68,[.agg ⟨[dM 0,dM 1]⟩,dM 2],.row false 3 3 (dQ [var 34,var 35,var 36,var 37,var 38,var 39,var 40,var 41,var 42,var 43,var 44,var 45,var 46,var 47,var 48,var 49,var 50,var 51,var 52,var 53,var 54,var 55,var 56,var 57,var 58,var 59,var 60,var 61,var 62,var 63,var 64,var 65,var 66,var 67,var 68,var 69,var 70,var 71,var 72,var 73,var 74,var 75,var 76,var 77,var 78,var 79,var 80,var 81,var 82,var 83,var 84,var 85,var 86,var 87,var 88,var 89,var 90,var 91,var 92,var 93,var 94,var 95,var 96,var 97,var 98,var 99,var 100,var 101,var 102,var 103,var 104,var 105] 135)⟩] }) (ws:=[(b0,o0,j0.vals),(b1,o1,j1.vals),(b2,o2,j2.vals)]) (fr:=fK 137 [(0,.pointer (some ⟨0,0,none⟩)),(1,.agg ⟨[dM 0,dM 1]⟩),(2,dM 2)]) (H:=[dQ [mB 1 [.int .i64 0]] 88]) (lo:=[]) (wb:=[dU [.string j0.name,var 1,var 2,var 3,var 4,var 5,var 6,var 7,var 8,var 9,var 10,var 11],dU [.string j1.name,var 12,var 13,var 14,var 15,var 16,var 17,var 18,var 19,var 20,var 21,var 22],dU [.string j2.name,var 23,var 24,var 25,var 26,var 27,var 28,var 29,var 30,var 31,var 32,var 33]]) (gs:=[(nc,[.bool f],88)]) (ls:=[]) (us':=fun gn nl=>dS 137 [(0,dK nc),(4,dK (nl.getD 0 0)),(6,dK (nl.getD 1 0)),(7,.slice (some ⟨(gn.getD 0 0),0,none⟩) 3 3),(8,dK (nl.getD 2 0)),(9,.slice (some ⟨(gn.getD 1 0),0,none⟩) 3 3)]) (gs':=fun gn nl=>[(nc,[.bool f],88),((gn.getD 0 0),([P0,P1,P2].flatMap gT),135),((gn.getD 1 0),([P0,P1,P2].flatMap fun P=>(kM P).cs nc),98)]) (ls':=fun gn nl=>[((nl.getD 0 0),[dJ B0,dJ B1],35),((nl.getD 1 0),[.pointer none,.slice none 0 0,.slice none 0 0,.slice none 0 0,.slice none 0 0],92)]) 41 _ [0,1,2] [3,4] [7,9] [4,6,8]
  (fun nl w'=>nl.length=3→∃(S:dY) (cb:Array Value),w'.heap[nl.getD 2 0]?=some (.cells cb 92 (0,0))∧cb.size=5∧cb[3]?=some (dJ S)∧(∀(j:Nat) (u:Value),[some (dK nc),some (dJ B0),some (dJ B1),none,some (.slice none 0 0)][j]?=some (some u)→cb[j]?=some u)∧Grow w' S 7 98 3 ([nz j0.kind P0,nz j1.kind P1,nz j2.kind P2].flatMap fun v=>v.cs nc)∧∃g,S.1=some ⟨g,0,none⟩∧((∃j,(iC (gB (w0,[nc]) ([m]++fE j0++fE j1++fE j2++pl P0++pl P1++pl P2) [f] [B0,B1,X]) (eH [(nc,[.bool f],88)] [] [(b0,o0,j0.vals),(b1,o1,j1.vals),(b2,o2,j2.vals)]) w).gb j=some g)∨w.heap.size≤g))
  (fun gn nl e1 e2=>?_) (by kernel_rfl) (fun gn nl e1 e2 e3=>?_) ⟨fB _,yA hQ,?_,(by exact hown),gH,fun _=>?_⟩ h hk (fun s' m' a' w' nl hr hs hA=>?_) (fun a' w' gn nl hR e1 e2 e3 e4 hs hk'=>?_)
 ·match gn,nl,e1,e2 with
  | [gL,g9],[nr,n6,nb],_,_=>show (_:Option _)=_; kernel_rfl
 ·match gn,nl,e1,e2 with
  | [gL,g9],[nr,n6,nb],_,_ =>
   have:=oP e3
   simp only [dI,ae9,dw,dD,bN,bZ,ag5,ag,ae,or_false,not_or] at this ⊢
   obtain ⟨⟨a1,a2,a3,a4,a5⟩,⟨a6,a7,a8,a9⟩,⟨b1,b2,b3⟩,⟨b4,b5⟩,_⟩:=this
   exact ⟨⟨a1,a2,a3,a4⟩,⟨a6,a7,a8⟩,⟨b1,b2⟩,b4,(by simp),List.nodup_nil⟩
 ·intro x hx
  simp only [ag,ae,or_false] at hx
  rcases hx with rfl | rfl | rfl
  ·exact hw0.wf
  ·exact hw1.wf
  ·exact hw2.wf
 ·refine ⟨fun e he=>?_,fun e he=>?_,fun e he=>by cases he⟩
  ·simp only [fG,ag,ae,or_false] at he
   rcases he with rfl | rfl | rfl
   ·obtain ⟨z0,z1,z2,z3,z4⟩:=hw0.pl
    exact ⟨⟨b0,z0,none⟩,B0.2.1,B0.2.2,0,2,(by show B0=_; rw [←z1]),rfl,rfl,z2,z3,rfl,z4⟩
   ·obtain ⟨z0,z1,z2,z3,z4⟩:=hw1.pl
    exact ⟨⟨b1,z0,none⟩,B0.2.1,B0.2.2,1,2,(by show B0=_; rw [←z1]),rfl,rfl,z2,z3,rfl,z4⟩
   ·obtain ⟨z0,z1,z2,z3,z4⟩:=hw2.pl
    exact ⟨⟨b2,z0,none⟩,B0.2.1,B0.2.2,2,2,(by show B0=_; rw [←z1]),rfl,rfl,z2,z3,rfl,z4⟩
  ·simp only [fG,ag,ae,or_false] at he
   rcases he with rfl | rfl
   ·exact ⟨2,by show some (num 3)=some (.int .i64 (B0.2.1:Nat)); rw [hB0]; rfl⟩
   ·exact ⟨2,by show some (num m)=some (.int .i64 (B1.2.1:Nat)); rw [←hB1]; rfl⟩
 ·intro hl
  match nl,hl with
  | [nr,n6,nb],_ =>
  have hc:(qK aa (fG (w0,[nc]) ([m]++fE j0++fE j1++fE j2++pl P0++pl P1++pl P2) [f] [B0,B1,X] [] [(0,.int .i64 0,12,0),(0,.int .i64 1,12,1),(0,.int .i64 2,12,2)] [(0,.int .i64 3),(1,var 0)] []) (tF aa Tryz.esc (w0,[nc]) ([m]++fE j0++fE j1++fE j2++pl P0++pl P1++pl P2) [f] [B0,B1,X] [] [(0,.int .i64 3),(1,var 0)] { QT:=[⟨68,[.agg ⟨[dM 0,dM 1]⟩,dM 2],.row false 3 3 (dQ [var 34,var 35,var 36,var 37,var 38,var 39,var 40,var 41,var 42,var 43,var 44,var 45,var 46,var 47,var 48,var 49,var 50,var 51,var 52,var 53,var 54,var 55,var 56,var 57,var 58,var 59,var 60,var 61,var 62,var 63,var 64,var 65,var 66,var 67,var 68,var 69,var 70,var 71,var 72,var 73,var 74,var 75,var 76,var 77,var 78,var 79,var 80,var 81,var 82,var 83,var 84,var 85,var 86,var 87,var 88,var 89,var 90,var 91,var 92,var 93,var 94,var 95,var 96,var 97,var 98,var 99,var 100,var 101,var 102,var 103,var 104,var 105] 135)⟩] }) (Tryz.esc 41) 200 [dZ (dN aD),jM (dN aD),nP (dN aD),dZ (sR 3 (dN aD)),dZ (sR 4 (dN aD))] ⟨fK 137 [(0,.pointer (some ⟨0,0,none⟩)),(1,.agg ⟨[dM 0,dM 1]⟩),(2,dM 2)],[dQ [mB 1 [.int .i64 0]] 88],[]++[dU [.string j0.name,var 1,var 2,var 3,var 4,var 5,var 6,var 7,var 8,var 9,var 10,var 11],dU [.string j1.name,var 12,var 13,var 14,var 15,var 16,var 17,var 18,var 19,var 20,var 21,var 22],dU [.string j2.name,var 23,var 24,var 25,var 26,var 27,var 28,var 29,var 30,var 31,var 32,var 33]],[]⟩).map (Cn (gB (w0,[nc]) ([m]++fE j0++fE j1++fE j2++pl P0++pl P1++pl P2) [f] [B0,B1,X]) ⟨[nc],(eH [(nc,[.bool f],88)] [] [(b0,o0,j0.vals),(b1,o1,j1.vals),(b2,o2,j2.vals)]).lp++[(nr,0),(n6,0),(nb,0)]⟩ 5 3)=some (some ((true,92,5),[some (dK nc),some (dJ B0),some (dJ B1),none,some (.slice none 0 0)],some ((true,7,98),3,some ([nz j0.kind P0,nz j1.kind P1,nz j2.kind P2].flatMap fun v=>v.cs nc),21))):=by kernel_rfl
  rw [hr] at hc
  simp only [Option.map_some,ak] at hc
  exact Kh hs hs.ext.le.env hA rfl hc (by decide) (by decide)
 ·match gn,nl,e1,e2 with
  | [gL,g9],[nr,n6,nb],_,_ =>
   simp only [bN,bZ] at hs hR
   obtain ⟨A,cb,k1,k2,k3,k4,k5,g,k6,k7⟩:=hR rfl
   have hcb:cb=#[dK nc,dJ B0,dJ B1,dJ A,.slice none 0 0]:=Ij k2 (k4 0 _ rfl) (k4 1 _ rfl) (k4 2 _ rfl) k3 (k4 4 _ rfl)
   subst hcb
   refine hK a' w' gL g9 nr n6 nb A (fun q hq=>e4 q hq) (oP e3) hs k1 k5 ⟨g,k6,?_⟩ hk'
   rcases k7 with ⟨j,hj⟩ | k7
   ·exfalso
    have hg:g=nc:=by
     match j,hj with
     | 0,hj=>exact (Option.some.inj hj).symm
     | _+1,hj=>cases hj
    subst hg
    obtain ⟨g',cs,q1,q2,_⟩:=k5.blk _ k6
    injection q1 with q1; subst q1
    have q3:=hs.gl _ aA
    rw [q2] at q3
    injection q3 with q3
    injection q3 with _ q3
    exact absurd (show (98:Nat)=88 from q3) (by decide)
   ·exact k7
end Go.Proofs
end
