/-
  Part of the proof: see the last text.
-/
import Derived.Test.YthbfmjlcnfgnbaaGreatZWi
set_option linter.unusedVariables false
set_option maxHeartbeats 8000000
open Array renaming getD_eq_getD_getElem?→bI,replicate→dn
open Go.IntKind renaming i64→bg
open Go.IntWalk renaming i64_in→dz
open List renaming getD_cons_succ→bZ,getD_cons_zero→bN,getElem?_eq_getElem→ah,getElem?_eq_none→bQ,mem_append→bH,mem_cons→ag,mem_cons_of_mem→aT,mem_cons_self→aA,mem_map→aeZ,not_mem_nil→ae,replicate→az
open Nat renaming lt_or_ge→cu,succ_pos→aO
open Prod.mk renaming injEq→aP
open Go.Proofs.Tryz renaming f20→aY,f43→aeS,prog→aa
section
namespace Go.Proofs
open Go.Sm Go.RowKit En
theorem WT:(dN aeS)=fB [dZ (dN aeS),jM (dN aeS)] (.seq (fB [dZ (jK (dN aeS))] (.block 0 (.loop (iW (dN aeS))))) (sR 3 (dN aeS))):=by kernel_rfl
theorem Y5:(iW (dN aeS))=fB [dZ (iW (dN aeS)),dZ (fU (iW (dN aeS)))] (.seq (.block 1 (fB [dZ (rD (dN aeS)),dZ (fU (rD (dN aeS)))] (.block 2 (.loop (nP (dN aeS)))))) (sR 3 (iW (dN aeS)))):=by kernel_rfl
def BB (rs:List (Int×Int)) (axs:List V6) (js:List JV) (j:Int) (vn:V6) (st:V6×Bool) (ii:Int):V6×Bool :=
 (u7 (ii != j) (kG ((js.getD ii.toNat (js.headD ⟨⟨#[]⟩,0,0,0,0,0,0,0,0,0,0,0⟩)).kind)) st.1 (rs.getD ii.toNat (0,0)) (rs.getD j.toNat (0,0)) (axs.getD ii.toNat .z) vn,
   xg (ii != j) (kG ((js.getD ii.toNat (js.headD ⟨⟨#[]⟩,0,0,0,0,0,0,0,0,0,0,0⟩)).kind)) st.2 st.1 (rs.getD ii.toNat (0,0)) (rs.getD j.toNat (0,0)) (axs.getD ii.toNat .z) vn)
def si (rs:List (Int×Int)) (axs:List V6) (js:List JV) (ks:List Int) (j:Int) (vn:V6) (st:V6×Bool):Nat→V6×Bool
 | 0=>st
 | i+1=>BB rs axs js j vn (si rs axs js ks j vn st i) (ks.getD i 0)
def pX (rs:List (Int×Int)) (axs:List V6) (js:List JV) (ks:List Int) (vs:List V6) (f:Bool):Nat→V6×Bool
 | 0=>(.z,f)
 | k+1=>si rs axs js ks (ks.getD k 0) (vs.getD k .z) (pX rs axs js ks vs f k) (k+1)
structure sI (w:World) (nc:Nat) (W B3 B5:dY) (rs:List (Int×Int)) (axs:List V6) (js:List JV):Prop where
 wl:W.2.1=rs.length
 b3:B3.2.1=js.length
 b5:B5.2.1=axs.length
 l1:rs.length=js.length
 l2:axs.length=js.length
 BC:Sl w W.1 2 (rH rs)
 mH:Sl w B3.1 12 (js.map JV.vals)
 GK:Sl w B5.1 7 (axs.map (V6.cs nc))
 aW:∀a,W.1=some a→a.block≠nc
 aK:∀a,B3.1=some a→a.block≠nc
 aX:∀a,B5.1=some a→a.block≠nc
variable {w0 w:World} {nc n3 n4 n6 n7 k:Nat} {W B3 B4 B5 B6:dY} {rs:List (Int×Int)} {axs:List V6} {js:List JV} {f:Bool} {a:Act} {Q:Exit→Act→World→Prop}
theorem abt {m:MB} {i:Nat} {s:V6} (hS:sI w0 nc W B3 B5 rs axs js) (hm:sD w0 nc js.length m) {j:Int} {vn:V6} (hj:m.ks[k]?=some j) (hv:m.vs[k]?=some vn) (hi:i<k+1)
  (hown:∀g∈[nc]++[n3,n4,n6,n7],g∈[nc]∨w0.heap.size≤g) (hnd:([nc]++[n3,n4,n6,n7]).Nodup) (h:dP (su W m.J n3 n4 n6 n7 k j i) (jg nc f) (j6 nc n3 n4 n6 n7 B3 B4 B5 B6 m.J m.V m.wt s) a w) (hk:dO w0 [nc] w)
  (hQ:∀a' w',dP (su W m.J n3 n4 n6 n7 k j ((i+1:Nat):Int)) (jg nc (BB rs axs js j vn (s,f) (m.ks.getD i 0)).2) (j6 nc n3 n4 n6 n7 B3 B4 B5 B6 m.J m.V m.wt (BB rs axs js j vn (s,f) (m.ks.getD i 0)).1) a' w'→dO w0 [nc] w'→Q .normal a' w'):(nP (dN aeS)).wp aa Q a w:=by
 have hkl:k<m.ks.length:=by
  rcases cu k m.ks.length with h | h
  ·exact h
  ·rw [bQ h] at hj; cases hj
 have h3:=hm.l3
 obtain ⟨ii,hii⟩:∃ii,m.ks[i]?=some ii:=⟨_,ah (by omega)⟩
 obtain ⟨i0,i1⟩:=hm.ks i ii hii
 obtain ⟨j0,j1⟩:=hm.ks k j hj
 obtain ⟨jv,hjv⟩:∃jv,js[ii.toNat]?=some jv:=⟨_,ah (by omega)⟩
 obtain ⟨ri,hri⟩:∃r,rs[ii.toNat]?=some r:=⟨_,ah (by rw [hS.l1]; omega)⟩
 obtain ⟨rj,hrj⟩:∃r,rs[j.toNat]?=some r:=⟨_,ah (by rw [hS.l1]; omega)⟩
 obtain ⟨ax,hax⟩:∃r,axs[ii.toNat]?=some r:=⟨_,ah (by rw [hS.l2]; omega)⟩
 obtain ⟨bJ,oJ,eJ,lJ,cJ⟩:=o9 hm.qU (yz hii)
 obtain ⟨bV,oV,eV,lV,cV⟩:=o9 hm.dJ (show (m.vs.map (V6.cs nc))[k]?=some (vn.cs nc) by simp [hv])
 obtain ⟨bW,oW,eW,lW,cI⟩:=o9 hS.BC (K6 hri)
 obtain ⟨bW',oW',eW',_,cW⟩:=o9 hS.BC (K6 hrj)
 rw [eW] at eW'; injection eW' with eW'; injection eW' with eW1 eW2; subst eW1; subst eW2
 obtain ⟨bK,oK,eK,lK,cK⟩:=o9 hS.mH (iX hjv)
 obtain ⟨bX,oX,eX,lX,cX⟩:=o9 hS.GK (show (axs.map (V6.cs nc))[ii.toNat]?=some (ax.cs nc) by simp [hax])
 have e9:bg.wrap ((i:Int)+1)=((i+1:Nat):Int):=by rw [dz _ (by omega)]; omega
 have hsub:((jA m.J (k:Int)).2.1:Int)=k+1:=by simp [jA]
 have est:BB rs axs js j vn (s,f) (m.ks.getD i 0)=(u7 (ii != j) (kG jv.kind) s ri rj ax vn,xg (ii != j) (kG jv.kind) f s ri rj ax vn):=by
  simp only [BB,getD_some hii,getD_some hri,getD_some hrj,getD_some hax,getD_some hjv]
 rw [est] at hQ
 have cK':∀(q:Nat) (x:Value),[.string jv.name,num jv.kind][q]?=some x→w0.cell? ⟨bK,oK+ii.toNat*12+q,none⟩=some x:=fun q x hx=>cK q x (by
  match q,hx with
  | 0,hx=>simpa [JV.vals] using hx
  | 1,hx=>simpa [JV.vals,num] using hx
  | _+2,hx=>simp at hx)
 have b1:(0:Int)≤(i:Int):=by omega
 have b2:(i:Int)<((jA m.J (k:Int)).2.1:Nat):=by rw [hsub]; omega
 have b3:ii<(W.2.1:Nat):=by rw [hS.wl,hS.l1]; exact i1
 have b4:j<(W.2.1:Nat):=by rw [hS.wl,hS.l1]; exact j1
 have b5:ii<(B3.2.1:Nat):=by rw [hS.b3]; exact i1
 have b6:ii<(B5.2.1:Nat):=by rw [hS.b5,hS.l2]; exact i1
 have b7:(k:Int)<(m.V.2.1:Nat):=by rw [hm.v,hm.l]; omega
 cases hne:(ii != j)<;>cases htu:kG jv.kind<;>rw [hne,htu] at hQ
 ·exact abu eJ eW eK eX eV b1 b2 i0 b3 j0 b4 b5 b6 (by omega) b7 hne htu ⟨lJ,hm.aJ _ eJ⟩ ⟨lW,hS.aW _ eW⟩ ⟨lK,hS.aK _ eK⟩ ⟨lX,hS.aX _ eX⟩ ⟨lV,hm.aV _ eV⟩ (by exact cJ) cI cW cK' cX (by exact cV) hown hnd h hk (by rw [e9]; exact hQ)
 ·exact abv eJ eW eK eX eV b1 b2 i0 b3 j0 b4 b5 b6 (by omega) b7 hne htu ⟨lJ,hm.aJ _ eJ⟩ ⟨lW,hS.aW _ eW⟩ ⟨lK,hS.aK _ eK⟩ ⟨lX,hS.aX _ eX⟩ ⟨lV,hm.aV _ eV⟩ (by exact cJ) cI cW cK' cX (by exact cV) hown hnd h hk (by rw [e9]; exact hQ)
 ·exact abw eJ eW eK eX eV b1 b2 i0 b3 j0 b4 b5 b6 (by omega) b7 hne htu ⟨lJ,hm.aJ _ eJ⟩ ⟨lW,hS.aW _ eW⟩ ⟨lK,hS.aK _ eK⟩ ⟨lX,hS.aX _ eX⟩ ⟨lV,hm.aV _ eV⟩ (by exact cJ) cI cW cK' cX (by exact cV) hown hnd h hk (by rw [e9]; exact hQ)
 ·exact abx eJ eW eK eX eV b1 b2 i0 b3 j0 b4 b5 b6 (by omega) b7 hne htu ⟨lJ,hm.aJ _ eJ⟩ ⟨lW,hS.aW _ eW⟩ ⟨lK,hS.aK _ eK⟩ ⟨lX,hS.aX _ eX⟩ ⟨lV,hm.aV _ eV⟩ (by exact cJ) cI cW cK' cX (by exact cV) hown hnd h hk (by rw [e9]; exact hQ)
theorem ado {m:MB} {st:V6×Bool} (hS:sI w0 nc W B3 B5 rs axs js) (hm:sD w0 nc js.length m) (hcap:m.J.2.1≤m.J.2.2) (hk1:k<m.ks.length)
  (hown:∀g∈[nc]++[n3,n4,n6,n7],g∈[nc]∨w0.heap.size≤g) (hnd:([nc]++[n3,n4,n6,n7]).Nodup) (h:dP (tK W m.J n3 n4 n6 n7 k) (jg nc st.2) (j6 nc n3 n4 n6 n7 B3 B4 B5 B6 m.J m.V m.wt st.1) a w) (hk:dO w0 [nc] w)
  (hQ:∀a' w',dP (tK W m.J n3 n4 n6 n7 ((k+1:Nat):Int)) (jg nc (si rs axs js m.ks (m.ks.getD k 0) (m.vs.getD k .z) st (k+1)).2) (j6 nc n3 n4 n6 n7 B3 B4 B5 B6 m.J m.V m.wt (si rs axs js m.ks (m.ks.getD k 0) (m.vs.getD k .z) st (k+1)).1) a' w'→dO w0 [nc] w'→Q .normal a' w'):(iW (dN aeS)).wp aa Q a w:=by
 have h3:=hm.l3
 obtain ⟨j,hj⟩:∃j,m.ks[k]?=some j:=⟨_,ah hk1⟩
 obtain ⟨vn,hv⟩:∃v,m.vs[k]?=some v:=⟨_,ah (by rw [hm.l]; exact hk1)⟩
 rw [getD_some hj,getD_some hv] at hQ
 obtain ⟨bJ,oJ,eJ,lJ,cJ⟩:=o9 hm.qU (yz hj)
 rw [Y5]
 refine abp hown hnd (by rw [hm.j]; omega) h hk fun a1 w1 s1 k1=>?_
 refine wp_seq (wp_block ?_)
 refine abq (k:=(k:Int)) (j:=j) eJ (by omega) (by rw [hm.j]; omega) hcap (by omega) lJ (hm.aJ _ eJ) (by exact cJ) hown hnd s1 k1 fun a2 w2 s2 k2=>?_
 refine wp_block ?_
 refine wp_loop (fun a w'=>∃i:Nat,i≤k+1∧dP (su W m.J n3 n4 n6 n7 k j i) (jg nc (si rs axs js m.ks j vn st i).2) (j6 nc n3 n4 n6 n7 B3 B4 B5 B6 m.J m.V m.wt (si rs axs js m.ks j vn st i).1) a w'∧dO w0 [nc] w') (fun a _=>k+1 - (intOf (a.tmps.getD 31 undef)).toNat) ⟨0,Nat.zero_le _,s2,k2⟩ ?_
 rintro a3 w3 ⟨i,hi,s3,k3⟩
 have hmv:∀(a:Act) (w:World) (i:Nat) (g:List gQ) (l:List gQ),dP (su W m.J n3 n4 n6 n7 k j i) g l a w→(intOf (a.tmps.getD 31 undef)).toNat=i:=fun a w i g l s=>by
  have:=s.fr 31 (num i) (Aa (by decide) rfl)
  rw [bI,this]; simp [intOf,num]
 have hsub:((jA m.J (k:Int)).2.1:Int)=k+1:=by simp [jA]
 by_cases hlt:i<k+1
 ·refine abt hS hm hj hv hlt hown hnd s3 k3 fun a4 w4 s4 k4=>?_
  refine ⟨⟨i+1,by omega,s4,k4⟩,?_⟩
  simp only [hmv _ _ _ _ _ s3,hmv _ _ _ _ _ s4]
  omega
 ·have hin:i=k+1:=by omega
  subst hin
  refine abC hown hnd (by rw [hsub]; omega) s3 k3 fun a4 w4 s4 k4=>?_
  show (sR 3 (iW (dN aeS))).wp aa Q a4 w4
  refine aby hown hnd s4 k4 fun a5 w5 s5 k5=>?_
  have e9:bg.wrap ((k:Int)+1)=((k+1:Nat):Int):=by rw [dz _ (by omega)]; omega
  rw [e9] at s5
  exact hQ a5 w5 s5 k5
theorem adn {m:MB} (hS:sI w nc W B3 B5 rs axs js) (hm:sD w nc js.length m) (hcap:m.J.2.1≤m.J.2.2) (hfl:w.heap[nc]?=some (.cells #[.bool f] 88 (0,0))) :
  Calls aa 43 #[.agg ⟨[dK nc,dJ B3,dJ B4,dJ B5,dJ B6]⟩,.agg ⟨[num m.wt,dJ m.J,dJ m.V]⟩,dJ W] w (Hm w nc (pX rs axs js m.ks m.vs f m.ks.length).1 (pX rs axs js m.ks m.vs f m.ks.length).2):=by
 refine calls_of_wp Tryz.func43 (c:=(dN aeS)) (by kernel_rfl) ?_
 rw [WT]
 have hst:dP ([some (.agg ⟨[dK nc,dJ B3,dJ B4,dJ B5,dJ B6]⟩),some (.agg ⟨[num m.wt,dJ m.J,dJ m.V]⟩),some (dJ W)]++az 81 (some undef)) (jg nc f) [] { tmps:=#[.agg ⟨[dK nc,dJ B3,dJ B4,dJ B5,dJ B6]⟩,.agg ⟨[num m.wt,dJ m.J,dJ m.V]⟩,dJ W]++dn (aeS.ntmps - 3) undef,defers:=[] } w :=
  qF (xs:=[.agg ⟨[dK nc,dJ B3,dJ B4,dJ B5,dJ B6]⟩,.agg ⟨[num m.wt,dJ m.J,dJ m.V]⟩,dJ W]) (m:=81) rfl (by simp [jg,hfl]) (by simp [jg])
 refine abA hst (dO.refl w [nc]) fun a1 w1 n3 n4 n6 n7 hnew hnd s1 k1=>?_
 have hown:∀g∈[nc]++[n3,n4,n6,n7],g∈[nc]∨w.heap.size≤g:=fun g hg=>by
  rcases bH.1 hg with r | r
  ·exact .inl r
  ·exact .inr (hnew g r)
 refine wp_seq ?_
 refine abB hown hnd s1 k1 fun a2 w2 s2 k2=>?_
 refine wp_block ?_
 refine wp_loop (fun a w'=>∃k:Nat,k≤m.ks.length∧dP (tK W m.J n3 n4 n6 n7 k) (jg nc (pX rs axs js m.ks m.vs f k).2) (j6 nc n3 n4 n6 n7 B3 B4 B5 B6 m.J m.V m.wt (pX rs axs js m.ks m.vs f k).1) a w'∧dO w [nc] w') (fun a _=>m.ks.length - (intOf (a.tmps.getD 20 undef)).toNat) ⟨0,Nat.zero_le _,s2,k2⟩ ?_
 rintro a3 w3 ⟨k,hk,s3,k3⟩
 have hmv:∀(a:Act) (w:World) (i:Nat) (g:List gQ) (l:List gQ),dP (tK W m.J n3 n4 n6 n7 i) g l a w→(intOf (a.tmps.getD 20 undef)).toNat=i:=fun a w i g l s=>by
  have:=s.fr 20 (num i) (Aa (by decide) rfl)
  rw [bI,this]; simp [intOf,num]
 by_cases hlt:k<m.ks.length
 ·refine ado hS hm hcap hlt hown hnd s3 k3 fun a4 w4 s4 k4=>?_
  refine ⟨⟨k+1,by omega,s4,k4⟩,?_⟩
  simp only [hmv _ _ _ _ _ s3,hmv _ _ _ _ _ s4]
  omega
 ·have hkn:k=m.ks.length:=by omega
  subst hkn
  refine abr hown hnd (by rw [hm.j]; omega) s3 k3 fun a4 w4 s4 k4=>?_
  show (sR 3 (dN aeS)).wp aa _ a4 w4
  have s5:dP (dS 84 [(6,dK n6),(7,dK n7)]) (jg nc (pX rs axs js m.ks m.vs f m.ks.length).2) [(n6,.pointer none::z6,98),(n7,(pX rs axs js m.ks m.vs f m.ks.length).1.cs nc,98)] a4 w4 :=
   dP.sub s4 (fun x hx=>by simp only [ag,ae,or_false] at hx; rcases hx with rfl | rfl<;>rfl) (fun x hx=>hx) (fun x hx=>aT _ (aT _ hx)) (by simp [jg] at hnd ⊢; omega)
  refine abz (fun g hg=>hown g (by simp at hg ⊢; omega)) s5 k4 fun a6 w6 s6 k6=>?_
  exact ⟨rfl,uP k6 (s6.gl _ aA)⟩
end Go.Proofs
end
section
namespace Go.Proofs
open Go.Sm Go.RowKit En
theorem QQ (c:Bool) (v u:V6):uZ c v u=(c||uZ false v u):=DK _ _ _ _ _ _ _ _ _ _ _ _ _
theorem Ut (c:Bool) (v:V6) (r:Int×Int):tJ c v r=(c||tJ false v r):=DT _ _ _ _ _ _ _ _ _
theorem OY (rs:List (Int×Int)) (ks:List Int) (vs:List V6) (f:Bool):∀k,mM rs ks vs f k=((mM rs ks vs false k).1,f||(mM rs ks vs false k).2)
 | 0=>by simp [mM]
 | k+1=>by
  simp only [mM,JP]
  rw [OY rs ks vs f k]
  simp only [aP,true_and]
  rw [QQ (tJ (f||_) _ _),Ut (f||_),QQ (tJ (mM rs ks vs false k).2 _ _),Ut (mM rs ks vs false k).2]
  simp only [Bool.or_assoc]
theorem Uu (neq turn f:Bool) (s:V6) (ri rj:Int×Int) (ax vn:V6):xg neq turn f s ri rj ax vn=(f||xg neq turn false s ri rj ax vn):=by
 unfold xg
 cases neq<;>cases turn<;>simp [Bool.or_assoc]
theorem LG (rs:List (Int×Int)) (axs:List V6) (js:List JV) (ks:List Int) (j:Int) (vn:V6) (s:V6) (f:Bool):∀i,si rs axs js ks j vn (s,f) i=((si rs axs js ks j vn (s,false) i).1,f||(si rs axs js ks j vn (s,false) i).2)
 | 0=>by simp [si]
 | i+1=>by
  simp only [si,BB]
  rw [LG rs axs js ks j vn s f i]
  simp only [aP,true_and]
  rw [Uu _ _ (f||_),Uu _ _ (si rs axs js ks j vn (s,false) i).2]
  simp only [Bool.or_assoc]
theorem Uv (rs:List (Int×Int)) (axs:List V6) (js:List JV) (ks:List Int) (vs:List V6) (f:Bool):∀k,pX rs axs js ks vs f k=((pX rs axs js ks vs false k).1,f||(pX rs axs js ks vs false k).2)
 | 0=>by simp [pX]
 | k+1=>by
  simp only [pX]
  rw [Uv rs axs js ks vs f k,LG _ _ _ _ _ _ _ (f||_)]
  rw [show si rs axs js ks (ks.getD k 0) (vs.getD k .z) (pX rs axs js ks vs false k) (k+1)=si rs axs js ks (ks.getD k 0) (vs.getD k .z) ((pX rs axs js ks vs false k).1,(pX rs axs js ks vs false k).2) (k+1) from rfl,LG _ _ _ _ _ _ _ (pX rs axs js ks vs false k).2]
  simp only [Bool.or_assoc]
def lQ (rs:List (Int×Int)) (m:MB):V6×Bool:=mM rs m.ks m.vs false m.ks.length
def l9 (rs:List (Int×Int)) (axs:List V6) (js:List JV) (m:MB):V6×Bool:=pX rs axs js m.ks m.vs false m.ks.length
theorem Rf (ks:List (Int×Int)):∀r∈rH ks,r≠[]:=fun r hr e=>by
 simp only [rH,aeZ] at hr
 obtain ⟨k,_,rfl⟩:=hr
 cases e
theorem AX (js:List JV):∀r∈js.map JV.vals,r≠[]:=fun r hr e=>by
 obtain ⟨k,_,rfl⟩:=aeZ.1 hr
 cases e
variable {w0 w:World} {nc:Nat} {W B3:dY} {rs:List (Int×Int)} {axs:List V6} {js:List JV}
theorem sI.move {B5:dY} (h:sI w0 nc W B3 B5 rs axs js) (hc:∀(b o:Nat) (v:Value),b<w0.heap.size→b≠nc→w0.cell? ⟨b,o,none⟩=some v→w.cell? ⟨b,o,none⟩=some v):sI w nc W B3 B5 rs axs js :=
 { h with BC:=uB hc (Rf _) h.aW h.BC,mH:=uB hc (AX _) h.aK h.mH,GK:=uB hc (y7 _ _) h.aX h.GK }
def pF:List Value:=[.pointer (some ⟨0,0,none⟩),dM 1,dM 2,dM 3,dM 4]
def sU (nc:Nat) (B1 B2 B3 B4:dY):Value:=.agg ⟨[dK nc,dJ B1,dJ B2,dJ B3,dJ B4]⟩
def zY (wi hj vi bi:Nat):pE:=⟨42,[.agg ⟨pF⟩,.agg ⟨[var wi,dM hj,dM (hj+1)]⟩,dM 0],.agg ⟨.pointer (some ⟨0,0,none⟩)::iE vi⟩,mB 1 [.int .i64 bi],[]⟩
def zZ (wi hj vi bi:Nat):pE:=⟨43,[.agg ⟨pF⟩,.agg ⟨[var wi,dM hj,dM (hj+1)]⟩,dM 0],.agg ⟨.pointer (some ⟨0,0,none⟩)::iE vi⟩,mB 1 [.int .i64 bi],[]⟩
variable {l:List Int} {bs:List Bool} {sl:List dY} {B1 B2 B4:dY} {wi hj vi bi:Nat}
theorem LW {m:MB} (hS:sI w0 nc W B1 B3 rs axs js) (hm:sD w0 nc js.length m)
  (e1:eQ (fP (gB (w0,[nc]) l bs sl) ⟨[nc],[]⟩ 5) (zY wi hj vi bi).xs=some [sU nc B1 B2 B3 B4,.agg ⟨[num m.wt,dJ m.J,dJ m.V]⟩,dJ W]) (e2:fP (gB (w0,[nc]) l bs sl) ⟨[nc],[]⟩ 5 (zY wi hj vi bi).v=some ((lQ rs m).1.val nc)) (e3:eF (gB (w0,[nc]) l bs sl) 300 (zY wi hj vi bi).fl=some (.bool (lQ rs m).2)):zf aa (gB (w0,[nc]) l bs sl) 88 (zY wi hj vi bi):=by
 refine ⟨rfl,fun nc' c w h0 hF hw=>?_⟩
 have hnc:nc'=nc:=h0.1 nc rfl
 subst hnc
 refine ⟨_,_,_,e1,e2,e3,?_⟩
 have hm':=hm.move (mO hF)
 have hS':=hS.move (mO hF)
 have:=X5 nc' c W m.J m.V B1 B2 B3 B4 m.wt w rs m.ks m.vs hm'.j hm'.v hS'.wl hm'.l hm'.l3 hm'.qU hm'.dJ hS'.BC (fun i k hk=>by rw [hS'.l1]; exact hm'.ks i k hk) hw hm'.aJ hm'.aV hS'.aW
 refine this.mono fun r w' hr=>?_
 rw [OY] at hr
 exact hr
theorem LX {m:MB} (hS:sI w0 nc W B1 B3 rs axs js) (hm:sD w0 nc js.length m) (hcap:m.J.2.1≤m.J.2.2)
  (e1:eQ (fP (gB (w0,[nc]) l bs sl) ⟨[nc],[]⟩ 5) (zZ wi hj vi bi).xs=some [sU nc B1 B2 B3 B4,.agg ⟨[num m.wt,dJ m.J,dJ m.V]⟩,dJ W]) (e2:fP (gB (w0,[nc]) l bs sl) ⟨[nc],[]⟩ 5 (zZ wi hj vi bi).v=some ((l9 rs axs js m).1.val nc)) (e3:eF (gB (w0,[nc]) l bs sl) 300 (zZ wi hj vi bi).fl=some (.bool (l9 rs axs js m).2)):zf aa (gB (w0,[nc]) l bs sl) 88 (zZ wi hj vi bi):=by
 refine ⟨rfl,fun nc' c w h0 hF hw=>?_⟩
 have hnc:nc'=nc:=h0.1 nc rfl
 subst hnc
 refine ⟨_,_,_,e1,e2,e3,?_⟩
 have:=adn (B4:=B2) (B6:=B4) (f:=c) (hS.move (mO hF)) (hm.move (mO hF)) hcap hw
 refine this.mono fun r w' hr=>?_
 rw [Uv] at hr
 exact hr
def mY (nr ng nb nc:Nat) (x y z:Int) (B1 B2 B3 B4:dY):List jC:=[(nr,0,[dJ B1,dJ B2]),(ng,0,[num x,num y,num z]),(nb,0,[dK nc,dJ B1,dJ B2,dJ B3,dJ B4])]
variable {nr ng nb n:Nat} {x y z:Int} {f:Bool} {a:Act} {Q:Exit→Act→World→Prop} {D:Code}
theorem adP (hS:sI w0 nc W B1 B3 rs axs js) (hb:kr w0 nc n B1 B4 ([]:List MB)) (hjn:js.length=n)
  (hw:jR w0 [nc] (mY nr ng nb nc x y z B1 B2 B3 B4)) (h:dP (dS 133 [(6,dK nr),(7,dK ng),(16,dJ W),(18,dK nc),(19,dK nb)]) [(nc,[.bool f],88)] [] a w) (hk:dO w0 [nc] w)
  (hQ:∀a' w' g1 g2,w.heap.size≤g1→w.heap.size≤g2→[nc,g1,g2].Nodup→dP (dS 133 [(6,dK nr),(7,dK ng),(18,dK nc),(19,dK nb),(20,.slice (some ⟨g1,0,none⟩) 0 0),(21,.slice (some ⟨g2,0,none⟩) 0 0)]) [(nc,[.bool f],88),(g1,([].flatMap fun m=>(lQ rs m).1.cs nc),98),(g2,([].flatMap fun m=>(l9 rs axs js m).1.cs nc),98)] [] a' w'→dO w0 [nc] w'→D.wp aa Q a' w'):(fB [rz (dN aY),rC (dN aY)] D).wp aa Q a w:=by
 subst hjn
 refine jZ ([x,y,z,0,0]) [f] [W,B1,B2,B3,B4] (g:=[]) (wt:=[]) (lt:=[(4,.int .i64 0)]) (sb:=[]) (T:=[]) (K:=[]) (RT:=[]) (wb:=[dU [dM 1,dM 2],dU [var 0,var 1,var 2],dU pF]) (ws:=(mY nr ng nb nc x y z B1 B2 B3 B4++[])) (fr:=fK 133 [(6,.pointer (some ⟨0,0,some 0⟩)),(7,.pointer (some ⟨1,0,some 0⟩)),(16,dM 0),(18,.pointer (some ⟨0,0,none⟩)),(19,.pointer (some ⟨2,0,some 0⟩))]) (H:=oC) (lo:=[]) (us':=fun gn _=>dS 133 [(6,dK nr),(7,dK ng),(18,dK nc),(19,dK nb),(20,.slice (some ⟨gn.getD 0 0,0,none⟩) 0 0),(21,.slice (some ⟨gn.getD 1 0,0,none⟩) 0 0)]) (gs':=fun gn _=>[(nc,[.bool f],88),(gn.getD 0 0,([].flatMap fun m=>(lQ rs m).1.cs nc),98),(gn.getD 1 0,([].flatMap fun m=>(l9 rs axs js m).1.cs nc),98)]) (ls':=fun _ _=>[]) 20 _ [0,1,2] [] [20,21] [] (fun gn nl e1 e2=>?_) (by kernel_rfl) (fun gn nl e1 e2 e3=>?_) ⟨ed _,?_,gD,fT,?_,fw (by simp),gH,fun _=>?_⟩ h hk (fun a' w' gn nl e1 e2 e3 e4 hs hk'=>?_)
 ·match gn,nl,e1,e2 with
  | [g1,g2],[],_,_=>show (_:Option _)=_; kernel_rfl
 ·match gn,nl,e1,e2 with
  | [g1,g2],[],_,_=>simpa using e3
 ·intro t ht
  simp only [ae] at ht
 ·intro x hx
  rcases bH.1 hx with hx | hx
  ·exact hw x hx
  simp only [ae] at hx
 ·refine ⟨fun e he=>?_,fun e he=>?_,fun e he=>by cases he⟩
  ·simp only [fG,ae] at he
  ·simp only [fG,ag,ae,or_false] at he
   subst he
   exact ⟨2,by show some (num 0)=some (.int .i64 (B4.2.1:Nat)); rw [hb.b3]; rfl⟩
 ·match gn,nl,e1,e2 with
  | [g1,g2],[],_,_ =>
   simp only [bN,bZ] at hs
   exact hQ a' w' g1 g2 (e4 g1 (by simp)).1 (e4 g2 (by simp)).1 (by simpa using e3) hs hk'
theorem adQ {m0:MB} (hS:sI w0 nc W B1 B3 rs axs js) (hb:kr w0 nc n B1 B4 ([m0]:List MB)) (hjn:js.length=n) (hc0:m0.J.2.1≤m0.J.2.2)
  (hw:jR w0 [nc] (mY nr ng nb nc x y z B1 B2 B3 B4)) (h:dP (dS 133 [(6,dK nr),(7,dK ng),(16,dJ W),(18,dK nc),(19,dK nb)]) [(nc,[.bool f],88)] [] a w) (hk:dO w0 [nc] w)
  (hQ:∀a' w' g1 g2,w.heap.size≤g1→w.heap.size≤g2→[nc,g1,g2].Nodup→dP (dS 133 [(6,dK nr),(7,dK ng),(18,dK nc),(19,dK nb),(20,.slice (some ⟨g1,0,none⟩) 1 1),(21,.slice (some ⟨g2,0,none⟩) 1 1)]) [(nc,[.bool ((f||(lQ rs m0).2)||(l9 rs axs js m0).2)],88),(g1,([m0].flatMap fun m=>(lQ rs m).1.cs nc),98),(g2,([m0].flatMap fun m=>(l9 rs axs js m).1.cs nc),98)] [] a' w'→dO w0 [nc] w'→D.wp aa Q a' w'):(fB [rz (dN aY),rC (dN aY)] D).wp aa Q a w:=by
 subst hjn
 have ok0:=hb.ok 0 m0 rfl
 obtain ⟨bM,oM,eM,lM,cM0⟩:=o9 hb.rows (show (([m0]:List MB).map MB.row)[0]?=some m0.row from rfl)
 refine jZ ([x,y,z,m0.wt,0]++(lQ rs m0).1.l++(l9 rs axs js m0).1.l) [f,(lQ rs m0).2,(l9 rs axs js m0).2] [W,B1,B2,B3,B4,m0.J,m0.V] (g:=[]) (wt:=[(4,.int .i64 0,3,3)]) (lt:=[(4,.int .i64 1)]) (sb:=[]) (T:=[zY 3 5 5 1,zZ 3 5 11 2]) (K:=[]) (RT:=[]) (wb:=[dU [dM 1,dM 2],dU [var 0,var 1,var 2],dU pF,dU [var 3,dM 5,dM 6]]) (ws:=(mY nr ng nb nc x y z B1 B2 B3 B4++[(bM,oM+0*3,m0.row)])) (fr:=fK 133 [(6,.pointer (some ⟨0,0,some 0⟩)),(7,.pointer (some ⟨1,0,some 0⟩)),(16,dM 0),(18,.pointer (some ⟨0,0,none⟩)),(19,.pointer (some ⟨2,0,some 0⟩))]) (H:=oC) (lo:=[]) (us':=fun gn _=>dS 133 [(6,dK nr),(7,dK ng),(18,dK nc),(19,dK nb),(20,.slice (some ⟨gn.getD 0 0,0,none⟩) 1 1),(21,.slice (some ⟨gn.getD 1 0,0,none⟩) 1 1)]) (gs':=fun gn _=>[(nc,[.bool ((f||(lQ rs m0).2)||(l9 rs axs js m0).2)],88),(gn.getD 0 0,([m0].flatMap fun m=>(lQ rs m).1.cs nc),98),(gn.getD 1 0,([m0].flatMap fun m=>(l9 rs axs js m).1.cs nc),98)]) (ls':=fun _ _=>[]) 20 _ [0,1,2] [] [20,21] [] (fun gn nl e1 e2=>?_) (by kernel_rfl) (fun gn nl e1 e2 e3=>?_) ⟨ed _,?_,gD,fT,?_,fw (by simp),gH,fun _=>?_⟩ h hk (fun a' w' gn nl e1 e2 e3 e4 hs hk'=>?_)
 ·match gn,nl,e1,e2 with
  | [g1,g2],[],_,_=>show (_:Option _)=_; kernel_rfl
 ·match gn,nl,e1,e2 with
  | [g1,g2],[],_,_=>simpa using e3
 ·intro t ht
  simp only [ag,ae,or_false] at ht
  rcases ht with rfl | rfl
  ·exact LW (B2:=B2) (B4:=B4) hS ok0 (by kernel_rfl) (by kernel_rfl) (by kernel_rfl)
  ·exact LX (B2:=B2) (B4:=B4) hS ok0 hc0 (by kernel_rfl) (by kernel_rfl) (by kernel_rfl)
 ·intro x hx
  rcases bH.1 hx with hx | hx
  ·exact hw x hx
  simp only [ag,ae,or_false] at hx
  subst hx
  ·exact ⟨⟨lM,by simpa using hb.aM _ eM⟩,aO _,by exact cM0⟩
 ·refine ⟨fun e he=>?_,fun e he=>?_,fun e he=>by cases he⟩
  ·simp only [fG,ag,ae,or_false] at he
   subst he
   ·exact ⟨⟨bM,oM,none⟩,B4.2.1,B4.2.2,0,2,(by show B4=_; rw [←eM]),rfl,rfl,by omega,(by rw [hb.b3]; simp),rfl,rfl⟩
  ·simp only [fG,ag,ae,or_false] at he
   subst he
   exact ⟨2,by show some (num 1)=some (.int .i64 (B4.2.1:Nat)); rw [hb.b3]; rfl⟩
 ·match gn,nl,e1,e2 with
  | [g1,g2],[],_,_ =>
   simp only [bN,bZ] at hs
   exact hQ a' w' g1 g2 (e4 g1 (by simp)).1 (e4 g2 (by simp)).1 (by simpa using e3) hs hk'
theorem adR {m0 m1:MB} (hS:sI w0 nc W B1 B3 rs axs js) (hb:kr w0 nc n B1 B4 ([m0,m1]:List MB)) (hjn:js.length=n) (hc0:m0.J.2.1≤m0.J.2.2) (hc1:m1.J.2.1≤m1.J.2.2)
  (hw:jR w0 [nc] (mY nr ng nb nc x y z B1 B2 B3 B4)) (h:dP (dS 133 [(6,dK nr),(7,dK ng),(16,dJ W),(18,dK nc),(19,dK nb)]) [(nc,[.bool f],88)] [] a w) (hk:dO w0 [nc] w)
  (hQ:∀a' w' g1 g2,w.heap.size≤g1→w.heap.size≤g2→[nc,g1,g2].Nodup→dP (dS 133 [(6,dK nr),(7,dK ng),(18,dK nc),(19,dK nb),(20,.slice (some ⟨g1,0,none⟩) 2 2),(21,.slice (some ⟨g2,0,none⟩) 2 2)]) [(nc,[.bool ((((f||(lQ rs m0).2)||(l9 rs axs js m0).2)||(lQ rs m1).2)||(l9 rs axs js m1).2)],88),(g1,([m0,m1].flatMap fun m=>(lQ rs m).1.cs nc),98),(g2,([m0,m1].flatMap fun m=>(l9 rs axs js m).1.cs nc),98)] [] a' w'→dO w0 [nc] w'→D.wp aa Q a' w'):(fB [rz (dN aY),rC (dN aY)] D).wp aa Q a w:=by
 subst hjn
 have ok0:=hb.ok 0 m0 rfl
 have ok1:=hb.ok 1 m1 rfl
 obtain ⟨bM,oM,eM,lM,cM0⟩:=o9 hb.rows (show (([m0,m1]:List MB).map MB.row)[0]?=some m0.row from rfl)
 obtain ⟨bM',oM',eM',_,cM1⟩:=o9 hb.rows (show (([m0,m1]:List MB).map MB.row)[1]?=some m1.row from rfl)
 rw [eM] at eM'; injection eM' with eM'; injection eM' with e1 e2; subst e1; subst e2
 refine jZ ([x,y,z,m0.wt,m1.wt]++(lQ rs m0).1.l++(l9 rs axs js m0).1.l++(lQ rs m1).1.l++(l9 rs axs js m1).1.l) [f,(lQ rs m0).2,(l9 rs axs js m0).2,(lQ rs m1).2,(l9 rs axs js m1).2] [W,B1,B2,B3,B4,m0.J,m0.V,m1.J,m1.V] (g:=[]) (wt:=[(4,.int .i64 0,3,3),(4,.int .i64 1,3,4)]) (lt:=[(4,.int .i64 2)]) (sb:=[]) (T:=[zY 3 5 5 1,zZ 3 5 11 2,zY 4 7 17 3,zZ 4 7 23 4]) (K:=[]) (RT:=[]) (wb:=[dU [dM 1,dM 2],dU [var 0,var 1,var 2],dU pF,dU [var 3,dM 5,dM 6],dU [var 4,dM 7,dM 8]]) (ws:=(mY nr ng nb nc x y z B1 B2 B3 B4++[(bM,oM+0*3,m0.row),(bM,oM+1*3,m1.row)])) (fr:=fK 133 [(6,.pointer (some ⟨0,0,some 0⟩)),(7,.pointer (some ⟨1,0,some 0⟩)),(16,dM 0),(18,.pointer (some ⟨0,0,none⟩)),(19,.pointer (some ⟨2,0,some 0⟩))]) (H:=oC) (lo:=[]) (us':=fun gn _=>dS 133 [(6,dK nr),(7,dK ng),(18,dK nc),(19,dK nb),(20,.slice (some ⟨gn.getD 0 0,0,none⟩) 2 2),(21,.slice (some ⟨gn.getD 1 0,0,none⟩) 2 2)]) (gs':=fun gn _=>[(nc,[.bool ((((f||(lQ rs m0).2)||(l9 rs axs js m0).2)||(lQ rs m1).2)||(l9 rs axs js m1).2)],88),(gn.getD 0 0,([m0,m1].flatMap fun m=>(lQ rs m).1.cs nc),98),(gn.getD 1 0,([m0,m1].flatMap fun m=>(l9 rs axs js m).1.cs nc),98)]) (ls':=fun _ _=>[]) 20 _ [0,1,2] [] [20,21] [] (fun gn nl e1 e2=>?_) (by kernel_rfl) (fun gn nl e1 e2 e3=>?_) ⟨ed _,?_,gD,fT,?_,fw (by simp),gH,fun _=>?_⟩ h hk (fun a' w' gn nl e1 e2 e3 e4 hs hk'=>?_)
 ·match gn,nl,e1,e2 with
  | [g1,g2],[],_,_=>show (_:Option _)=_; kernel_rfl
 ·match gn,nl,e1,e2 with
  | [g1,g2],[],_,_=>simpa using e3
 ·intro t ht
  simp only [ag,ae,or_false] at ht
  rcases ht with rfl | rfl | rfl | rfl
  ·exact LW (B2:=B2) (B4:=B4) hS ok0 (by kernel_rfl) (by kernel_rfl) (by kernel_rfl)
  ·exact LX (B2:=B2) (B4:=B4) hS ok0 hc0 (by kernel_rfl) (by kernel_rfl) (by kernel_rfl)
  ·exact LW (B2:=B2) (B4:=B4) hS ok1 (by kernel_rfl) (by kernel_rfl) (by kernel_rfl)
  ·exact LX (B2:=B2) (B4:=B4) hS ok1 hc1 (by kernel_rfl) (by kernel_rfl) (by kernel_rfl)
 ·intro x hx
  rcases bH.1 hx with hx | hx
  ·exact hw x hx
  simp only [ag,ae,or_false] at hx
  rcases hx with rfl | rfl
  ·exact ⟨⟨lM,by simpa using hb.aM _ eM⟩,aO _,by exact cM0⟩
  ·exact ⟨⟨lM,by simpa using hb.aM _ eM⟩,aO _,by exact cM1⟩
 ·refine ⟨fun e he=>?_,fun e he=>?_,fun e he=>by cases he⟩
  ·simp only [fG,ag,ae,or_false] at he
   rcases he with rfl | rfl
   ·exact ⟨⟨bM,oM,none⟩,B4.2.1,B4.2.2,0,2,(by show B4=_; rw [←eM]),rfl,rfl,by omega,(by rw [hb.b3]; simp),rfl,rfl⟩
   ·exact ⟨⟨bM,oM,none⟩,B4.2.1,B4.2.2,1,2,(by show B4=_; rw [←eM]),rfl,rfl,by omega,(by rw [hb.b3]; simp),rfl,rfl⟩
  ·simp only [fG,ag,ae,or_false] at he
   subst he
   exact ⟨2,by show some (num 2)=some (.int .i64 (B4.2.1:Nat)); rw [hb.b3]; rfl⟩
 ·match gn,nl,e1,e2 with
  | [g1,g2],[],_,_ =>
   simp only [bN,bZ] at hs
   exact hQ a' w' g1 g2 (e4 g1 (by simp)).1 (e4 g2 (by simp)).1 (by simpa using e3) hs hk'
end Go.Proofs
end
