/-
  Part of the proof: see the last text.
-/
import Derived.Test.YthbfmjlcnfgnbaaGreatZWn
set_option linter.unusedVariables false
set_option maxHeartbeats 8000000
open Array renaming getD_eq_getD_getElem?→bI,getElem?_eq_some_iff→aB
open Go.IntKind renaming i64→bg
open Go.IntWalk renaming i64_in→dz
open List.cons renaming injEq→afj
open List renaming cons_append→dw,getElem?_append_left→aH,getElem?_append_right→bu,getElem?_eq_getElem→ah,getElem?_eq_some_iff→ai,getElem?_map→bY,length→ae1,length_nil→aeT,map_cons→dI,map_nil→ae9,mem_append→bH,mem_append_left→aeY,mem_append_right→dm,mem_cons→ag,mem_cons_of_mem→aT,mem_cons_self→aA,mem_map→aeZ,mem_of_getElem?→aN,nil_append→dD,not_mem_nil→ae
open Nat renaming lt_of_lt_of_le→aC,succ_pos→aO
open Option renaming map_eq_some_iff→aR
open Option.some renaming injEq→ak
open Prod.mk renaming injEq→aP
open Go.Proofs.Tryz renaming f41→aD,prog→aa
open Go.World renaming cell?→bS
section
namespace Go.Proofs
open Go.Sm Go.RowKit En
set_option maxHeartbeats 8000000
def ER:JV:=⟨⟨#[]⟩,0,-1,0,0,0,0,0,0,0,0,0⟩
def p8 (js:List JV) (axs ogs:List V6) (at_:V6) (acc:List Int×List V6×Bool) (j:Int):List Int×List V6×Bool :=
 bif (js.getD j.toNat ER).kind==0 then acc else
 bif kG (js.getD j.toNat ER).kind then (acc.1++[j],acc.2.1++[sj at_ (ogs.getD j.toNat .z) (axs.getD j.toNat .z)],DF acc.2.2 at_ (ogs.getD j.toNat .z) (axs.getD j.toNat .z))
 else (acc.1++[j],acc.2.1++[axs.getD j.toNat .z],acc.2.2)
structure Hq (w:World) (ex:List Nat) (nc:Nat) (B0 A O K:dY) (js:List JV) (axs ogs:List V6) (ks:List Int):Prop where
 b0:B0.2.1=js.length
 aL:A.2.1=axs.length
 oL:O.2.1=ogs.length
 kL:K.2.1=ks.length
 l1:axs.length=js.length
 l2:ogs.length=js.length
 sB:Sl w B0.1 12 (js.map JV.vals)
 sA:Sl w A.1 7 (axs.map (V6.cs nc))
 sO:Sl w O.1 7 (ogs.map (V6.cs nc))
 sK:Sl w K.1 1 (fF ks)
 xB:∀a,B0.1=some a→a.block∉ex
 xA:∀a,A.1=some a→a.block∉ex
 xO:∀a,O.1=some a→a.block∉ex
 xK:∀a,K.1=some a→a.block∉ex
 kj:∀(i:Nat) (j:Int),ks[i]?=some j→0≤j∧j<js.length
 k3:ks.length≤100
 lt:∀g∈ex,g<w.heap.size
def xD (wC:World) (nc nr n6 nb n14 n15:Nat) (B0 B1 Lk O A M K:dY) (k m eT:Int) (at_:V6) (c i:Nat) (acc:List Int×List V6×Bool) (a:Act) (w:World):Prop :=
 ∃J V:dY,dP (dS 137 [(0,dK nc),(4,dK nr),(6,dK n6),(7,dJ Lk),(8,dK nb),(9,dJ O),(64,dJ B1),(65,num (m)),(66,num (k)),(14,dK n14),(15,dK n15),(87,dJ K),(88,num (c:Nat)),(89,num (i:Nat))]) [(nc,[.bool (acc.2.2)],88)] [(nr,[dJ B0,dJ B1],35),(n6,[.pointer none,.slice none 0 0,.slice none 0 0,.slice none 0 0,.slice none 0 0],92),(nb,[dK nc,dJ B0,dJ B1,dJ A,dJ M],92),(n14,[dK nc,num at_.a,num at_.b,num at_.c,num at_.d,num at_.e,num at_.f],98),(n15,[num (eT),dJ J,dJ V],95)] a w∧dO wC [nc,nr,n6,nb,n14,n15] w∧Grow w J 1 3 acc.1.length (acc.1.map num)∧Grow w V 7 98 acc.2.1.length (acc.2.1.flatMap (V6.cs nc))∧(∀g∈blk J,wC.heap.size≤g)∧(∀g∈blk V,wC.heap.size≤g)∧(∀g∈blk J,g∉blk V)∧acc.1.length≤i∧acc.2.1.length=acc.1.length
theorem Y7:(rE (dN aD))=fB [dZ (rE (dN aD)),dZ (fU (rE (dN aD)))] (fU (fU (rE (dN aD)))):=by kernel_rfl
theorem Wp:(fU (fU (rE (dN aD))))=.seq (.block 5 (nN (dN aD))) (sR 3 (rE (dN aD))):=by kernel_rfl
theorem Ww:(nN (dN aD))=fB [(dZ (nN (dN aD))),(dZ (fU (nN (dN aD)))),(dZ (fU (fU (nN (dN aD))))),(dZ (sR 3 (nN (dN aD)))),(dZ (sR 4 (nN (dN aD))))] (.seq (qg (dN aD)) (qj (dN aD))):=by kernel_rfl
variable {wC:World}
theorem sW {ex:List Nat} {S:dY} (h:∀g∈blk S,wC.heap.size≤g) (hl:∀g∈ex,g<wC.heap.size):∀g∈blk S,g∉ex:=fun g hg hm=>by have:=h g hg; have:=hl g hm; omega
variable {i:Nat}
theorem G8 (h:i≤1000):bg.wrap ((i:Int)+1)=((i+1:Nat):Int):=by rw [dz _ (by omega)]; omega
theorem wO {α:Type} {l:List α} {x d:α} (h:l[i]?=some x):l.getD i d=x:=by simp [List.getD,h]
theorem Yp {nc nr n6 nb n14 n15:Nat} {B0 B1 Lk O A M K:dY} {k m eT:Int} {at_:V6} {js:List JV} {axs ogs:List V6} {ks:List Int} {acc:List Int×List V6×Bool} {j:Int} {a:Act} {w:World} {Q:Exit→Act→World→Prop} (hC:Hq wC [nc,nr,n6,nb,n14,n15] nc B0 A O K js axs ogs ks) (hi:ks[i]?=some j) (hV:xD wC nc nr n6 nb n14 n15 B0 B1 Lk O A M K k m eT at_ ks.length i acc a w) (hQ:∀a' w',xD wC nc nr n6 nb n14 n15 B0 B1 Lk O A M K k m eT at_ ks.length (i+1) (p8 js axs ogs at_ acc j) a' w'→Q .normal a' w'):(rE (dN aD)).wp aa Q a w:=by
 obtain ⟨J,V,s,hk,gJ,gV,fJ,fV,hne,hl1,hl2⟩:=hV
 have hlt:i<ks.length:=(ai.1 hi).1
 have hk3:=hC.k3
 have hi1:i≤1000:=by omega
 obtain ⟨j0,j1⟩:=hC.kj i j hi
 obtain ⟨jv,hj⟩:∃jv,js[j.toNat]?=some jv:=⟨_,ah (by omega)⟩
 obtain ⟨ax,hax⟩:∃ax,axs[j.toNat]?=some ax:=⟨_,ah (by have:=hC.l1; omega)⟩
 obtain ⟨og,hog⟩:∃og,ogs[j.toNat]?=some og:=⟨_,ah (by have:=hC.l2; omega)⟩
 have hjn:((j.toNat:Nat):Int)=j:=by omega
 obtain ⟨bK,oK,rK⟩:=iy hC.sK (by simp [fF,hC.kL]) (show (fF ks)[i]?=some [num j] by simp [fF,hi,num]) (aO _) hC.xK
 obtain ⟨bB,oB,rB⟩:=iy hC.sB (by simp [hC.b0]) (show (js.map JV.vals)[j.toNat]?=some jv.vals by simp [hj]) (aO _) hC.xB
 obtain ⟨bA,oA,rA⟩:=iy hC.sA (by simp [hC.aL]) (show (axs.map (V6.cs nc))[j.toNat]?=some (ax.cs nc) by simp [hax]) (aO _) hC.xA
 obtain ⟨bO,oO,rO⟩:=iy hC.sO (by simp [hC.oL]) (show (ogs.map (V6.cs nc))[j.toNat]?=some (og.cs nc) by simp [hog]) (aO _) hC.xO
 rw [hjn] at rB rA rO
 have hxx:∀g∈[nc,nr,n6,nb,n14,n15],g∈[nc,nr,n6,nb,n14,n15]∨wC.heap.size≤g:=fun g hg=>.inl hg
 rw [Y7]
 refine VY (w0:=w) (ex':=[nr,n6,nb,n14,n15]) (link:=0) (p0:=0) (p1:=0) (p2:=0) (at_:=at_) (by simpa using hlt) (fun q hq=>.inl (by simpa using hq)) s.nd s (dO.refl w _) fun a1 w1 s1 k1=>?_
 have hk1:=hk.trans k1
 have nJ:=sW fJ hC.lt
 have nV:=sW fV hC.lt
 have gJ1:=gJ.keep k1 nJ
 have gV1:=gV.keep k1 nV
 by_cases hf:jv.kind=0
 ·have hst:p8 js axs ogs at_ acc j=acc:=by unfold p8; rw [wO hj]; simp [hf]
  refine VW (w0:=w1) (ex':=[nr,n6,nb,n14,n15]) (j:=j) (jv:=jv) (link:=0) (p0:=0) (p1:=0) (p2:=0) (at_:=at_) (by simp [hf]) (rK.mv hk1 hxx) (rB.mv hk1 hxx) (fun q hq=>.inl (by simpa using hq)) s1.nd s1 (dO.refl w1 _) fun a2 w2 s2 k2=>hQ a2 w2 ?_
  rw [G8 hi1] at s2
  rw [hst]
  exact ⟨J,V,s2,hk1.trans k2,gJ1.keep k2 nJ,gV1.keep k2 nV,fJ,fV,hne,by omega,hl2⟩
 have hfb:(jv.kind==0)=false:=by simp [hf]
 rw [Wp]
 refine wp_seq (wp_block ?_)
 rw [Ww]
 by_cases ht:kG jv.kind=true
 ·have hst:p8 js axs ogs at_ acc j=(acc.1++[j],acc.2.1++[sj at_ og ax],DF acc.2.2 at_ og ax):=by unfold p8; rw [wO hj,wO hax,wO hog,hfb,ht]; rfl
  refine Wj (w0:=w1) (ex':=[nr,n6,nb,n14,n15]) (j:=j) (jv:=jv) (ax:=ax) (og:=og) (link:=0) (p0:=0) (p1:=0) (p2:=0) (at_:=at_) (by simp [hf]) ht (rK.mv hk1 hxx) (rB.mv hk1 hxx) (rA.mv hk1 hxx) (rO.mv hk1 hxx) (fun q hq=>.inl (by simpa using hq)) s1.nd s1 (dO.refl w1 _) fun a2 w2 n19 hn nd2 s2 k2=>?_
  refine wp_seq (Nq (link:=0) (p0:=0) (p1:=0) (p2:=0) s2 (gJ1.keep k2 nJ) (by omega) (fun g hg hm=>?_) fun a3 w3 J' s3 g3 k3 f3=>?_)
  ·have h1:=nJ g hg
   have h2:=gJ1.lt g hg
   have h3:=(hn n19 (by simp)).1
   simp only [ag,ae,or_false] at hm h1
   rcases hm with r | r | r | r | r | r | r<;>first | omega | exact h1 (by simp [r])
  have n19f:∀g∈blk V,g∉[nc,nr,n6,nb,n14,n15,n19]:=fun g hg hm=>by
   have h1:=nV g hg
   have h2:=gV1.lt g hg
   have h3:=(hn n19 (by simp)).1
   simp only [ag,ae,or_false] at hm h1
   rcases hm with r | r | r | r | r | r | r<;>first | omega | exact h1 (by simp [r])
  have gV3:=(gV1.keep k2 nV).keep k3 fun g hg hm=>by
   rcases bH.1 hm with r | r
   ·exact hne g r hg
   ·exact n19f g hg r
  refine Nr (link:=0) (p0:=0) (p1:=0) (p2:=0) s3 gV3 (by omega) n19f fun a4 w4 V' s4 g4 k4 f4=>?_
  have z1:=hk1.size; have z2:=k2.size; have z3:=k3.size; have z4:=k4.size
  have gg:∀g∈blk V',wC.heap.size≤g:=fun g hg=>by rcases f4 g hg with r | r; exact fV g r; omega
  have gj:∀g∈blk J',wC.heap.size≤g:=fun g hg=>by rcases f3 g hg with r | r; exact fJ g r; omega
  have n19g:wC.heap.size≤n19:=by have:=(hn n19 (by simp)).1; omega
  have hne':∀g∈blk J',g∉blk V':=fun g hg hm=>by
   have h1:=g3.lt g hg
   rcases f3 g hg with r | r
   ·rcases f4 g hm with q | q
    ·exact hne g r q
    ·omega
   ·rcases f4 g hm with q | q
    ·have:=gV1.lt g q; omega
    ·omega
  have nJ':∀g∈blk J',g∉blk V++[nc,nr,n6,nb,n14,n15,n19]:=fun g hg hm=>by
   rcases bH.1 hm with r | r
   ·rcases f3 g hg with q | q
    ·exact hne g q r
    ·have:=gV1.lt g r; omega
   ·have h1:=qE s2 g (by simpa using r)
    rcases f3 g hg with q | q
    ·have h2:=nJ g q
     have h3:=gJ1.lt g q
     have h4:=(hn n19 (by simp)).1
     simp only [ag,ae,or_false] at r h2
     rcases r with r | r | r | r | r | r | r<;>first | omega | exact h2 (by simp [r])
    ·omega
  have hk4:dO wC [nc,nr,n6,nb,n14,n15] w4:=((hk1.comp k2 fun g hg=>.inl (by simpa using hg)).comp k3 fun g hg=>?_).comp k4 fun g hg=>?_
  rotate_left
  ·rcases bH.1 hg with r | r
   ·exact .inr (fJ g r)
   ·simp only [ag,ae,or_false] at r ⊢
    rcases r with r | r | r | r | r | r | r<;>first | (exact .inr (r▸n19g)) | (left; simp [r])
  ·rcases bH.1 hg with r | r
   ·exact .inr (fV g r)
   ·simp only [ag,ae,or_false] at r ⊢
    rcases r with r | r | r | r | r | r | r<;>first | (exact .inr (r▸n19g)) | (left; simp [r])
  have s5:=dP.sub (l':=[(0,dK nc),(4,dK nr),(6,dK n6),(7,dJ Lk),(8,dK nb),(9,dJ O),(64,dJ B1),(65,num (m)),(66,num (k)),(14,dK n14),(15,dK n15),(87,dJ K),(88,num (ks.length:Nat)),(89,num (i:Nat))]) (gs':=[(nc,[.bool (DF acc.2.2 at_ og ax)],88)]) (ls':=[(nr,[dJ B0,dJ B1],35),(n6,[.pointer none,.slice none 0 0,.slice none 0 0,.slice none 0 0,.slice none 0 0],92),(nb,[dK nc,dJ B0,dJ B1,dJ A,dJ M],92),(n14,[dK nc,num at_.a,num at_.b,num at_.c,num at_.d,num at_.e,num at_.f],98),(n15,[num (eT),dJ J',dJ V'],95)]) s4 (fun x hx=>by
   simp only [ag,ae,or_false] at hx
   rcases hx with rfl | rfl | rfl | rfl | rfl | rfl | rfl | rfl | rfl | rfl | rfl | rfl | rfl | rfl<;>rfl) (fun x hx=>hx) (fun x hx=>by
   simp only [ag,ae,or_false] at hx ⊢
   rcases hx with r | r | r | r | r<;>simp [r]) s.nd
  refine MK (w0:=w4) (ex':=[nr,n6,nb,n14,n15]) (link:=0) (p0:=0) (p1:=0) (p2:=0) (at_:=at_) (fun q hq=>.inl (by simpa using hq)) s5.nd s5 (dO.refl w4 _) fun a5 w5 s6 k6=>hQ a5 w5 ?_
  rw [G8 hi1] at s6
  rw [hst]
  refine ⟨J',V',s6,hk4.trans k6,?_,?_,gj,gg,hne',by simp; omega,by simp [hl2]⟩
  ·have:=(g3.keep k4 nJ').keep k6 (sW gj hC.lt)
   simpa using this
  ·have:=g4.keep k6 (sW gg hC.lt)
   simpa using this
 ·have hst:p8 js axs ogs at_ acc j=(acc.1++[j],acc.2.1++[ax],acc.2.2):=by unfold p8; rw [wO hj,wO hax,hfb,show kG jv.kind=false by simpa using ht]; rfl
  refine Wi (w0:=w1) (ex':=[nr,n6,nb,n14,n15]) (j:=j) (jv:=jv) (ax:=ax) (link:=0) (p0:=0) (p1:=0) (p2:=0) (at_:=at_) (by simp [hf]) (by simpa using ht) (rK.mv hk1 hxx) (rB.mv hk1 hxx) (rA.mv hk1 hxx) (fun q hq=>.inl (by simpa using hq)) s1.nd s1 (dO.refl w1 _) fun a2 w2 n19 hn nd2 s2 k2=>?_
  refine wp_seq (Nq (link:=0) (p0:=0) (p1:=0) (p2:=0) s2 (gJ1.keep k2 nJ) (by omega) (fun g hg hm=>?_) fun a3 w3 J' s3 g3 k3 f3=>?_)
  ·have h1:=nJ g hg
   have h2:=gJ1.lt g hg
   have h3:=(hn n19 (by simp)).1
   simp only [ag,ae,or_false] at hm h1
   rcases hm with r | r | r | r | r | r | r<;>first | omega | exact h1 (by simp [r])
  have n19f:∀g∈blk V,g∉[nc,nr,n6,nb,n14,n15,n19]:=fun g hg hm=>by
   have h1:=nV g hg
   have h2:=gV1.lt g hg
   have h3:=(hn n19 (by simp)).1
   simp only [ag,ae,or_false] at hm h1
   rcases hm with r | r | r | r | r | r | r<;>first | omega | exact h1 (by simp [r])
  have gV3:=(gV1.keep k2 nV).keep k3 fun g hg hm=>by
   rcases bH.1 hm with r | r
   ·exact hne g r hg
   ·exact n19f g hg r
  refine Nr (link:=0) (p0:=0) (p1:=0) (p2:=0) s3 gV3 (by omega) n19f fun a4 w4 V' s4 g4 k4 f4=>?_
  have z1:=hk1.size; have z2:=k2.size; have z3:=k3.size; have z4:=k4.size
  have gg:∀g∈blk V',wC.heap.size≤g:=fun g hg=>by rcases f4 g hg with r | r; exact fV g r; omega
  have gj:∀g∈blk J',wC.heap.size≤g:=fun g hg=>by rcases f3 g hg with r | r; exact fJ g r; omega
  have n19g:wC.heap.size≤n19:=by have:=(hn n19 (by simp)).1; omega
  have hne':∀g∈blk J',g∉blk V':=fun g hg hm=>by
   have h1:=g3.lt g hg
   rcases f3 g hg with r | r
   ·rcases f4 g hm with q | q
    ·exact hne g r q
    ·omega
   ·rcases f4 g hm with q | q
    ·have:=gV1.lt g q; omega
    ·omega
  have nJ':∀g∈blk J',g∉blk V++[nc,nr,n6,nb,n14,n15,n19]:=fun g hg hm=>by
   rcases bH.1 hm with r | r
   ·rcases f3 g hg with q | q
    ·exact hne g q r
    ·have:=gV1.lt g r; omega
   ·have h1:=qE s2 g (by simpa using r)
    rcases f3 g hg with q | q
    ·have h2:=nJ g q
     have h3:=gJ1.lt g q
     have h4:=(hn n19 (by simp)).1
     simp only [ag,ae,or_false] at r h2
     rcases r with r | r | r | r | r | r | r<;>first | omega | exact h2 (by simp [r])
    ·omega
  have hk4:dO wC [nc,nr,n6,nb,n14,n15] w4:=((hk1.comp k2 fun g hg=>.inl (by simpa using hg)).comp k3 fun g hg=>?_).comp k4 fun g hg=>?_
  rotate_left
  ·rcases bH.1 hg with r | r
   ·exact .inr (fJ g r)
   ·simp only [ag,ae,or_false] at r ⊢
    rcases r with r | r | r | r | r | r | r<;>first | (exact .inr (r▸n19g)) | (left; simp [r])
  ·rcases bH.1 hg with r | r
   ·exact .inr (fV g r)
   ·simp only [ag,ae,or_false] at r ⊢
    rcases r with r | r | r | r | r | r | r<;>first | (exact .inr (r▸n19g)) | (left; simp [r])
  have s5:=dP.sub (l':=[(0,dK nc),(4,dK nr),(6,dK n6),(7,dJ Lk),(8,dK nb),(9,dJ O),(64,dJ B1),(65,num (m)),(66,num (k)),(14,dK n14),(15,dK n15),(87,dJ K),(88,num (ks.length:Nat)),(89,num (i:Nat))]) (gs':=[(nc,[.bool (acc.2.2)],88)]) (ls':=[(nr,[dJ B0,dJ B1],35),(n6,[.pointer none,.slice none 0 0,.slice none 0 0,.slice none 0 0,.slice none 0 0],92),(nb,[dK nc,dJ B0,dJ B1,dJ A,dJ M],92),(n14,[dK nc,num at_.a,num at_.b,num at_.c,num at_.d,num at_.e,num at_.f],98),(n15,[num (eT),dJ J',dJ V'],95)]) s4 (fun x hx=>by
   simp only [ag,ae,or_false] at hx
   rcases hx with rfl | rfl | rfl | rfl | rfl | rfl | rfl | rfl | rfl | rfl | rfl | rfl | rfl | rfl<;>rfl) (fun x hx=>hx) (fun x hx=>by
   simp only [ag,ae,or_false] at hx ⊢
   rcases hx with r | r | r | r | r<;>simp [r]) s.nd
  refine MK (w0:=w4) (ex':=[nr,n6,nb,n14,n15]) (link:=0) (p0:=0) (p1:=0) (p2:=0) (at_:=at_) (fun q hq=>.inl (by simpa using hq)) s5.nd s5 (dO.refl w4 _) fun a5 w5 s6 k6=>hQ a5 w5 ?_
  rw [G8 hi1] at s6
  rw [hst]
  refine ⟨J',V',s6,hk4.trans k6,?_,?_,gj,gg,hne',by simp; omega,by simp [hl2]⟩
  ·have:=(g3.keep k4 nJ').keep k6 (sW gj hC.lt)
   simpa using this
  ·have:=g4.keep k6 (sW gg hC.lt)
   simpa using this
end Go.Proofs
end
section
namespace Go.Proofs
open Go.Sm Go.RowKit En
set_option maxHeartbeats 8000000
variable {wC w:World} {nc nr n6 nb n14 n15:Nat} {B0 B1 Lk O A M K:dY} {m eT:Int} {at_:V6} {ks:List Int} {acc:List Int×List V6×Bool} {a:Act} {Q:Exit→Act→World→Prop}
theorem Yn {k:Int} (hlt:∀g∈[nc,nr,n6,nb,n14,n15],g<wC.heap.size) (hV:xD wC nc nr n6 nb n14 n15 B0 B1 Lk O A M K k m eT at_ ks.length ks.length acc a w) (hQ:∀a' w',xD wC nc nr n6 nb n14 n15 B0 B1 Lk O A M K k m eT at_ ks.length ks.length acc a' w'→Q (.exit 4) a' w'):(rE (dN aD)).wp aa Q a w:=by
 obtain ⟨J,V,s,hk,gJ,gV,fJ,fV,hne,hl1,hl2⟩:=hV
 refine Wl (w0:=w) (ex':=[nr,n6,nb,n14,n15]) (link:=0) (p0:=0) (p1:=0) (p2:=0) (at_:=at_) (by simp) (fun q hq=>.inl (by simpa using hq)) s.nd s (dO.refl w _) fun a1 w1 s1 k1=>hQ a1 w1 ?_
 exact ⟨J,V,s1,hk.trans k1,gJ.keep k1 (sW fJ hlt),gV.keep k1 (sW fV hlt),fJ,fV,hne,hl1,hl2⟩
theorem Wo:(fU (CS (dN aD)))=.block 4 (.loop (rE (dN aD))):=by kernel_rfl
variable {gs ls:List gQ}
theorem UE {n t:Nat} {l:List (Nat×Value)} {x:Int} (h:dP (dS n l) gs ls a w) (ht:t<n) (e:lookO t l=some (num x)):intOf (a.tmps.getD t undef)=x:=by
 have:=h.fr t (num x) (Aa ht e)
 rw [bI,this]; simp [intOf,num]
variable {js:List JV}
theorem Yo {k:Int} {axs ogs:List V6} (hC:Hq wC [nc,nr,n6,nb,n14,n15] nc B0 A O K js axs ogs ks) (hV:xD wC nc nr n6 nb n14 n15 B0 B1 Lk O A M K k m eT at_ ks.length 0 acc a w) (hQ:∀a' w',xD wC nc nr n6 nb n14 n15 B0 B1 Lk O A M K k m eT at_ ks.length ks.length (ks.foldl (p8 js axs ogs at_) acc) a' w'→Q .normal a' w'):(fU (CS (dN aD))).wp aa Q a w:=by
 rw [Wo]
 refine wp_block (wp_loop (fun a w=>∃i,i≤ks.length∧xD wC nc nr n6 nb n14 n15 B0 B1 Lk O A M K k m eT at_ ks.length i ((ks.take i).foldl (p8 js axs ogs at_) acc) a w) (fun a _=>ks.length - (intOf (a.tmps.getD 89 undef)).toNat) ⟨0,Nat.zero_le _,hV⟩ ?_)
 rintro a2 w2 ⟨i,hi,hI⟩
 by_cases hl:i=ks.length
 ·subst hl
  rw [List.take_length] at hI
  exact Yn hC.lt hI fun a3 w3 h3=>hQ a3 w3 h3
 ·obtain ⟨j,hj⟩:∃j,ks[i]?=some j:=⟨_,ah (by omega)⟩
  have e1:∀a w i acc,xD wC nc nr n6 nb n14 n15 B0 B1 Lk O A M K k m eT at_ ks.length i acc a w→intOf (a.tmps.getD 89 undef)=i:=fun a w i acc h=>by
   obtain ⟨J,V,s,_⟩:=h
   exact UE s (by decide) rfl
  refine Yp hC hj hI fun a3 w3 h3=>?_
  refine ⟨⟨i+1,by omega,?_⟩,?_⟩
  ·have:ks.take (i+1)=ks.take i++[j]:=by rw [List.take_add_one,hj]; rfl
   rw [this,List.foldl_append]
   exact h3
  ·rw [e1 _ _ _ _ hI,e1 _ _ _ _ h3]
   omega
theorem U3 (js:List JV) (axs ogs:List V6) (at_:V6):∀(ks:List Int) (acc:List Int×List V6×Bool) (x:Int),x∈(ks.foldl (p8 js axs ogs at_) acc).1→x∈acc.1∨x∈ks
 | [],_,x,h=>.inl h
 | k::ks,acc,x,h=>by
  rcases U3 js axs ogs at_ ks _ x h with r | r
  ·unfold p8 at r
   cases h1:((js.getD k.toNat ER).kind==0) with
   | true=>rw [h1] at r; exact .inl r
   | false =>
    rw [h1] at r
    cases h2:kG (js.getD k.toNat ER).kind<;>rw [h2] at r<;>simp only [cond_false,cond_true,bH,ag,ae,or_false] at r<;>rcases r with r | r
    ·exact .inl r
    ·exact .inr (r▸aA)
    ·exact .inl r
    ·exact .inr (r▸aA)
  ·exact .inr (aT _ r)
theorem M5 {js:List JV} (hp:∀(i:Nat) (j:JV),js[i]?=some j→-1≤j.parent∧j.parent<i):∀(n:Nat) (link:Int) (ks:List Int),-1≤link→link<js.length→(∀x∈ks,0≤x∧x<js.length)→(∀x∈jd js n link ks,0≤x∧x<js.length)∧(jd js n link ks).length≤n+ks.length
 | 0,link,ks,_,_,h=>⟨h,by simp [jd]⟩
 | n+1,link,ks,h0,h1,h=>by
  unfold jd
  split
  ·exact ⟨h,by omega⟩
  ·rename_i hne
   obtain ⟨j,hj⟩:∃j,js[link.toNat]?=some j:=⟨_,ah (by omega)⟩
   obtain ⟨q0,q1⟩:=hp _ j hj
   have e:(js.getD link.toNat ⟨⟨#[]⟩,0,-1,0,0,0,0,0,0,0,0,0⟩).parent=j.parent:=by rw [wO hj]
   rw [e]
   obtain ⟨r1,r2⟩:=M5 hp n j.parent (link::ks) q0 (by omega) (fun x hx=>by rcases ag.1 hx with r | r; (subst r; omega); exact h x r)
   exact ⟨r1,by simp at r2; omega⟩
structure Ae (c:Code) (k:Nat) (f:FuncId) (xs:List Tmp) (d:Tmp):Prop where
 h:∃(o:Oper) (ts:Array TypeId) (fn:Func),(opsOf c).drop k=o::(opsOf c).drop (k+1)∧o.guard=none∧o.dst=some d∧o.op=.call { callee:=.value (.func f),args:=(xs.map Operand.tmp).toArray,argTypes:=ts }∧aa.funcs[f]?=some fn∧fn.body.isSome=true
def tmpsOf:List Operand→Option (List Tmp)
 | []=>some []
 | .tmp t::l=>match tmpsOf l with
  | some r=>some (t::r)
  | none=>none
 | _=>none
theorem UJ:∀(l:List Operand) (r:List Tmp),tmpsOf l=some r→l=r.map Operand.tmp
 | [],r,h=>by simp only [tmpsOf,ak] at h; subst h; rfl
 | .tmp t::l,r,h=>by
  unfold tmpsOf at h
  split at h
  ·rename_i r' hr; injection h with h; subst h; rw [UJ l r' hr]; rfl
  ·cases h
 | .const _::_,_,h | .global _::_,_,h | .func _::_,_,h=>by cases h
def Na (P:Program) (c:Code) (k:Nat):Option (FuncId×List Tmp×Tmp):=match (opsOf c)[k]? with
 | some o=>match o.guard,o.dst,o.op with
  | none,some d,.call ⟨.value (.func f),ags,_⟩=>match P.funcs[f]?,tmpsOf ags.toList with
   | some fn,some xs=>bif fn.body.isSome then some (f,xs,d) else none
   | _,_=>none
  | _,_,_=>none
 | none=>none
variable {c:Code} {k:Nat} {f:FuncId}
theorem Eg {xs:List Tmp} {d:Tmp} (h:Na aa c k=some (f,xs,d)):Ae c k f xs d:=by
 unfold Na at h
 split at h
 case h_2=>cases h
 rename_i o ho
 split at h
 case h_2=>cases h
 rename_i d' f' ags ts h1 h2 h3
 split at h
 case h_2=>cases h
 rename_i fn xs' h4 h5
 cases hb:fn.body.isSome with
 | false=>rw [hb] at h; cases h
 | true =>
  rw [hb] at h
  simp only [cond_true,ak,aP] at h
  obtain ⟨rfl,rfl,rfl⟩:=h
  obtain ⟨hlt,he⟩:=ai.1 ho
  have:=UJ _ _ h5
  refine ⟨o,ts,fn,by rw [←he]; exact List.drop_eq_getElem_cons hlt,h1,h2,?_,h4,hb⟩
  rw [h3,←this]
theorem Eh {xs:List Tmp} {d:Tmp} {us:List (Option Value)} {vs:List Value} {R:Ending→World→Prop} (hA:Ae c k f xs d) (h:dP us gs ls a w) (hx:xs.map (fun x=>us[x]?)=vs.map (fun v=>some (some v))) (hC:Calls aa f vs.toArray w R) (hR:∀e w',R e w'→∃v,e=.returned v∧wpList aa (opsOf c).toArray Q ((opsOf c).drop (k+1)) (a.put (some d) v) w'):wpList aa (opsOf c).toArray Q ((opsOf c).drop k) a w:=by
 obtain ⟨o,ts,fn,h1,h2,h3,h4,h5,h6⟩:=hA.h
 rw [h1]
 refine MZ Tryz.ky h2 h4 h5 h6 (xs:=vs) ?_ (hC.mono fun e w' hr=>?_)
 ·simp only [List.map_map]
  have key:∀(xs:List Tmp) (vs:List Value),xs.map (fun x=>us[x]?)=vs.map (fun v=>some (some v))→xs.map (a.eval∘Operand.tmp)=vs:=by
   intro xs
   induction xs with
   | nil=>intro vs h; cases vs with | nil=>rfl | cons v vs=>cases h
   | cons x xs ih =>
    intro vs h'
    cases vs with
    | nil=>cases h'
    | cons v vs =>
     simp only [dI,afj] at h'
     simp only [dI,Function.comp,afj]
     exact ⟨GV h h'.1,ih vs h'.2⟩
  exact key xs vs hx
 ·obtain ⟨v,e1,e2⟩:=hR e w' hr
  rw [h3]
  exact ⟨v,e1,e2⟩
theorem call15:Ae (qN (dN aD)) 3 73 [84,86] 87:=Eg (by kernel_rfl)
def zB (g:Nat):List Int→dY
 | []=>(none,0,0)
 | k::ks=>(some ⟨g,0,none⟩,ks.length+1,ks.length+1)
theorem YX (g:Nat):∀ks,mH g ks=dJ (zB g ks)
 | []=>rfl
 | _::_=>rfl
theorem Pq (g:Nat):∀ks,(zB g ks).2.1=ks.length
 | []=>rfl
 | _::_=>rfl
variable {g:Nat}
theorem YZ {a:Addr}:∀{ks},(zB g ks).1=some a→ks≠[]∧a=⟨g,0,none⟩
 | [],h=>by cases h
 | _::_,h=>by injection h with h; exact ⟨(by simp),h.symm⟩
theorem YY (h:ks≠[]→w.heap[g]?=some (.cells ⟨ks.map num⟩ 3 (0,0))):Sl w (zB g ks).1 1 (fF ks):=fun h0=>by
 match ks,h0 with
 | k::ks,_ =>
  have h1:=h (by simp)
  refine ⟨g,0,rfl,(aB.1 h1).1,fun i r hi q v hv=>?_⟩
  simp only [fF,bY,aR] at hi
  obtain ⟨x,x1,rfl⟩:=hi
  match q,hv with
  | 0,hv =>
   simp only [List.getElem?_cons_zero,ak] at hv
   subst hv
   have h3:(List.map num (k::ks))[i]?=some (.int .i64 x):=by rw [bY,x1]; rfl
   simp only [bS,h1,Nat.mul_one,Nat.add_zero,Nat.zero_add]
   simpa using h3
  | _+1,hv=>simp at hv
theorem FV:∀ks:List Int,(fF ks).flatten=ks.map num
 | []=>rfl
 | k::ks=>by
  show [.int .i64 k]++(fF ks).flatten=_
  rw [FV ks]; rfl
structure MD where
 wt:Int
 ks:List Int
 vs:List V6
def MB.md (m:MB):MD:=⟨m.wt,m.ks,m.vs⟩
def pz:iF:=fun _=>0
def nu (js:List JV) (Ps:List iF):List V6:=List.zipWith (fun j P=>nz j.kind P) js Ps
def Kj (js:List JV) (Ps:List iF) (mv:MV) (f:Bool):MD×Bool :=
 (fun r:List Int×List V6×Bool=>(⟨mv.eT,r.1,r.2.1⟩,r.2.2)) ((jd js 4 mv.link []).foldl (p8 js (nu js Ps) (Ps.map kM) (jS (Ps.getD mv.link.toNat pz) mv.p0 mv.p1 mv.p2)) ([],[],f))
def yt (js:List JV) (Ps:List iF) (acc:List MD×Bool) (mv:MV):List MD×Bool:=(acc.1++[(Kj js Ps mv acc.2).1],(Kj js Ps mv acc.2).2)
structure Ah (w:World) (ex:List Nat) (nc:Nat) (B0 B1 Lk O A:dY) (js:List JV) (mvs:List MV) (Ps:List iF):Prop where
 b0:B0.2.1=js.length
 b1:B1.2.1=mvs.length
 lL:Lk.2.1=Ps.length
 oL:O.2.1=Ps.length
 aL:A.2.1=Ps.length
 pL:Ps.length=js.length
 sB:Sl w B0.1 12 (js.map JV.vals)
 sM:Sl w B1.1 5 (mvs.map MV.vals)
 sL:Sl w Lk.1 24 (Ps.map gT)
 sO:Sl w O.1 7 ((Ps.map kM).map (V6.cs nc))
 sA:Sl w A.1 7 ((nu js Ps).map (V6.cs nc))
 xB:∀a,B0.1=some a→a.block∉ex
 xM:∀a,B1.1=some a→mvs≠[]→a.block∉ex
 xL:∀a,Lk.1=some a→a.block∉ex
 xO:∀a,O.1=some a→a.block∉ex
 xA:∀a,A.1=some a→a.block∉ex
 j3:js.length≤3
 pr:∀(i:Nat) (j:JV),js[i]?=some j→-1≤j.parent∧j.parent<i
 ms:∀(i:Nat) (mv:MV),mvs[i]?=some mv→(0≤mv.link∧mv.link<js.length)∧1≤mv.eT∧mv.eT≤1000000000
 m9:mvs.length≤100
 lt:∀g∈ex,g<w.heap.size
variable {mvs:List MV} {Ps:List iF}
theorem Ah.keep {w':World} {ex ex2:List Nat} (h:Ah w ex nc B0 B1 Lk O A js mvs Ps) (k:dO w ex w'):Ah w' ex nc B0 B1 Lk O A js mvs Ps :=
 { h with sB:=kI h.sB k h.xB,sM:=Uw h.sM k fun a ha h0=>h.xM a ha (by simpa using h0),sL:=kI h.sL k h.xL,sO:=kI h.sO k h.xO,sA:=kI h.sA k h.xA,lt:=fun g hg=>aC (h.lt g hg) k.size }
structure Vu (w1 w:World) (nc n:Nat) (M:dY) (mb:MB):Prop where
 ok:sD w nc n mb
 cap:mb.J.2.1≤mb.J.2.2
 hJ:∀g∈blk mb.J,w1.heap.size≤g∧g<w.heap.size∧g∉blk M
 hV:∀g∈blk mb.V,w1.heap.size≤g∧g<w.heap.size∧g∉blk M
def ML (w1:World) (nc nr n6 nb:Nat) (B0 B1 Lk O A:dY) (js:List JV) (ml k:Nat) (dd:List MD×Bool) (a:Act) (w:World):Prop :=
 ∃(M:dY) (mbs:List MB),dP (dS 137 [(0,dK nc),(4,dK nr),(6,dK n6),(7,dJ Lk),(8,dK nb),(9,dJ O),(64,dJ B1),(65,num (ml:Nat)),(66,num (k:Nat))]) [(nc,[.bool (dd.2)],88)] [(nr,[dJ B0,dJ B1],35),(n6,[.pointer none,.slice none 0 0,.slice none 0 0,.slice none 0 0,.slice none 0 0],92),(nb,[dK nc,dJ B0,dJ B1,dJ A,dJ M],92)] a w∧dO w1 [nc,nr,n6,nb] w∧Grow w M 3 95 k (mbs.flatMap MB.row)∧(∀g∈blk M,w1.heap.size≤g)∧mbs.length=k∧mbs.map MB.md=dd.1∧∀(i:Nat) (mb:MB),mbs[i]?=some mb→Vu w1 w nc js.length M mb
theorem Y4:(uU (dN aD))=fB [dZ (uU (dN aD)),dZ (fU (uU (dN aD)))] (.seq (.block 3 (uT (dN aD))) (sR 3 (uU (dN aD)))):=by kernel_rfl
theorem Wv:(uT (dN aD))=fB [dZ (uT (dN aD)),dZ (fU (uT (dN aD))),dZ (fU (fU (uT (dN aD))))] (.seq (.seq (qN (dN aD)) (fU (CS (dN aD)))) (qm (dN aD))):=by kernel_rfl
theorem Zy {w1:World} {dd:List MD×Bool} {mv:MV} (hC1:Ah w1 [nc,nr,n6,nb] nc B0 B1 Lk O A js mvs Ps) (hmv:mvs[k]?=some mv)
  (hCh:∀w:World,dO w1 [nc,nr,n6,nb] w→Calls aa 73 #[.agg ⟨[dJ B0,dJ B1]⟩,num mv.link] w (vC w (jd js 4 mv.link [])))
  (hV:ML w1 nc nr n6 nb B0 B1 Lk O A js mvs.length k dd a w) (hQ:∀a' w',ML w1 nc nr n6 nb B0 B1 Lk O A js mvs.length (k+1) (yt js Ps dd mv) a' w'→Q .normal a' w'):(uU (dN aD)).wp aa Q a w:=by
 obtain ⟨M,mbs,s,hk,gM,fM,hml,hmd,hmb⟩:=hV
 have hC:=hC1.keep (ex2:=[]) hk
 obtain ⟨⟨q0,q1⟩,q2,q3⟩:=hC.ms k mv hmv
 have hlt:k<mvs.length:=(ai.1 hmv).1
 have hm9:=hC.m9
 have hk1:k≤1000:=by omega
 obtain ⟨P,hP⟩:∃P,Ps[mv.link.toNat]?=some P:=⟨_,ah (by have:=hC.pL; omega)⟩
 obtain ⟨bM,oM,rM⟩:=iy hC.sM (by simp [hC.b1]) (show (mvs.map MV.vals)[k]?=some mv.vals by simp [hmv]) (aO _) (fun a ha=>hC.xM a ha (fun e=>by rw [e] at hmv; simp at hmv))
 obtain ⟨bL,oL,rL⟩:=iy hC.sL (by simp [hC.lL]) (show (Ps.map gT)[mv.link.toNat]?=some (gT P) by simp [hP]) (aO _) hC.xL
 have hln:((mv.link.toNat:Nat):Int)=mv.link:=by omega
 rw [hln] at rL
 have nM:∀g∈blk M,g∉([nc,nr,n6,nb]:List Nat):=sW fM hC1.lt
 rw [Y4]
 refine VS (w0:=w) (ex':=[nr,n6,nb]) (K:=(none,0,0)) (J:=(none,0,0)) (V:=(none,0,0)) (by simpa using hlt) (fun q hq=>.inl (by simpa using hq)) s.nd s (dO.refl w _) fun a1 w1' s1 k1=>?_
 refine wp_seq (wp_block ?_)
 rw [Wv]
 refine VZ (w0:=w1') (ex':=[nr,n6,nb]) (K:=(none,0,0)) (J:=(none,0,0)) (V:=(none,0,0)) (link:=mv.link) (eT:=mv.eT) (p0:=mv.p0) (p1:=mv.p1) (p2:=mv.p2) (P:=P) (rM.mv k1 fun g hg=>.inl hg) (rL.mv k1 fun g hg=>.inl hg) (fun q hq=>.inl (by simpa using hq)) s1.nd s1 (dO.refl w1' _) fun a2 w2 n13 n14 n15 hn nd2 s2 k2=>?_
 refine wp_seq (wp_seq (yC (by kernel_rfl) (xN 3 ?_)))
 refine VT (w0:=w2) (ex':=[nr,n6,nb,n13,n14,n15]) (K:=(none,0,0)) (J:=(none,0,0)) (V:=(none,0,0)) (p0:=mv.p0) (p1:=mv.p1) (p2:=mv.p2) (at_:=jS P mv.p0 mv.p1 mv.p2) (fun q hq=>.inl (by simpa using hq)) s2.nd s2 (dO.refl w2 _) fun a3 w3 s3 k3=>?_
 have z1:=k1.size; have z2:=k2.size; have z3:=k3.size; have z0:=hk.size
 have h13:=(hn n13 (by simp)).1; have h14:=(hn n14 (by simp)).1; have h15:=(hn n15 (by simp)).1
 have K2:dO w [nc,nr,n6,nb] w2:=(k1.trans k2)
 have K3:dO w [nc,nr,n6,nb] w3:=K2.comp k3 fun g hg=>by
  simp only [ag,ae,or_false] at hg ⊢
  rcases hg with r | r | r | r | r | r | r<;>first | (left; simp [r]; done) | (right; omega)
 refine Eh call15 s3 rfl (hCh w3 (hk.trans K3)) fun e w4 hch=>?_
 obtain ⟨g,rfl,kc,hg⟩:=hch
 refine ⟨_,rfl,?_⟩
 rw [YX]
 have s4:=yX (BF (BG s3 fun q hq=>kc.frame q (qE s3 q hq) (by simp)) 87 (dJ (zB g (jd js 4 mv.link []))))
 have nd4:([nc]++[nr,n6,nb,n14,n15]).Nodup:=by
  have:=s3.nd
  simp only [dI,ae9,dw,dD,List.nodup_cons,ag,ae,or_false,not_or] at this ⊢
  obtain ⟨⟨c1,c2,c3,c4,c5,c6⟩,⟨d1,d2,d3,d4,d5⟩,⟨e1,e2,e3,e4⟩,⟨f1,f2,f3⟩,⟨g1,g2⟩,⟨i1,i2⟩⟩:=this
  exact ⟨⟨c1,c2,c3,c5,c6⟩,⟨d1,d2,d4,d5⟩,⟨e1,e3,e4⟩,⟨f2,f3⟩,i1,i2⟩
 have s5:=dP.sub (l':=[(0,dK nc),(4,dK nr),(6,dK n6),(7,dJ Lk),(8,dK nb),(9,dJ O),(64,dJ B1),(65,num (mvs.length:Nat)),(66,num (k:Nat)),(14,dK n14),(15,dK n15),(87,dJ (zB g (jd js 4 mv.link [])))]) (gs':=[(nc,[.bool (dd.2)],88)]) (ls':=[(nr,[dJ B0,dJ B1],35),(n6,[.pointer none,.slice none 0 0,.slice none 0 0,.slice none 0 0,.slice none 0 0],92),(nb,[dK nc,dJ B0,dJ B1,dJ A,dJ M],92),(n14,[dK nc,num (jS P mv.p0 mv.p1 mv.p2).a,num (jS P mv.p0 mv.p1 mv.p2).b,num (jS P mv.p0 mv.p1 mv.p2).c,num (jS P mv.p0 mv.p1 mv.p2).d,num (jS P mv.p0 mv.p1 mv.p2).e,num (jS P mv.p0 mv.p1 mv.p2).f],98),(n15,[num mv.eT,.slice none 0 0,.slice none 0 0],95)]) s4 (fun x hx=>by
  simp only [ag,ae,or_false] at hx
  rcases hx with rfl | rfl | rfl | rfl | rfl | rfl | rfl | rfl | rfl | rfl | rfl | rfl<;>rfl) (fun x hx=>hx) (fun x hx=>by
  simp only [ag,ae,or_false] at hx ⊢
  rcases hx with r | r | r | r | r<;>simp [r]) nd4
 have K4:dO w [nc,nr,n6,nb] w4:=K3.comp kc fun g hg=>by cases hg
 obtain ⟨cm,cl⟩:=M5 hC.pr 4 mv.link [] (by omega) q1 (fun x hx=>by cases hx)
 simp only [aeT,Nat.add_zero] at cl
 refine y9 (VU (w0:=w4) (ex':=[nr,n6,nb,n14,n15]) (J:=(none,0,0)) (V:=(none,0,0)) (c:=((jd js 4 mv.link []).length:Nat)) (p0:=mv.p0) (p1:=mv.p1) (p2:=mv.p2) (link:=mv.link) (by rw [Pq]) (fun q hq=>.inl (by simpa using hq)) nd4 s5 (dO.refl w4 _) fun a5 w5 s6 k5=>?_)
 have z4:=kc.size; have z5:=k5.size
 have K5:dO w [nc,nr,n6,nb] w5:=K4.comp k5 fun g hg=>by
  simp only [ag,ae,or_false] at hg ⊢
  rcases hg with r | r | r | r | r | r<;>first | (left; simp [r]; done) | (right; omega)
 have hC5:=hC.keep (ex2:=[]) K5
 have far:∀{a:Addr},a.block<w.heap.size→a.block∉[nc,nr,n6,nb]→a.block∉[nc,nr,n6,nb,n14,n15]:=fun h1 h2 hm=>by
  simp only [ag,ae,or_false] at hm h2
  rcases hm with r | r | r | r | r | r<;>first | omega | exact h2 (by simp [r])
 have inb:∀{S:dY} {n:Nat} {rows:List (List Value)} {a:Addr},Sl w S.1 n rows→rows≠[]→S.1=some a→a.block<w.heap.size:=fun h1 h2 h3=>by
  obtain ⟨b,off,e,hR⟩:=h1 h2
  rw [h3] at e; injection e with e; subst e
  exact hR.lt
 have hjs:js≠[]:=fun e=>by rw [e] at q1; simp at q1; omega
 have hPs:Ps≠[]:=fun e=>by rw [e] at hP; simp at hP
 have hI:Hq w5 [nc,nr,n6,nb,n14,n15] nc B0 A O (zB g (jd js 4 mv.link [])) js (nu js Ps) (Ps.map kM) (jd js 4 mv.link []) :=
  {
   b0:=hC.b0,aL:=by rw [hC.aL]; simp [nu,hC.pL],oL:=by rw [hC.oL]; simp,kL:=Pq g _,l1:=by simp [nu,hC.pL],l2:=by simp [hC.pL],sB:=hC5.sB,sA:=hC5.sA,sO:=hC5.sO
   sK:=YY fun h0=>(k5.frame g (aB.1 (hg h0).2).1 fun hm=>by
    have h1:=(hg h0).1
    have h2:=qE s3 g (by simp at hm ⊢; rcases hm with r | r | r | r | r | r<;>simp [r])
    omega).trans (hg h0).2
   xB:=fun a ha=>far (inb hC.sB (by simpa using hjs) ha) (hC.xB a ha)
   xA:=fun a ha=>far (inb hC.sA (fun e=>by have:=congrArg ae1 e; simp [nu,hC.pL] at this; exact hjs this) ha) (hC.xA a ha)
   xO:=fun a ha=>far (inb hC.sO (by simpa using hPs) ha) (hC.xO a ha)
   xK:=fun a ha hm=>by
    obtain ⟨h0,rfl⟩:=YZ ha
    have h1:=(hg h0).1
    have h2:=qE s3 g (by simp at hm ⊢; rcases hm with r | r | r | r | r | r<;>simp [r])
    omega
   kj:=fun i j hi=>cm j (aN hi),k3:=by omega
   lt:=fun q hq=>qE s6 q (by simpa using hq) }
 refine Yo (acc:=([],[],dd.2)) hI ⟨(none,0,0),(none,0,0),s6,dO.refl w5 _,Grow.start w5 1 3,Grow.start w5 7 98,(fun g hg=>by cases hg),(fun g hg=>by cases hg),(fun g hg=>by cases hg),Nat.zero_le _,rfl⟩ fun a6 w6 hV6=>?_
 obtain ⟨J,V,s7,k6,gJ,gV,fJ,fV,hne,hl1,hl2⟩:=hV6
 have hms:yt js Ps dd mv=(dd.1++[⟨mv.eT,((jd js 4 mv.link []).foldl (p8 js (nu js Ps) (Ps.map kM) (jS P mv.p0 mv.p1 mv.p2)) ([],[],dd.2)).1,((jd js 4 mv.link []).foldl (p8 js (nu js Ps) (Ps.map kM) (jS P mv.p0 mv.p1 mv.p2)) ([],[],dd.2)).2.1⟩],((jd js 4 mv.link []).foldl (p8 js (nu js Ps) (Ps.map kM) (jS P mv.p0 mv.p1 mv.p2)) ([],[],dd.2)).2.2):=by
  unfold yt Kj
  rw [wO hP]
 have hmem:∀x∈((jd js 4 mv.link []).foldl (p8 js (nu js Ps) (Ps.map kM) (jS P mv.p0 mv.p1 mv.p2)) ([],[],dd.2)).1,0≤x∧x<js.length:=fun x hx=>by
  rcases U3 _ _ _ _ _ _ x hx with r | r
  ·cases r
  ·exact cm x r
 generalize (jd js 4 mv.link []).foldl (p8 js (nu js Ps) (Ps.map kM) (jS P mv.p0 mv.p1 mv.p2)) ([],[],dd.2)=acc at s7 gJ gV hl1 hl2 hms hmem
 obtain ⟨aj,av,af⟩:=acc
 simp only at s7 gJ gV hl1 hl2 hms hmem
 have s8:=dP.sub (l':=[(0,dK nc),(4,dK nr),(6,dK n6),(7,dJ Lk),(8,dK nb),(9,dJ O),(64,dJ B1),(65,num (mvs.length:Nat)),(66,num (k:Nat)),(14,dK n14),(15,dK n15)]) (gs':=[(nc,[.bool (af)],88)]) (ls':=[(nr,[dJ B0,dJ B1],35),(n6,[.pointer none,.slice none 0 0,.slice none 0 0,.slice none 0 0,.slice none 0 0],92),(nb,[dK nc,dJ B0,dJ B1,dJ A,dJ M],92),(n14,[dK nc,num (jS P mv.p0 mv.p1 mv.p2).a,num (jS P mv.p0 mv.p1 mv.p2).b,num (jS P mv.p0 mv.p1 mv.p2).c,num (jS P mv.p0 mv.p1 mv.p2).d,num (jS P mv.p0 mv.p1 mv.p2).e,num (jS P mv.p0 mv.p1 mv.p2).f],98),(n15,[num mv.eT,dJ J,dJ V],95)]) s7 (fun x hx=>by
  simp only [ag,ae,or_false] at hx
  rcases hx with rfl | rfl | rfl | rfl | rfl | rfl | rfl | rfl | rfl | rfl | rfl<;>rfl) (fun x hx=>hx) (fun x hx=>by
  simp only [ag,ae,or_false] at hx ⊢
  rcases hx with r | r | r | r | r<;>simp [r]) s7.nd
 have nM6:∀g∈blk M,g∉([nc,nr,n6,nb,n14,n15]:List Nat):=fun g hg hm=>by
  have h1:=nM g hg
  have h2:=gM.lt g hg
  simp only [ag,ae,or_false] at hm h1
  rcases hm with r | r | r | r | r | r<;>first | omega | exact h1 (by simp [r])
 have gM6:=(gM.keep K5 nM).keep k6 nM6
 refine Xv (link:=0) (p0:=0) (p1:=0) (p2:=0) s8 gM6 hk1 nM6 fun a7 w7 M' s9 gM7 k7 fM7=>?_
 have z6:=k6.size; have z7:=k7.size
 have s10:=dP.sub (l':=[(0,dK nc),(4,dK nr),(6,dK n6),(7,dJ Lk),(8,dK nb),(9,dJ O),(64,dJ B1),(65,num (mvs.length:Nat)),(66,num (k:Nat))]) (gs':=[(nc,[.bool (af)],88)]) (ls':=[(nr,[dJ B0,dJ B1],35),(n6,[.pointer none,.slice none 0 0,.slice none 0 0,.slice none 0 0,.slice none 0 0],92),(nb,[dK nc,dJ B0,dJ B1,dJ A,dJ M'],92)]) s9 (fun x hx=>by
  simp only [ag,ae,or_false] at hx
  rcases hx with rfl | rfl | rfl | rfl | rfl | rfl | rfl | rfl | rfl<;>rfl) (fun x hx=>hx) (fun x hx=>by
  simp only [ag,ae,or_false] at hx ⊢
  rcases hx with r | r | r<;>simp [r]) s.nd
 refine Wm (w0:=w7) (ex':=[nr,n6,nb]) (K:=(none,0,0)) (J:=(none,0,0)) (V:=(none,0,0)) (fun q hq=>.inl (by simpa using hq)) s10.nd s10 (dO.refl w7 _) fun a8 w8 s11 k8=>hQ a8 w8 ?_
 rw [G8 hk1] at s11
 rw [hms]
 have z8:=k8.size
 have KW:dO w (blk M++[nc,nr,n6,nb]) w8:=(((K5.wide fun g hg=>dm _ hg).comp k6 fun g hg=>(by
  simp only [ag,ae,or_false] at hg
  rcases hg with r | r | r | r | r | r<;>first | (left; refine dm _ ?_; simp [r]; done) | (right; omega))).comp k7 fun g hg=>(by
  rcases bH.1 hg with r | r
  ·exact .inl (aeY _ r)
  ·simp only [ag,ae,or_false] at r
   rcases r with r | r | r | r | r | r<;>first | (left; refine dm _ ?_; simp [r]; done) | (right; omega))).comp k8 fun g hg=>.inl (dm _ hg)
 have fM':∀g∈blk M',w1.heap.size≤g:=fun g hg=>by
  rcases fM7 g hg with r | r
  ·exact fM g r
  ·omega
 have gM8:=gM7.keep k8 (sW fM' hC1.lt)
 have jlt:∀{S:dY},(∀g∈blk S,w5.heap.size≤g)→∀g∈blk S,g∉blk M++[nc,nr,n6,nb,n14,n15]:=fun hS g hg hm=>by
  have h1:=hS g hg
  rcases bH.1 hm with r | r
  ·have:=gM.lt g r; omega
  ·have:=qE s6 g (by simpa using r); omega
 have jlt0:∀{S:dY},(∀g∈blk S,w5.heap.size≤g)→∀g∈blk S,g∉[nc,nr,n6,nb]:=fun hS=>sW hS fun g hg=>by have:=hC1.lt g hg; omega
 have gJ8:=(gJ.keep k7 (jlt fJ)).keep k8 (jlt0 fJ)
 have gV8:=(gV.keep k7 (jlt fV)).keep k8 (jlt0 fV)
 have hnc:nc<w5.heap.size:=by have:=hC1.lt nc (by simp); omega
 have newB:∀{S:dY} {n sz:Nat} {e:TypeId} {cs:List Value},Grow w6 S sz e n cs→(∀g∈blk S,w5.heap.size≤g)→∀g∈blk S,w1.heap.size≤g∧g<w8.heap.size∧g∉blk M':=fun h1 h2 g hg=>by
  have:=h2 g hg
  have:=h1.lt g hg
  refine ⟨by omega,by omega,fun hm=>?_⟩
  rcases fM7 g hm with r | r
  ·have:=gM.lt g r; omega
  ·omega
 refine ⟨M',mbs++[⟨mv.eT,aj,av,J,V⟩],s11,((hk.trans K5).comp k6 fun g hg=>?_) |>.comp k7 (fun g hg=>?_) |>.comp k8 (fun g hg=>.inl hg),?_,fM',by simp [hml],by simp [hmd,MB.md],fun i mb hi=>?_⟩
 ·simp only [ag,ae,or_false] at hg ⊢
  rcases hg with r | r | r | r | r | r<;>first | (left; simp [r]; done) | (right; omega)
 ·rcases bH.1 hg with r | r
  ·exact .inr (fM g r)
  ·simp only [ag,ae,or_false] at r ⊢
   rcases r with r | r | r | r | r | r<;>first | (left; simp [r]; done) | (right; omega)
 ·have e:(mbs++[(⟨mv.eT,aj,av,J,V⟩:MB)]).flatMap MB.row=mbs.flatMap MB.row++[num mv.eT,dJ J,dJ V]:=by simp [MB.row]
  rw [e]
  exact gM8
 ·by_cases hlt2:i<mbs.length
  ·rw [aH hlt2] at hi
   have h:=hmb i mb hi
   have n1:∀{S:dY},(∀g∈blk S,w1.heap.size≤g∧g<w.heap.size∧g∉blk M)→∀a,S.1=some a→a.block∉blk M++[nc,nr,n6,nb]:=fun hS a ha hm=>by
    obtain ⟨h1,h2,h3⟩:=hS a.block (by rw [vH ha]; simp)
    rcases bH.1 hm with r | r
    ·exact h3 r
    ·have:=hC1.lt _ r; omega
   have n2:∀{S:dY},(∀g∈blk S,w1.heap.size≤g∧g<w.heap.size∧g∉blk M)→∀g∈blk S,w1.heap.size≤g∧g<w8.heap.size∧g∉blk M':=fun hS g hg=>by
    obtain ⟨h1,h2,h3⟩:=hS g hg
    refine ⟨h1,by omega,fun hm=>?_⟩
    rcases fM7 g hm with r | r
    ·exact h3 r
    ·omega
   exact ⟨{ h.ok with qU:=kI h.ok.qU KW (n1 h.hJ),dJ:=kI h.ok.dJ KW (n1 h.hV) },h.cap,n2 h.hJ,n2 h.hV⟩
  ·rw [bu (by omega)] at hi
   obtain ⟨i0,e0⟩:∃i0,i - mbs.length=i0:=⟨_,rfl⟩
   rw [e0] at hi
   match i0,hi with
   | _+1,hi=>simp at hi
   | 0,hi =>
    simp only [List.getElem?_cons_zero,ak] at hi
    subst hi
    refine ⟨{ w1:=q2,w2:=q3,j:=gJ8.len,v:=gV8.len,l:=hl2,l3:=by show aj.length≤1000; omega,ks:=fun i k hk=>hmem k (aN hk),qU:=?_,dJ:=?_,aJ:=fun a ha=>?_,aV:=fun a ha=>?_ },?_,newB gJ fJ,newB gV fV⟩
    ·refine Grow.sl (n:=aj.length) (e:=3) ?_ (fun r hr=>?_) (by simp [fF])
     ·rw [FV]; exact gJ8
     ·simp only [fF,aeZ] at hr
      obtain ⟨k,_,rfl⟩:=hr
      rfl
    ·refine Grow.sl (n:=av.length) (e:=98) ?_ (fun r hr=>?_) (by simp)
     ·have e:(av.map (V6.cs nc)).flatten=av.flatMap (V6.cs nc):=rfl
      rw [e]; exact gV8
     ·obtain ⟨v,_,rfl⟩:=aeZ.1 hr
      rfl
    ·have:=fJ a.block (by rw [vH ha]; simp); intro e; omega
    ·have:=fV a.block (by rw [vH ha]; simp); intro e; omega
    ·show J.2.1≤J.2.2
     cases hS:J.1 with
     | none=>have:=gJ.nil hS; have:=gJ.len; omega
     | some a=>obtain ⟨g,cs,_,_,_,h5,_⟩:=gJ.blk a hS; have:=gJ.len; omega
end Go.Proofs
end
