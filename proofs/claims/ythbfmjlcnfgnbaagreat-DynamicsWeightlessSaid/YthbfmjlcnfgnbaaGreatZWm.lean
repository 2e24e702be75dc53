/-
  Part of the proof: see the last text.
-/
import Derived.Test.YthbfmjlcnfgnbaaGreatZSc
import Derived.Test.YthbfmjlcnfgnbaaGreatZWl
set_option linter.unusedVariables false
set_option maxHeartbeats 8000000
open Array renaming getElem?_eq_some_iff→aB
open Go.Builtin renaming append_→afi,firstCells→dE
open List renaming all_eq_true→bn,append_nil→afk,eq_nil_of_length_eq_zero→bR,getElem?_append_left→aH,getElem?_append_right→bu,getElem?_drop→aeX,getElem?_eq_getElem→ah,getElem?_eq_some_iff→ai,getElem?_map→bY,getElem?_of_mem→cZ,getElem?_take→dx,length→ae1,length_append→afa,length_map→dF,map_cons→dI,map_nil→ae9,mem_append→bH,mem_append_left→aeY,mem_append_right→dm,mem_cons→ag,mem_cons_of_mem→aT,mem_cons_self→aA,mem_map→aeZ,mem_of_getElem?→aN,nodup_append→afe,not_mem_nil→ae,pairwise_iff_getElem→ae7,replicate→az,size_toArray→aeR,take_of_length_le→dH
open Nat renaming le_of_not_lt→afb,le_refl→au,le_trans→aZ,lt_of_lt_of_le→aC
open Ne renaming symm→ae4
open Option renaming map_eq_some_iff→aR
open Prod.mk renaming injEq→aP
open Go.Result renaming andThen_ok→bC
open Go.Sem renaming run_bind→di,run_pure→dA
open Go.Proofs.Tryz renaming f20→aY,prog→aa
open Go.World renaming cell?→bS
section
namespace Go.Proofs
open Go.Sm Go.RowKit En
theorem acz:(sR 6 (dN aY))=fB [rz (dN aY),rC (dN aY)] (sR 8 (dN aY)):=by kernel_rfl
theorem KU:(sR 8 (dN aY))=fB [dZ (sR 8 (dN aY))] (sR 9 (dN aY)):=by kernel_rfl
theorem KV:(sR 9 (dN aY))=fB [dZ (sR 9 (dN aY)),dZ (sR 10 (dN aY))] (sR 11 (dN aY)):=by kernel_rfl
def vE (w0:World) (nc n:Nat) (F:Bool) (us xs gs:List (Int×Int)) (e:Ending) (w':World):Prop:=dO w0 [nc] w'∧(F=true→e=.returned (.tuple ⟨[.slice none 0 0,.bool false]⟩))∧(F=false→∃gl,w0.heap.size≤gl∧gl<w'.heap.size∧e=.returned (.tuple ⟨[.slice (some ⟨gl,0,none⟩) n n,.bool true]⟩)∧w'.heap[gl]?=some (.cells ⟨xu us xs gs⟩ 47 (0,0)))
variable {w0:World} {nc n:Nat}
theorem vE.base {w1:World} {F:Bool} {us xs gs:List (Int×Int)} {e:Ending} {w':World} (hk:dO w0 [nc] w1) (h:vE w1 nc n F us xs gs e w'):vE w0 nc n F us xs gs e w' :=
 ⟨hk.trans h.1,h.2.1,fun hF=>by obtain ⟨gl,h1,h2⟩:=h.2.2 hF; exact ⟨gl,aZ hk.size h1,h2⟩⟩
variable {w:World}
theorem Y1 (h:dO w0 [nc] w):∀(b o:Nat) (v:Value),b<w0.heap.size→b≠nc→w0.cell? ⟨b,o,none⟩=some v→w.cell? ⟨b,o,none⟩=some v :=
 fun _ _ _ h1 h2 hv=>(h.cell h1 (by simpa using h2)).trans hv
variable {g:Nat}
theorem M0 {vs:List Value} {e:TypeId} (h:w.heap[g]?=some (.cells ⟨vs⟩ e (0,0))) (hl:0<vs.length):tV w (g,0,vs):=⟨hl,fun k v hk=>by simpa [bS,h] using hk⟩
variable {nr ng nb:Nat} {B1 B2 B3 B4 F S:dY} {x y z:Int} {f:Bool} {us vs:List V6} {a:Act}
theorem ad8 {ms:List MB} (hb:kr w0 nc 1 B1 B4 ms)
  (hF:F.2.1=us.length) (hS:S.2.1=vs.length) (lF:us.length=ms.length) (lS:vs.length=ms.length) (sF:Sl w0 F.1 7 (us.map (V6.cs nc))) (sS:Sl w0 S.1 7 (vs.map (V6.cs nc))) (aF:∀a,F.1=some a→a.block≠nc) (aS:∀a,S.1=some a→a.block≠nc)
  (hw:jR w0 [nc] (mY nr ng nb nc x y z B1 B2 B3 B4)) (h:dP (dS 133 [(6,dK nr),(7,dK ng),(18,dK nc),(19,dK nb),(20,dJ F),(21,dJ S)]) [(nc,[.bool f],88)] [] a w) (hk:dO w0 [nc] w) :
  (sR 8 (dN aY)).wp aa (bodyPost aa aY (vE w0 nc 1 (((f||(gm ms us (az 1 (0,0),false) ms.length).2)||(gm ms vs (az 1 (0,0),false) ms.length).2)||(iU ms 1 x y z).2) (gm ms us (az 1 (0,0),false) ms.length).1 (gm ms vs (az 1 (0,0),false) ms.length).1 ((iU ms 1 x y z).1.map iP))) a w:=by
 have q1:=ry ms us (az 1 (0,0),false) ms.length
 have q2:=ry ms vs (az 1 (0,0),false) ms.length
 have q3:((iU ms 1 x y z).1.map iP).length=1:=by
  have:=ry ms (az ms.length (gV x y z)) (az 1 (0,0),false) ms.length
  simp only [iU,dF,this]; rfl
 generalize e1:gm ms us (az 1 (0,0),false) ms.length=p1 at q1 ⊢
 generalize e2:gm ms vs (az 1 (0,0),false) ms.length=p2 at q2 ⊢
 generalize e3:((iU ms 1 x y z).1.map iP)=p3 at q3 ⊢
 obtain ⟨p1,b1⟩:=p1
 obtain ⟨p2,b2⟩:=p2
 match p1,p2,p3,q1,q2,q3 with
 | [u0],[v0],[k0],_,_,_ =>
 rw [KU]
 refine adS hb hF hS lF lS sF sS aF aS e1 e2 (by rw [e3]) hw h hk fun a1 w1 g1 g2 g3 hn nd s1 k1=>?_
 generalize (((f||b1)||b2)||(iU ms 1 x y z).2)=FF at s1 ⊢
 have hg:∀g∈[g1,g2,g3],w0.heap.size≤g:=fun g hgm=>aZ hk.size (hn g hgm)
 cases FF with
 | true =>
  refine LV (dP.sub (gs':=[(nc,[.bool true],88)]) (ls':=[]) s1 (fun x hx=>by simp only [ag,ae,or_false] at hx; subst hx; rfl) (fun x hx=>by simp only [ag,ae,or_false] at hx; subst hx; exact aA) (fun x hx=>by cases hx) (by simp)) k1 fun a2 w2 s2 k2=>?_
  exact ⟨k2,fun _=>rfl,fun e=>by cases e⟩
 | false =>
  rw [KV]
  have ho:∀g∈[nc,g1,g2,g3]++[],g∈[nc]∨w0.heap.size≤g:=fun g hgm=>by
   rw [afk] at hgm
   rcases ag.1 hgm with r | r
   ·exact .inl (by simp [r])
   ·exact .inr (hg g r)
  refine adM hb.b0 ho (fun x hx=>hw x (by simp only [ag,ae,or_false] at hx; subst hx; exact aA)) s1 k1 fun a2 w2 g4 h4 nd4 s2 k2=>?_
  refine adV (fun g hgm=>?_) nd4 s2 k2 fun a3 w3 s3 k3=>?_
  ·rw [afk] at hgm
   by_cases hq:g=g4
   ·subst hq; exact .inr (aZ k1.size h4)
   ·exact ho g (by simp at hgm ⊢; rcases hgm with r | r | r | r | r; exact .inl r; exact .inr (.inl r); exact .inr (.inr (.inl r)); exact .inr (.inr (.inr r)); exact absurd r hq)
  ·have q2:=s3.gl _ (aT _ aA)
   exact ⟨k3,(fun e=>by cases e),fun _=>⟨g4,aZ k1.size h4,(aB.1 q2).1,rfl,q2⟩⟩
theorem ad9 {ms:List MB} (hb:kr w0 nc 2 B1 B4 ms)
  (hF:F.2.1=us.length) (hS:S.2.1=vs.length) (lF:us.length=ms.length) (lS:vs.length=ms.length) (sF:Sl w0 F.1 7 (us.map (V6.cs nc))) (sS:Sl w0 S.1 7 (vs.map (V6.cs nc))) (aF:∀a,F.1=some a→a.block≠nc) (aS:∀a,S.1=some a→a.block≠nc)
  (hw:jR w0 [nc] (mY nr ng nb nc x y z B1 B2 B3 B4)) (h:dP (dS 133 [(6,dK nr),(7,dK ng),(18,dK nc),(19,dK nb),(20,dJ F),(21,dJ S)]) [(nc,[.bool f],88)] [] a w) (hk:dO w0 [nc] w) :
  (sR 8 (dN aY)).wp aa (bodyPost aa aY (vE w0 nc 2 (((f||(gm ms us (az 2 (0,0),false) ms.length).2)||(gm ms vs (az 2 (0,0),false) ms.length).2)||(iU ms 2 x y z).2) (gm ms us (az 2 (0,0),false) ms.length).1 (gm ms vs (az 2 (0,0),false) ms.length).1 ((iU ms 2 x y z).1.map iP))) a w:=by
 have q1:=ry ms us (az 2 (0,0),false) ms.length
 have q2:=ry ms vs (az 2 (0,0),false) ms.length
 have q3:((iU ms 2 x y z).1.map iP).length=2:=by
  have:=ry ms (az ms.length (gV x y z)) (az 2 (0,0),false) ms.length
  simp only [iU,dF,this]; rfl
 generalize e1:gm ms us (az 2 (0,0),false) ms.length=p1 at q1 ⊢
 generalize e2:gm ms vs (az 2 (0,0),false) ms.length=p2 at q2 ⊢
 generalize e3:((iU ms 2 x y z).1.map iP)=p3 at q3 ⊢
 obtain ⟨p1,b1⟩:=p1
 obtain ⟨p2,b2⟩:=p2
 match p1,p2,p3,q1,q2,q3 with
 | [u0,u1],[v0,v1],[k0,k1],_,_,_ =>
 rw [KU]
 refine adT hb hF hS lF lS sF sS aF aS e1 e2 (by rw [e3]) hw h hk fun a1 w1 g1 g2 g3 hn nd s1 k1=>?_
 generalize (((f||b1)||b2)||(iU ms 2 x y z).2)=FF at s1 ⊢
 have hg:∀g∈[g1,g2,g3],w0.heap.size≤g:=fun g hgm=>aZ hk.size (hn g hgm)
 cases FF with
 | true =>
  refine LV (dP.sub (gs':=[(nc,[.bool true],88)]) (ls':=[]) s1 (fun x hx=>by simp only [ag,ae,or_false] at hx; subst hx; rfl) (fun x hx=>by simp only [ag,ae,or_false] at hx; subst hx; exact aA) (fun x hx=>by cases hx) (by simp)) k1 fun a2 w2 s2 k2=>?_
  exact ⟨k2,fun _=>rfl,fun e=>by cases e⟩
 | false =>
  rw [KV]
  have ho:∀g∈[nc,g1,g2,g3]++[],g∈[nc]∨w0.heap.size≤g:=fun g hgm=>by
   rw [afk] at hgm
   rcases ag.1 hgm with r | r
   ·exact .inl (by simp [r])
   ·exact .inr (hg g r)
  refine adN hb.b0 ho (fun x hx=>hw x (by simp only [ag,ae,or_false] at hx; subst hx; exact aA)) s1 k1 fun a2 w2 g4 h4 nd4 s2 k2=>?_
  refine adW (fun g hgm=>?_) nd4 s2 k2 fun a3 w3 s3 k3=>?_
  ·rw [afk] at hgm
   by_cases hq:g=g4
   ·subst hq; exact .inr (aZ k1.size h4)
   ·exact ho g (by simp at hgm ⊢; rcases hgm with r | r | r | r | r; exact .inl r; exact .inr (.inl r); exact .inr (.inr (.inl r)); exact .inr (.inr (.inr r)); exact absurd r hq)
  ·have q2:=s3.gl _ (aT _ aA)
   exact ⟨k3,(fun e=>by cases e),fun _=>⟨g4,aZ k1.size h4,(aB.1 q2).1,rfl,q2⟩⟩
theorem aea {ms:List MB} (hb:kr w0 nc 3 B1 B4 ms)
  (hF:F.2.1=us.length) (hS:S.2.1=vs.length) (lF:us.length=ms.length) (lS:vs.length=ms.length) (sF:Sl w0 F.1 7 (us.map (V6.cs nc))) (sS:Sl w0 S.1 7 (vs.map (V6.cs nc))) (aF:∀a,F.1=some a→a.block≠nc) (aS:∀a,S.1=some a→a.block≠nc)
  (hw:jR w0 [nc] (mY nr ng nb nc x y z B1 B2 B3 B4)) (h:dP (dS 133 [(6,dK nr),(7,dK ng),(18,dK nc),(19,dK nb),(20,dJ F),(21,dJ S)]) [(nc,[.bool f],88)] [] a w) (hk:dO w0 [nc] w) :
  (sR 8 (dN aY)).wp aa (bodyPost aa aY (vE w0 nc 3 (((f||(gm ms us (az 3 (0,0),false) ms.length).2)||(gm ms vs (az 3 (0,0),false) ms.length).2)||(iU ms 3 x y z).2) (gm ms us (az 3 (0,0),false) ms.length).1 (gm ms vs (az 3 (0,0),false) ms.length).1 ((iU ms 3 x y z).1.map iP))) a w:=by
 have q1:=ry ms us (az 3 (0,0),false) ms.length
 have q2:=ry ms vs (az 3 (0,0),false) ms.length
 have q3:((iU ms 3 x y z).1.map iP).length=3:=by
  have:=ry ms (az ms.length (gV x y z)) (az 3 (0,0),false) ms.length
  simp only [iU,dF,this]; rfl
 generalize e1:gm ms us (az 3 (0,0),false) ms.length=p1 at q1 ⊢
 generalize e2:gm ms vs (az 3 (0,0),false) ms.length=p2 at q2 ⊢
 generalize e3:((iU ms 3 x y z).1.map iP)=p3 at q3 ⊢
 obtain ⟨p1,b1⟩:=p1
 obtain ⟨p2,b2⟩:=p2
 match p1,p2,p3,q1,q2,q3 with
 | [u0,u1,u2],[v0,v1,v2],[k0,k1,k2],_,_,_ =>
 rw [KU]
 refine adU hb hF hS lF lS sF sS aF aS e1 e2 (by rw [e3]) hw h hk fun a1 w1 g1 g2 g3 hn nd s1 k1=>?_
 generalize (((f||b1)||b2)||(iU ms 3 x y z).2)=FF at s1 ⊢
 have hg:∀g∈[g1,g2,g3],w0.heap.size≤g:=fun g hgm=>aZ hk.size (hn g hgm)
 cases FF with
 | true =>
  refine LV (dP.sub (gs':=[(nc,[.bool true],88)]) (ls':=[]) s1 (fun x hx=>by simp only [ag,ae,or_false] at hx; subst hx; rfl) (fun x hx=>by simp only [ag,ae,or_false] at hx; subst hx; exact aA) (fun x hx=>by cases hx) (by simp)) k1 fun a2 w2 s2 k2=>?_
  exact ⟨k2,fun _=>rfl,fun e=>by cases e⟩
 | false =>
  rw [KV]
  have ho:∀g∈[nc,g1,g2,g3]++[],g∈[nc]∨w0.heap.size≤g:=fun g hgm=>by
   rw [afk] at hgm
   rcases ag.1 hgm with r | r
   ·exact .inl (by simp [r])
   ·exact .inr (hg g r)
  refine adO hb.b0 ho (fun x hx=>hw x (by simp only [ag,ae,or_false] at hx; subst hx; exact aA)) s1 k1 fun a2 w2 g4 h4 nd4 s2 k2=>?_
  refine adX (fun g hgm=>?_) nd4 s2 k2 fun a3 w3 s3 k3=>?_
  ·rw [afk] at hgm
   by_cases hq:g=g4
   ·subst hq; exact .inr (aZ k1.size h4)
   ·exact ho g (by simp at hgm ⊢; rcases hgm with r | r | r | r | r; exact .inl r; exact .inr (.inl r); exact .inr (.inr (.inl r)); exact .inr (.inr (.inr r)); exact absurd r hq)
  ·have q2:=s3.gl _ (aT _ aA)
   exact ⟨k3,(fun e=>by cases e),fun _=>⟨g4,aZ k1.size h4,(aB.1 q2).1,rfl,q2⟩⟩
def zw (rs:List (Int×Int)) (ms:List MB):List V6:=ms.map fun m=>(lQ rs m).1
def zX (rs:List (Int×Int)) (axs:List V6) (js:List JV) (ms:List MB):List V6:=ms.map fun m=>(l9 rs axs js m).1
def yY (rs:List (Int×Int)) (ms:List MB) (n:Nat):List (Int×Int)×Bool:=gm ms (zw rs ms) (az n (0,0),false) ms.length
def yZ (rs:List (Int×Int)) (axs:List V6) (js:List JV) (ms:List MB) (n:Nat):List (Int×Int)×Bool:=gm ms (zX rs axs js ms) (az n (0,0),false) ms.length
def BN (rs:List (Int×Int)) (axs:List V6) (js:List JV) (f:Bool):List MB→Bool
 | []=>f
 | m::ms=>BN rs axs js ((f||(lQ rs m).2)||(l9 rs axs js m).2) ms
def BM (rs:List (Int×Int)) (axs:List V6) (js:List JV) (ms:List MB) (n:Nat) (x y z:Int) (f:Bool):Bool:=((BN rs axs js f ms||(yY rs ms n).2)||(yZ rs axs js ms n).2)||(iU ms n x y z).2
theorem zO (h:w.heap[g]?=some (.cells ⟨us.flatMap (V6.cs nc)⟩ 98 (0,0))):Sl w (some ⟨g,0,none⟩) 7 (us.map (V6.cs nc)):=fun _=>⟨g,0,rfl,(aB.1 h).1,fun i r hi k v hk=>by
 have:=O0 us nc i r hi k v hk
 simp [bS,h,this]⟩
theorem LY {g1 g2 m:Nat} {ms:List MB} (hb:kr w0 nc n B1 B4 ms) (lF:us.length=ms.length) (lS:vs.length=ms.length) (hm:ms.length=m) (hw0:jR w0 [nc] (mY nr ng nb nc x y z B1 B2 B3 B4)) (hnd:[nc,g1,g2].Nodup)
  (h:dP (dS 133 [(6,dK nr),(7,dK ng),(18,dK nc),(19,dK nb),(20,.slice (some ⟨g1,0,none⟩) m m),(21,.slice (some ⟨g2,0,none⟩) m m)]) [(nc,[.bool f],88),(g1,us.flatMap (V6.cs nc),98),(g2,vs.flatMap (V6.cs nc),98)] [] a w) (hk:dO w0 [nc] w) :
  (sR 8 (dN aY)).wp aa (bodyPost aa aY (vE w0 nc n (((f||(gm ms us (az n (0,0),false) ms.length).2)||(gm ms vs (az n (0,0),false) ms.length).2)||(iU ms n x y z).2) (gm ms us (az n (0,0),false) ms.length).1 (gm ms vs (az n (0,0),false) ms.length).1 ((iU ms n x y z).1.map iP))) a w:=by
 subst hm
 have x1:=h.gl _ (aT _ aA)
 have x2:=h.gl _ (aT _ (aT _ aA))
 simp only [List.nodup_cons,ag,ae,or_false,not_or] at hnd
 obtain ⟨⟨d1,d2⟩,_⟩:=hnd
 have hw:jR w [nc] (mY nr ng nb nc x y z B1 B2 B3 B4):=fun q hq=>⟨⟨aC (hw0 q hq).1.1 hk.size,(hw0 q hq).1.2⟩,hk.win (hw0 q hq).1.1 (hw0 q hq).1.2 (hw0 q hq).2⟩
 have s':dP (dS 133 [(6,dK nr),(7,dK ng),(18,dK nc),(19,dK nb),(20,dJ (some ⟨g1,0,none⟩,us.length,us.length)),(21,dJ (some ⟨g2,0,none⟩,vs.length,vs.length))]) [(nc,[.bool f],88)] [] a w :=
  dP.sub h (fun q hq=>by
   simp only [ag,ae,or_false] at hq
   rcases hq with rfl | rfl | rfl | rfl | rfl | rfl
   ·rfl
   ·rfl
   ·rfl
   ·rfl
   ·rw [lF]; rfl
   ·rw [lS]; rfl) (fun q hq=>by simp only [ag,ae,or_false] at hq; subst hq; exact aA) (fun q hq=>by cases hq) (by simp)
 have hb':=hb.move (Y1 hk)
 obtain ⟨n1,n2⟩:=hb.n1
 have key:(sR 8 (dN aY)).wp aa (bodyPost aa aY (vE w nc n (((f||(gm ms us (az n (0,0),false) ms.length).2)||(gm ms vs (az n (0,0),false) ms.length).2)||(iU ms n x y z).2) (gm ms us (az n (0,0),false) ms.length).1 (gm ms vs (az n (0,0),false) ms.length).1 ((iU ms n x y z).1.map iP))) a w:=by
  obtain rfl | rfl | rfl:n=1∨n=2∨n=3:=by omega
  ·exact ad8 (F:=(some ⟨g1,0,none⟩,us.length,us.length)) (S:=(some ⟨g2,0,none⟩,vs.length,vs.length)) hb' rfl rfl lF lS (zO x1) (zO x2) (fun q e=>by injection e with e; subst e; exact ae4 d1) (fun q e=>by injection e with e; subst e; exact ae4 d2) hw s' (dO.refl w [nc])
  ·exact ad9 (F:=(some ⟨g1,0,none⟩,us.length,us.length)) (S:=(some ⟨g2,0,none⟩,vs.length,vs.length)) hb' rfl rfl lF lS (zO x1) (zO x2) (fun q e=>by injection e with e; subst e; exact ae4 d1) (fun q e=>by injection e with e; subst e; exact ae4 d2) hw s' (dO.refl w [nc])
  ·exact aea (F:=(some ⟨g1,0,none⟩,us.length,us.length)) (S:=(some ⟨g2,0,none⟩,vs.length,vs.length)) hb' rfl rfl lF lS (zO x1) (zO x2) (fun q e=>by injection e with e; subst e; exact ae4 d1) (fun q e=>by injection e with e; subst e; exact ae4 d2) hw s' (dO.refl w [nc])
 refine Code.wp_mono (fun e a w hq=>?_) key
 cases e with
 | normal=>obtain ⟨h1,v,h2,h3⟩:=hq; exact ⟨h1,v,h2,h3.base hk⟩
 | ret=>obtain ⟨h1,v,h2,h3⟩:=hq; exact ⟨h1,v,h2,h3.base hk⟩
 | panic c=>obtain ⟨h1,h2⟩:=hq; exact ⟨h1,h2.base hk⟩
 | outgrown=>exact vE.base hk hq
 | _=>exact hq
theorem aeh {W:dY} {rs:List (Int×Int)} {axs:List V6} {js:List JV} {ms:List MB} (hS:sI w0 nc W B1 B3 rs axs js) (hb:kr w0 nc n B1 B4 ms) (hjn:js.length=n) (hcap:∀m∈ms,m.J.2.1≤m.J.2.2)
  (hw:jR w0 [nc] (mY nr ng nb nc x y z B1 B2 B3 B4)) (h:dP (dS 133 [(6,dK nr),(7,dK ng),(16,dJ W),(18,dK nc),(19,dK nb)]) [(nc,[.bool f],88)] [] a w) (hk:dO w0 [nc] w) :
  (sR 6 (dN aY)).wp aa (bodyPost aa aY (vE w0 nc n (BM rs axs js ms n x y z f) (yY rs ms n).1 (yZ rs axs js ms n).1 ((iU ms n x y z).1.map iP))) a w:=by
 rw [acz]
 have hm2:=hb.m2
 match ms,hb,hcap,hm2 with
 | [],hb,hcap,_=>exact adP hS hb hjn hw h hk fun a1 w1 g1 g2 _ _ nd s1 k1=>LY (us:=zw rs []) (vs:=zX rs axs js []) hb rfl rfl rfl hw nd s1 k1
 | [m0],hb,hcap,_=>exact adQ hS hb hjn (hcap m0 (by simp)) hw h hk fun a1 w1 g1 g2 _ _ nd s1 k1=>LY (us:=zw rs [m0]) (vs:=zX rs axs js [m0]) hb rfl rfl rfl hw nd s1 k1
 | [m0,m1],hb,hcap,_=>exact adR hS hb hjn (hcap m0 (by simp)) (hcap m1 (by simp)) hw h hk fun a1 w1 g1 g2 _ _ nd s1 k1=>LY (us:=zw rs [m0,m1]) (vs:=zX rs axs js [m0,m1]) hb rfl rfl rfl hw nd s1 k1
 | _::_::_::_,_,_,hm2=>exact absurd hm2 (by simp)
end Go.Proofs
end
section
section
namespace Go.Sm
open Go.RowKit
abbrev Ch:=Option Addr×Nat×Nat
structure Grow (w:World) (S:Ch) (sz:Nat) (e:TypeId) (n:Nat) (cells:List Value):Prop where
 len:S.2.1=n
 cl:cells.length=n*sz
 nil:S.1=none→n=0∧S.2.2=0
 blk:∀a,S.1=some a→∃g cs,a=⟨g,0,none⟩∧w.heap[g]?=some (.cells cs e (0,0))∧S.2.2*sz≤cs.size∧n≤S.2.2∧cs.toList.take cells.length=cells
theorem Grow.start (w:World) (sz:Nat) (e:TypeId):Grow w (none,0,0) sz e 0 []:=⟨rfl,by simp,fun _=>⟨rfl,rfl⟩,fun a h=>by cases h⟩
structure Vs (w:World) (S S':Ch) (w':World):Prop where
 os:w'.os=w.os
 tape:w'.tape=w.tape
 output:w'.output=w.output
 size:w.heap.size≤w'.heap.size
 frame:∀g,g<w.heap.size→(∀a,S.1=some a→a.block≠g)→w'.heap[g]?=w.heap[g]?
 home:∃g,S'.1=some ⟨g,0,none⟩∧((∃a,S.1=some a∧a.block=g)∨w.heap.size≤g)
theorem Hw (g j:Nat):(⟨g,0,none⟩:Addr).add j=⟨g,j,none⟩:=by unfold Addr.add; split<;>simp_all
variable {n:Nat}
theorem VL {P:Program} {ops:Array Oper} {o:Oper} {tail:List Oper} {Q:Exit→Act→World→Prop} {a:Act} {w:World} {x y:Operand} {tS tX elem e' t:TypeId} {ti:TypeInfo} {z:Value} {S:Ch} {yb:Nat} {cells row:List Value}
  (hg:o.guard=none) (ho:o.op=.call { callee:=.builtin .append,args:=#[x,y],argTypes:=#[tS,tX] }) (hS:P.underlying tS=some (.slice elem)) (hX:P.underlying tX=some (.slice e')) (hi:P.info? elem=some ti) (hz:ti.zero=some z) (hzs:z.cells.size=ti.size)
  (hbig:(2*(n+1)+200)*ti.bytes≤281474976710656) (hn:n<1000000) (hrow:row.length=ti.size) (hok:∀v∈row,v.oneCell'=true) (hx:a.eval x=.slice S.1 S.2.1 S.2.2) (hy:a.eval y=.slice (some ⟨yb,0,none⟩) 1 1) (hyb:w.heap[yb]?=some (.cells ⟨row⟩ t (0,0)))
  (hG:Grow w S ti.size elem n cells) (hQ:∀(w':World) (S':Ch),Grow w' S' ti.size elem (n+1) (cells++row)→Vs w S S' w'→wpList P ops Q tail (a.put o.dst (.slice S'.1 S'.2.1 S'.2.2)) w'):wpList P ops Q (o::tail) a w:=by
 refine wpList_plain hg fun K hK=>?_
 have hX':(∃e,P.underlying tX=some (.slice e))∨P.underlying tX=some .string:=.inl ⟨_,hX⟩
 have hcellY:∀j v,row[j]?=some v→w.cell? ((⟨yb,0,none⟩:Addr).add j)=some v:=fun j v hj=>by
  rw [Hw]
  simpa [bS,hyb] using hj
 have hl:(Builtin.lenOf (.slice (some ⟨yb,0,none⟩) 1 1)).run P w=.ok 1 w:=by simp [Builtin.lenOf]
 have hfw:∀w0:World,w0.heap=w.heap→(dE ti.size 1 (.slice (some ⟨yb,0,none⟩) 1 1)).run P w0=.ok row.toArray w0:=fun w0 hw0=>by
  have:=run_loadCells_list (P:=P) w0 ⟨yb,0,none⟩ row (fun j v hj=>by have:=hcellY j v hj; simpa [bS,hw0] using this)
  simp [dE,←hrow,this]
 obtain ⟨S1,S2,S3⟩:=S
 obtain ⟨g1,g2,g3,g4⟩:=hG
 simp only at g1 g3 g4 hx
 subst g1
 have key:∀(v:Value) (w':World),(afi #[tS,tX] o.type #[.slice S1 S2 S3,.slice (some ⟨yb,0,none⟩) 1 1]).run P w=.ok v w'→wpList P ops Q tail (a.put o.dst v) w'→o.wp P a w K Q:=fun v w' hrun hq=>by
  obtain ⟨dst,op,ty,pos,aft,gd⟩:=o
  simp only at ho hg hrun hq
  subst ho
  unfold Oper.wp execOp
  simp only [resolve,invoke,builtin,di,dA,bC,List.map_toArray,dI,ae9,hx,hy,hrun]
  exact hK _ _ hq
 by_cases hroom:S2+1≤S3
 ·cases S1 with
  | none=>have:=g3 rfl; omega
  | some ad =>
   obtain ⟨g,cs,rfl,b1,b2,b3,b4⟩:=g4 ad rfl
   have hsz:S2*ti.size+row.length≤cs.size:=by
    rw [hrow]
    have:(S2+1)*ti.size≤S3*ti.size:=Nat.mul_le_mul_right _ hroom
    rw [Nat.add_mul] at this
    omega
   have hadd:=Hw g (S2*ti.size)
   have hst:=run_storeCells_at (P:=P) g (S2*ti.size) elem row 0 cs w b1 (by omega) hok
   rw [←hadd] at hst
   refine key _ _ (Ec hS hX' hi hl (hfw w rfl) hroom hst) (hQ _ (some ⟨g,0,none⟩,S2+1,S3) ⟨rfl,?_,fun e=>(by cases e),fun a' ha=>?_⟩ ⟨rfl,rfl,rfl,by simp,fun k hk hne=>setRow_other _ _ _ _ (fun e=>hne ⟨g,0,none⟩ rfl e.symm),g,rfl,.inl ⟨_,rfl,rfl⟩⟩)
   ·simp [g2,hrow,Nat.add_mul]
   ·injection ha with ha; subst ha
    refine ⟨g,_,rfl,setRow_heap w g cs _ elem (0,0) b1,?_,hroom,?_⟩
    ·simp only [Nat.add_zero,aeR,afa,List.length_take,List.length_drop,Array.length_toList]
     omega
    ·simp only [Nat.add_zero]
     have e1:cs.toList.take (S2*ti.size)=cells:=by rw [←g2]; exact b4
     rw [e1,List.take_append_of_le_length (au _),List.take_length]
 ·have hc:S3<S2+1:=by omega
  have hfit:Builtin.nextslicecap (S2+1) S3*ti.bytes≤281474976710656:=aZ (Nat.mul_le_mul_right _ (P5 hc)) hbig
  have hold:(dE ti.size S2 (.slice S1 S2 S3)).run P w.drew=.ok cells.toArray w.drew:=by
   cases S1 with
   | none =>
    have:=(g3 rfl).1
    subst this
    have:cells=[]:=bR (by simpa using g2)
    subst this
    simp [dE]
   | some ad =>
    obtain ⟨g,cs,rfl,b1,b2,b3,b4⟩:=g4 ad rfl
    have:=run_loadCells_list (P:=P) w.drew ⟨g,0,none⟩ cells (fun j v hj=>by
     have hadd:=Hw g j
     rw [←b4] at hj
     simp only [dx] at hj
     split at hj
     ·have hb:w.drew.heap[g]?=some (.cells cs elem (0,0)):=b1
      simpa [hadd,bS,hb] using hj
     ·cases hj)
    rw [g2] at this
    simp [dE,this]
  obtain ⟨cap,hcap,hrun⟩:=D9 (P:=P) (ty:=o.type) (base:=S1) (c:=S3) hS hX' hi hz hl (hfw w.drew rfl) hold hc (by omega) hfit
  refine key _ _ hrun (hQ _ (some ⟨w.heap.size,0,none⟩,S2+1,cap) ⟨rfl,?_,fun e=>(by cases e),fun a' ha=>?_⟩ ⟨rfl,rfl,rfl,by rw [ve]; exact Nat.le_succ _,fun k hk _=>nD w.drew _ hk,w.heap.size,rfl,.inr (au _)⟩)
  ·simp [g2,hrow,Nat.add_mul]
  ·injection ha with ha; subst ha
   refine ⟨w.heap.size,_,rfl,heap_alloc_new w.drew _,?_,hcap,?_⟩
   ·simp only [Array.size_append,aeR,size_zeroCells,hzs,g2,hrow]
    rw [←Nat.add_one_mul,←Nat.add_mul]
    exact Nat.mul_le_mul_right _ (by omega)
   ·simp only [Array.toList_append]
    rw [List.take_append_of_le_length (au _),List.take_length]
end Go.Sm
end
section
namespace Go.Sm
open Go.RowKit
section
variable {X:Xt} {G K:Act→World→Prop} {fr fr':List Value} {H H' lo wb loc':Hp} {wg:List Nat} {a:Act} {w w0:World} {ex:List Nat} {us:List (Option Value)} {us':List Nat→List Nat→List (Option Value)} {gs ls:List gQ} {gs' ls':List Nat→List Nat→List gQ} {ws:List jC}
theorem acm (gi li tg tl:List Nat) (R:List Nat→World→Prop) (hrun:Aj X G K ⟨fr,H,lo++wb,[]⟩ ⟨fr',H',loc',wg⟩) (h:dP us gs ls a w) (hk:dO w0 ex w) (hw:jR w0 ex ws) (hown:Own w0 ex gs ls) (hi:In X.env us gs ls ws fr H lo wb) (hz:qc X.env (eH gs ls ws) (lo++wb) w) (h0:∀c,X.env.f0=some c→(eH gs ls ws).gp[0]?=some c)
  (hW:kv X (iC X.env (eH gs ls ws) w))
  (htg:(tg.zipIdx H.length).all (fun y=>match fr'[y.1]? with | some v=>tC y.2 v | none=>false)=true) (htl:(tl.zipIdx (lo++wb).length).all (fun y=>match fr'[y.1]? with | some v=>zF y.2 v | none=>false)=true)
  (hbg:(((H'.drop H.length).take tg.length).map ownB)=tg.map fun _=>true) (hbl:(((loc'.drop (lo++wb).length).take tl.length).map ownB)=tl.map fun _=>true) (hlive:((H'.take H.length).map ownB)=H.map fun _=>true)
  (ho:∀ng nl:List Nat,ng.length=tg.length→nl.length=tl.length→(gs.map (·.1)++ls.map (·.1)++ng++nl).Nodup→Cc X.env (oZ gs ls ws ng nl) (us' ng nl) (gs' ng nl) (ls' ng nl) gi li fr' H' loc') (hwa:(((loc'.drop ls.length).take ws.length).map mJ)=ws.map fun _=>true)
  (hR0:∀(m':Mp) (a':Act) (w':World) (nl:List Nat),jQ (iC X.env (eH gs ls ws) w) H w ⟨fr',H',loc',wg⟩ m' a' w'→At ⟨gs.map (·.1),(eH gs ls ws).lp++nl.map fun g=>(g,0)⟩ m'→R nl w')
  (hQ:∀(a':Act) (w':World) (ng nl:List Nat),R nl w'→ng.length=tg.length→nl.length=tl.length→(gs.map (·.1)++ls.map (·.1)++ng++nl).Nodup→(∀n∈ng++nl,w.heap.size≤n∧n<w'.heap.size)→dP (us' ng nl) (gs' ng nl) (ls' ng nl) a' w'→dO w0 ex w'→K a' w'):G a w:=by
 have hww:∀x∈ws,tV w x:=fun x hx=>hk.win (hw x hx).1.1 (hw x hx).1.2 (hw x hx).2
 have hpre:=h.pre hww (G7 hw hown) hi.f1 hi.f2 hi.hH hi.ha hi.hL hi.la hi.hW hi.wa hz h0
 refine hrun _ _ _ _ a w ⟨rfl,hW⟩ hpre.GH fun m' a' w' hs=>?_
 have hA0:=(vF X.env (eH gs ls ws) w).mono hs.ext.le
 obtain ⟨ng,g1,g2⟩:=Dh hs (fun i _ v=>tC i v) (fun _ _ _ _ _ _ _ _=>trivial) m'.gb (fun i t v u hv hr=>by obtain ⟨o,q⟩:=Df hv; exact DL hr q) (fun i t v hv=>by obtain ⟨o,rfl | ⟨n,c,rfl⟩⟩:=Df hv<;>rfl) tg H.length (fun j t e=>by
  have:=bn.1 htg (t,H.length+j) (aN (i:=j) (by simp [List.getElem?_zipIdx,e]))
  simp only at this
  split at this
  ·rename_i v hv; exact ⟨v,hv,this⟩
  ·cases this)
 obtain ⟨nl,l1,l2⟩:=Dh hs (fun i _ v=>zF i v) (fun _ _ _ _ _ _ _ _=>trivial) m'.lb (fun i t v u hv hr=>by obtain ⟨o,q⟩:=Fh hv; exact Va hr q) (fun i t v hv=>by obtain ⟨o,rfl⟩:=Fh hv; rfl) tl (lo++wb).length (fun j t e=>by
  have:=bn.1 htl (t,(lo++wb).length+j) (aN (i:=j) (by simp [List.getElem?_zipIdx,e]))
  simp only at this
  split at this
  ·rename_i v hv; exact ⟨v,hv,this⟩
  ·cases this)
 have hGl:H.length=gs.length:=by simpa using congrArg ae1 hi.hH
 have hLl:(lo++wb).length=ls.length+ws.length:=by
  have e1:lo.length=ls.length:=by simpa using congrArg ae1 hi.hL
  have e2:wb.length=ws.length:=by simpa using congrArg ae1 hi.hW
  simp [e1,e2]
 have hnb:∀(j g:Nat),ng[j]?=some g→m'.gb (gs.length+j)=some g∧∃b,H'[gs.length+j]?=some b∧ownB b=true:=fun j g e=>by
  refine ⟨by rw [←hGl]; exact g2 j g e,?_⟩
  obtain ⟨t,ht⟩:∃t,tg[j]?=some t:=⟨_,ah (by rw [←g1]; exact (ai.1 e).1)⟩
  obtain ⟨b,b1,b2⟩:=tu hbg.symm ht
  simp only [dx,aeX] at b1
  split at b1
  ·exact ⟨b,by rw [←hGl]; exact b1,b2.symm⟩
  ·cases b1
 have hnl:∀(j g:Nat),nl[j]?=some g→m'.lb (ls.length+ws.length+j)=some g∧∃b,loc'[ls.length+ws.length+j]?=some b∧ownB b=true:=fun j g e=>by
  refine ⟨by rw [←hLl]; exact l2 j g e,?_⟩
  obtain ⟨t,ht⟩:∃t,tl[j]?=some t:=⟨_,ah (by rw [←l1]; exact (ai.1 e).1)⟩
  obtain ⟨b,b1,b2⟩:=tu hbl.symm ht
  simp only [dx,aeX] at b1
  split at b1
  ·exact ⟨b,by rw [←hLl]; exact b1,b2.symm⟩
  ·cases b1
 have hR:=hs.ext.rel
 have hold:∀(i g:Nat),(gs.map (·.1))[i]?=some g→m'.gb i=some g∧∃b,H'[i]?=some b∧ownB b=true:=fun i g e=>by
  refine ⟨hs.ext.le.gb i g (show (eH gs ls ws).gp[i]?=some g from e),?_⟩
  have hi':i<H.length:=by have:=(ai.1 e).1; simp at this; omega
  obtain ⟨b,b1,b2⟩:=tu hlive.symm (ah hi')
  rw [dx,if_pos hi'] at b1
  exact ⟨b,b1,b2.symm⟩
 have hsz:∀n∈ng++nl,w.heap.size≤n∧n<w'.heap.size:=fun n hn=>by
  rcases bH.1 hn with hn | hn
  ·obtain ⟨j,hj⟩:=cZ hn
   obtain ⟨q1,b,q2,q3⟩:=hnb j n hj
   refine ⟨?_,(hR.ic _ _ q1).1⟩
   rcases hs.ext.img _ _ q1 with ⟨i,e⟩ | e
   ·exfalso
    have e':(gs.map (·.1))[i]?=some n:=e
    obtain ⟨r1,b',r2,r3⟩:=hold i n e'
    have:=hR.ko _ _ n b b' q1 r1 q2 r2 (jU q3).1 (jU r3).1
    have:=(ai.1 e').1
    simp at this; omega
   ·exact e
  ·obtain ⟨j,hj⟩:=cZ hn
   obtain ⟨q1,b,q2,q3⟩:=hnl j n hj
   refine ⟨?_,(hR.iN _ _ q1).1⟩
   rcases hs.ext.oG _ _ q1 with e | e
   ·exfalso
    simp only [iC,aR,eH] at e
    obtain ⟨y,y1,_⟩:=e
    have:=(ai.1 y1).1
    simp at this
    omega
   ·exact e
 have hltw:∀n∈gs.map (·.1)++ls.map (·.1),n<w.heap.size:=fun n hn=>by
  rcases bH.1 hn with hn | hn<;>obtain ⟨y,y1,rfl⟩:=aeZ.1 hn
  ·exact (aB.1 (h.gl y y1)).1
  ·exact (aB.1 (h.lo y y1)).1
 have hnd:(gs.map (·.1)++ls.map (·.1)++ng++nl).Nodup:=by
  refine afe.2 ⟨afe.2 ⟨h.nd,?_,fun a ha b hb e=>?_⟩,?_,fun a ha b hb e=>?_⟩
  ·refine ae7.2 fun i j hi' hj hij e0=>?_
   obtain ⟨n,hn⟩:∃n,ng[i]?=some n:=⟨_,ah hi'⟩
   have e:ng[i]?=ng[j]?:=by rw [ah hi',ah hj,e0]
   obtain ⟨q1,b,q2,q3⟩:=hnb i n hn
   obtain ⟨r1,b',r2,r3⟩:=hnb j n (by rw [←e]; exact hn)
   have:=hR.ko _ _ n b b' q1 r1 q2 r2 (jU q3).1 (jU r3).1
   omega
  ·subst e; have:=hltw a ha; have:=(hsz a (aeY _ hb)).1; omega
  ·refine ae7.2 fun i j hi' hj hij e0=>?_
   obtain ⟨n,hn⟩:∃n,nl[i]?=some n:=⟨_,ah hi'⟩
   have e:nl[i]?=nl[j]?:=by rw [ah hi',ah hj,e0]
   obtain ⟨q1,b,q2,q3⟩:=hnl i n hn
   obtain ⟨r1,b',r2,r3⟩:=hnl j n (by rw [←e]; exact hn)
   rcases hR.pJ _ _ n b b' q1 r1 q2 r2 with k | ⟨_,_,k,_⟩
   ·omega
   ·rw [(jU q3).2.1] at k; cases k
  ·subst e
   rcases bH.1 ha with ha | ha
   ·have:=hltw a ha; have:=(hsz a (dm _ hb)).1; omega
   ·obtain ⟨i,hi'⟩:=cZ ha
    obtain ⟨j,hj⟩:=cZ hb
    exact hR.lh _ _ a (hnb i a hi').1 (hnl j a hj).1
 have hA:At (oZ gs ls ws ng nl) m':=by
  refine ⟨fun i g e=>?_,fun i g e=>?_,fun i y e=>?_⟩
  ·simp only [oZ] at e
   by_cases hi':i<gs.length
   ·rw [aH (by simpa using hi')] at e
    exact hA0.gb i g e
   ·rw [bu (by simpa using afb hi')] at e
    simp only [dF] at e
    have:=(hnb _ g e).1
    rwa [show gs.length+(i - gs.length)=i by omega] at this
  ·simp only [oZ] at e
   by_cases hi':i<gs.length
   ·rw [aH (by simpa using hi')] at e
    exact hA0.lo i g e
   ·rw [bu (by simpa using afb hi')] at e
    simp only [dF] at e
    obtain ⟨q1,b,q2,q3⟩:=hnb _ g e
    rw [show gs.length+(i - gs.length)=i by omega] at q1 q2
    obtain ⟨_,b',r1,r2⟩:=hR.ic i g q1
    rw [q2] at r1; injection r1 with r1; subst r1
    rw [r2.lo]; exact (jU q3).2.1
  ·simp only [oZ] at e
   by_cases hi':i<ls.length+ws.length
   ·rw [aH (by simp [eH]; omega)] at e
    exact hA0.lb i y e
   ·rw [bu (by simp [eH]; omega)] at e
    simp only [bY,aR] at e
    obtain ⟨g,e1,rfl⟩:=e
    have hlen:(eH gs ls ws).lp.length=ls.length+ws.length:=by simp [eH]
    rw [hlen] at e1
    obtain ⟨q1,b,q2,q3⟩:=hnl _ g e1
    rw [show ls.length+ws.length+(i - (ls.length+ws.length))=i by omega] at q1 q2
    refine ⟨q1,?_⟩
    obtain ⟨_,b',r1,r2⟩:=hR.iN i g q1
    rw [q2] at r1; injection r1 with r1; subst r1
    obtain ⟨_,_,_,_,_,_,k,_⟩:=r2.blk (jU q3).1
    exact (k (jU q3).2.1).1
 have hp:=Bt hpre hs hA (fun i y e=>by
  simp only [oZ]
  rw [aH (ai.1 e).1]; exact e)
 have ho':=ho ng nl g1 l1 hnd
 exact hQ a' w' ng nl (hR0 m' a' w' nl hs ⟨fun i g e=>hA0.gb i g e,fun i g e=>hA0.lo i g e,hA.lb⟩) g1 l1 hnd hsz (hp.GN gi li ho'.f0 ho'.f1 ho'.hG ho'.hL ho'.nd) (hk.post hp hown hww hwa)
end
variable {n:Nat}
theorem Zq {E:Env} {q:Pl} {m0 m':Mp} {H0:Hp} {w0 w':World} {s:St} {a':Act} (hs:jQ m0 H0 w0 s m' a' w') (hE:m'.env=E) (hA:At q m') {ib gb k qi:Nat} {b bq:eG} {vs:List Value} (h1:q.lp[ib]?=some (gb,0)) (h2:s.loc[ib]?=some b) (h3:ownB b=true) (h4:b.cells[k]?=some (.slice (some ⟨qi,0,none⟩) n n)) (hn:n≠0) (h5:s.H[qi]?=some bq) (h6:bq.live=true∧bq.loose=true) (h7:bq.cells.length=n*bq.eD) (hv:eQ (fP E q 4) bq.cells=some vs) :
  ∃(S:Ch) (cb:Array Value),w'.heap[gb]?=some (.cells cb b.elem (0,0))∧cb.size=b.cells.length∧cb[k]?=some (.slice S.1 S.2.1 S.2.2)∧(∀(j:Nat) (v u:Value),b.cells[j]?=some v→fP E q 4 v=some u→cb[j]?=some u)∧Grow w' S bq.eD bq.elem n vs∧∃g,S.1=some ⟨g,0,none⟩∧m'.gb qi=some g:=by
 obtain ⟨k1,k2⟩:=hA.lb ib (gb,0) h1
 have hR:=hs.ext.rel
 obtain ⟨_,b',hb',hL⟩:=hR.iN ib gb k1
 rw [h2] at hb'; injection hb' with hb'; subst hb'
 obtain ⟨o1,o2,o3⟩:=jU h3
 obtain ⟨cb,t,f,q1,q2,q3,q4,q5⟩:=hL.blk o1
 obtain ⟨rfl,rfl⟩:=q5 o3
 obtain ⟨r1,r2⟩:=q4 o2
 simp only at k2
 rw [k2,List.drop_zero,dH (by simp [r2])] at q3
 obtain ⟨v',hv1,hv2⟩:=q3.at h4
 have hcell:∀(j:Nat) (v:Value),b.cells[j]?=some v→∃v',cb[j]?=some v'∧VR m' v v':=fun j v hj=>by
  obtain ⟨v',e1,e2⟩:=q3.at hj
  exact ⟨v',by simpa using e1,e2⟩
 obtain ⟨g,c',rfl,hg,hc,htot⟩:∃g c',v'=.slice (some ⟨g,0,none⟩) n c'∧m'.gb qi=some g∧n≤c'∧(c'=n∨c'*m'.eD qi≤m'.tot qi):=by
  cases hv2 with
  | ow e=>exact ⟨_,_,rfl,e,au _,.inl rfl⟩
  | qW e _ hc ht=>exact ⟨_,_,rfl,e,hc,.inr (by simpa using ht)⟩
  | qV=>exact absurd rfl hn
 obtain ⟨_,bq',hbq',hG⟩:=hR.ic qi g hg
 rw [h5] at hbq'; injection hbq' with hbq'; subst hbq'
 obtain ⟨cs,s1,s2,s3,s4,s5⟩:=hG.blk h6.1
 have hvs:=oN (p9 hA 4) _ _ _ (by rw [hE]; exact hv) (s3.mono (Be m'))
 refine ⟨(some ⟨g,0,none⟩,n,c'),cb,q1,r2,by simpa using hv1,fun j v u e1 e2=>?_,⟨rfl,by rw [nR _ _ hv,h7],fun e=>(by cases e),fun a ha=>?_⟩,g,rfl,hg⟩
 ·obtain ⟨v',e3,e4⟩:=hcell j v e1
  rw [p9 hA 4 v u v' (by rw [hE]; exact e2) e4] at e3
  exact e3
 ·injection ha with ha; subst ha
  refine ⟨g,cs,rfl,s1,?_,hc,?_⟩
  ·rcases htot with rfl | ht
   ·show c'*bq.eD≤cs.size; omega
   ·show c'*bq.eD≤cs.size; rw [←hG.ez,←s5 h6.2]; exact ht
  ·rw [nR _ _ hv]; exact hvs
section
variable {P:Program} {X:Xt} {O:ig} {esc:Nat→Bool} {ops l tail:List Oper} {fr:List Value} {H lo wb:Hp} {a:Act} {w w0:World} {ex:List Nat} {Q:Exit→Act→World→Prop} {us us':List (Option Value)} {gs gs' ls ls':List gQ} {ws:List jC}
theorem aa2 (hN:kP P) (hX:kD P X) (hO:iY P X.env O) (hc:q8 l=true) (gi li:List Nat) (hchk:(qC P X O esc ops l ⟨fr,H,lo++wb,[]⟩).map (pI X.env (eH gs ls ws) us' gi li ls.length ws.length)=some (goal us' gs' ls' ws.length))
  (hi:nE X.env (eH gs ls ws) fr H lo wb=((us,true),(gs.map iT,true),(ls.map iT,true),(ws.map (fun x=>some x.2.2),true))) (nd:(gs'.map (·.1)++ls'.map (·.1)).Nodup)
  (h:dP us gs ls a w) (hk:dO w0 ex w) (hw:jR w0 ex ws) (hown:Own w0 ex gs ls) (hz:qc X.env (eH gs ls ws) (lo++wb) w) (h0:∀c,X.env.f0=some c→(eH gs ls ws).gp[0]?=some c) (hW:kv X (iC X.env (eH gs ls ws) w))
  (hQ:∀a' w',dP us' gs' ls' a' w'→dO w0 ex w'→wpList P ops.toArray Q tail a' w'):wpList P ops.toArray Q (l++tail) a w:=by
 obtain ⟨s',h1,h2⟩:=aR.1 hchk
 obtain ⟨ho,hwa⟩:=zx h2 nd
 exact piece gi li (Re hN hX hO hc h1) h hk hw hown (oH hi) hz h0 hW ho hwa hQ
end
section
variable {P:Program} {X:Xt} {O:ig} {esc:Nat→Bool} {ops l tail:List Oper} {fr:List Value} {H lo wb:Hp} {a:Act} {w w0:World} {ex:List Nat} {Q:Exit→Act→World→Prop} {us:List (Option Value)} {us':List Nat→List Nat→List (Option Value)} {gs ls:List gQ} {gs' ls':List Nat→List Nat→List gQ} {ws:List jC}
theorem aa1 (hN:kP P) (hX:kD P X) (hO:iY P X.env O) (hc:q8 l=true) (gi li tg tl:List Nat)
  (hchk:∀ng nl:List Nat,ng.length=tg.length→nl.length=tl.length→(qC P X O esc ops l ⟨fr,H,lo++wb,[]⟩).map (uj X.env (oZ gs ls ws ng nl) (us' ng nl) gi li tg tl ls.length ws.length H.length (lo++wb).length)=some (goal (us' ng nl) (gs' ng nl) (ls' ng nl) ws.length,(true,true),tg.map (fun _=>true),tl.map (fun _=>true),H.map (fun _=>true)))
  (hi:nE X.env (eH gs ls ws) fr H lo wb=((us,true),(gs.map iT,true),(ls.map iT,true),(ws.map (fun x=>some x.2.2),true)))
  (nd:∀ng nl:List Nat,ng.length=tg.length→nl.length=tl.length→(gs.map (·.1)++ls.map (·.1)++ng++nl).Nodup→((gs' ng nl).map (·.1)++(ls' ng nl).map (·.1)).Nodup)
  (h:dP us gs ls a w) (hk:dO w0 ex w) (hw:jR w0 ex ws) (hown:Own w0 ex gs ls) (hz:qc X.env (eH gs ls ws) (lo++wb) w) (h0:∀c,X.env.f0=some c→(eH gs ls ws).gp[0]?=some c) (hW:kv X (iC X.env (eH gs ls ws) w))
  (hQ:∀(a':Act) (w':World) (ng nl:List Nat),ng.length=tg.length→nl.length=tl.length→(gs.map (·.1)++ls.map (·.1)++ng++nl).Nodup→(∀n∈ng++nl,w.heap.size≤n∧n<w'.heap.size)→dP (us' ng nl) (gs' ng nl) (ls' ng nl) a' w'→dO w0 ex w'→wpList P ops.toArray Q tail a' w'):wpList P ops.toArray Q (l++tail) a w:=by
 obtain ⟨s',h1,h2⟩:=aR.1 (hchk (tg.map fun _=>0) (tl.map fun _=>0) (by simp) (by simp))
 simp only [uj,aP] at h2
 obtain ⟨hq0,⟨h3,h4⟩,h5,h6,h7⟩:=h2
 have hwa:(((s'.loc.drop ls.length).take ws.length).map mJ)=ws.map fun _=>true:=by
  simp only [pI,goal,aP] at hq0
  rw [hq0.2.2.2]
  exact Dn ws
 refine QP gi li tg tl (Re hN hX hO hc h1) h hk hw hown (oH hi) hz h0 hW h3 h4 h5 h6 h7 (fun ng nl e1 e2 e3=>?_) hwa hQ
 obtain ⟨s2,k1,k2⟩:=aR.1 (hchk ng nl e1 e2)
 rw [h1] at k1; injection k1 with k1; subst k1
 simp only [uj,aP] at k2
 exact (zx k2.1 (nd ng nl e1 e2 e3)).1
end
end Go.Sm
end
end
