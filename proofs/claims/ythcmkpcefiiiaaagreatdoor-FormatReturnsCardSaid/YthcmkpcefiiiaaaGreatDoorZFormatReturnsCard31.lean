/-
  Texts put together: Uf Co FormatReturns.
-/
import Derived.Test.YthcmkpcefiiiaaaGreatDoorZFormatReturnsCard30
import Derived.Test.YthcmkpcefiiiaaaGreatDoorZFormatReturnsCard1
import Derived.Deep.Slices
import Derived.OpenShut
import Derived.ChangeArms
import Derived.ProofKit
import Derived.ChangeSame
import Derived.Carry
import Derived.Below
import Derived.Lib.SmallJoins
import Derived.Test.YthcmkpcefiiiaaaGreatDoorZFormatReturnsCard6
import Derived.Test.YthcmkpcefiiiaaaGreatDoorRows
import Derived.WalkKit
import Derived.SizedLaws
import Derived.JoinedCond
import Derived.Deep.DeepHandedRow
import Derived.Deep.DeepWitnessRowRef
set_option linter.unusedVariables false
section
/-
 Walks: the law FormatReturns. Printed by gen_uf.py.
-/
namespace Go.Proofs.Ng
open Go.RowKit
theorem ret_fmtP {p : Fm.PathD} (h : MkPath p) {X : World} {v : Value} (hP : PathAt X v p) (hL : LibW X) : Calls Tryz.prog 18 #[v] X (fun e W' => e = .returned (.tuple #[.string ⟨(Fm.docT p).toArray⟩, .int .i64 0]) ∧ Below X.heap.size X W') := by
 have hdl := docT_le (mk_small h) (mk_in h)
 have HF := formatPath16 X v p hP (pathOk_of (mk_small h) (mk_in h)) (by omega) hL.tabs
 rw [formatP_yes h.rt (by omega)] at HF
 exact HF
theorem ret_fmtC {t : Fm.TreeD} (h : MkT t) (hn : t.cells.length ≤ 27) {X : World} {v : Value} (hP : TreeAt X v t) (hL : LibW X) : Calls Tryz.prog 19 #[v] X (fun e W' => e = .returned (.tuple #[.string ⟨(Fm.docC t).toArray⟩, .int .i64 0]) ∧ Below X.heap.size X W') := by
 have hdl := docC_le h hn
 exact formatCut19 X v t hP h.val (treeOk_of h hn) (by omega) (by have := h.rl; omega) (by omega) hL.tabs
theorem ret_fmtT {t : Fm.TrajD} (h : MkTraj t) {X : World} {v : Value} (hP : TrajAt X v t) (hL : LibW X) : Calls Tryz.prog 20 #[v] X (fun e W' => e = .returned (.tuple #[.string ⟨(Fm.docTr t).toArray⟩, .int .i64 0]) ∧ Below X.heap.size X W') := by
 have hdl := docTr_le (mkT_small h) (mkT_in h)
 have HF := formatTraj30 X v t hP (trajOk_of (mkT_small h) (mkT_in h)) (by omega) hL.tabs
 rw [formatTr_yes h.path.rt h.rt (by omega)] at HF
 exact HF
theorem ret_parP {p : Fm.PathD} (h : MkPath p) {X : World} (hL : LibW X) : Calls Tryz.prog 13 #[.string ⟨(Fm.docT p).toArray⟩] X (fun e W' => ∃ v, e = .returned (.tuple #[v, .int .i64 0]) ∧ PathAt W' v p ∧ Below X.heap.size X W') := by
 have hdl := docT_le (mk_small h) (mk_in h)
 refine (parsePath17 ⟨(Fm.docT p).toArray⟩ X (by rw [bytes_len]; omega) hL).mono ?_
 rintro e W' ⟨v, rfl, hN, hb⟩
 have hr : parseRes (ByteArray.mk (Fm.docT p).toArray).data.toList = (p, 0) := by
  simp only [List.toList_toArray]
  unfold parseRes
  rw [if_neg (by omega), if_pos (kindN_docT p), Fm.doc_parse (pathOk_of (mk_small h) (mk_in h)) h.rt]
 rw [hr] at hN ⊢
 exact ⟨v, rfl, hN.now.at, hb⟩
theorem ret_parC {t : Fm.TreeD} (h : MkT t) (hn : t.cells.length ≤ 27) {X : World} (hL : LibW X) : Calls Tryz.prog 14 #[.string ⟨(Fm.docC t).toArray⟩] X (fun e W' => ∃ v, e = .returned (.tuple #[v, .int .i64 0]) ∧ TreeAt W' v t ∧ Below X.heap.size X W') := by
 have hdl := docC_le h hn
 refine (parseCut14 ⟨(Fm.docC t).toArray⟩ X (by rw [bytes_len]; omega) hL).mono ?_
 rintro e W' ⟨v, rfl, hN, hb⟩
 have hr : parseResC (ByteArray.mk (Fm.docC t).toArray).data.toList = (t, 0) := by
  simp only [List.toList_toArray]
  unfold parseResC
  rw [if_neg (by omega), if_pos (kindN_docC t), Fm.doc_parseC (treeOk_of h hn) h.val]
 rw [hr] at hN ⊢
 exact ⟨v, rfl, hN.now.at, hb⟩
theorem ret_parT {t : Fm.TrajD} (h : MkTraj t) {X : World} (hL : LibW X) : Calls Tryz.prog 15 #[.string ⟨(Fm.docTr t).toArray⟩] X (fun e W' => ∃ v, e = .returned (.tuple #[v, .int .i64 0]) ∧ TrajAt W' v t ∧ Below X.heap.size X W') := by
 have hdl := docTr_le (mkT_small h) (mkT_in h)
 refine (parseTraj31 ⟨(Fm.docTr t).toArray⟩ X (by rw [bytes_len]; omega) hL).mono ?_
 rintro e W' ⟨v, rfl, hN, hb⟩
 have hr : parseResT (ByteArray.mk (Fm.docTr t).toArray).data.toList = (t, 0) := by
  simp only [List.toList_toArray]
  unfold parseResT
  rw [if_neg (by omega), if_pos (kindN_docTr t), Fm.doc_parseTr (trajOk_of (mkT_small h) (mkT_in h)) (mkT_right h)]
 rw [hr] at hN ⊢
 exact ⟨v, rfl, hN.now.at, hb⟩
structure Rt0 (w X : World) (n5 n6 n7 : Nat) (A B C : List Value) (p : Fm.PathD) (t : Fm.TreeD) (x : Fm.TrajD) : Prop where
 b5 : Bx X n5 A 29
 b6 : Bx X n6 B 36
 b7 : Bx X n7 C 43
 p : PathAt X (.agg A.toArray) p
 t : TreeAt X (.agg B.toArray) t
 x : TrajAt X (.agg C.toArray) x
 bel : Below w.heap.size w X
theorem Rt0.keep {w X Y : World} {n5 n6 n7 : Nat} {A B C : List Value} {p : Fm.PathD} {t : Fm.TreeD} {x : Fm.TrajD} (h : Rt0 w X n5 n6 n7 A B C p t x) (hb : Below X.heap.size X Y) : Rt0 w Y n5 n6 n7 A B C p t x :=
 ⟨h.b5.keep hb, h.b6.keep hb, h.b7.keep hb, h.p.keep hb, h.t.keep hb, h.x.keep hb, below_call h.bel hb⟩
theorem Rt0.new {w W : World} {A B C : List Value} {p : Fm.PathD} {t : Fm.TreeD} {x : Fm.TrajD} (hp : PathAt W (.agg A.toArray) p) (ht : TreeAt W (.agg B.toArray) t) (hx : TrajAt W (.agg C.toArray) x) (hb : Below w.heap.size w W) :
  ∃ n5 n6 n7 : Nat, n5 = W.heap.size ∧ n6 = W.heap.size + 1 ∧ n7 = W.heap.size + 1 + 1 ∧ Rt0 w (((W.alloc (.cells A.toArray 29)).alloc (.cells B.toArray 36)).alloc (.cells C.toArray 43)) n5 n6 n7 A B C p t x := by
 obtain ⟨n5, n6, e5, e6, x5, x6, h2⟩ := news2 W A B 29 36
 have h3 : Below ((W.alloc (.cells A.toArray 29)).alloc (.cells B.toArray 36)).heap.size ((W.alloc (.cells A.toArray 29)).alloc (.cells B.toArray 36)) (((W.alloc (.cells A.toArray 29)).alloc (.cells B.toArray 36)).alloc (.cells C.toArray 43)) := (Below.refl _ _).alloc (Nat.le_refl _) _
 have h7 := Bx.new ((W.alloc (.cells A.toArray 29)).alloc (.cells B.toArray 36)) C 43
 have hz : ((W.alloc (.cells A.toArray 29)).alloc (.cells B.toArray 36)).heap.size = W.heap.size + 1 + 1 := by simp
 have h23 := below_call h2 h3
 rw [hz] at h7
 exact ⟨n5, n6, _, e5, e6, rfl, x5.keep h3, x6.keep h3, h7, hp.keep h23, ht.keep h23, hx.keep h23, below_call hb h23⟩
set_option maxRecDepth 100000 in
set_option maxHeartbeats 8000000 in
theorem formatReturns4 (w : World) (ol : Option Addr) (cl : Nat) (ls : List Int) (om : Option Addr) (cm : Nat) (ms : List Int) (hI : Sl w ol 1 (pvals ls)) (hl : ls.length ≤ 9223372036854775807) (hIm : Sl w om 1 (pvals ms)) (hlm : ms.length ≤ 9223372036854775807) (hL : LibW w) :
  Calls Tryz.prog 4 #[.slice ol ls.length cl, .slice om ms.length cm] w (BoolP true w) := by
 have HL := Lib.hid (fun X (hX : Below w.heap.size w X) => hL.keep hX)
 have HP := Lib.hid (Path7 w ol cl ls hI hl)
 have HTR := Lib.hid (fun X (hX : Below w.heap.size w X) => tree10 X ol cl ls (hI.keep hX) hl)
 have HTJ := Lib.hid (fun X (hX : Below w.heap.size w X) => trajectory13 X ol cl ls om cm ms (hI.keep hX) hl (hIm.keep hX) hlm)
 clear hL hI hl hIm hlm
 go_enter Tryz.func4, Tryz.ntmps4
 go_wp2_with fail
 refine HP.out.mono ?_
 clear HP
 rintro e W1 ⟨v, p, rfl, hP, hmk, hb⟩
 have HC := Lib.hid (HTR.out W1 hb)
 have HMP := Lib.hid hmk
 have HPA := Lib.hid hP
 have HB1 := Lib.hid hb
 clear hP hmk hb HTR
 go_wp2_with fail
 refine HC.out.mono ?_
 clear HC
 rintro e W2 ⟨v2, t, rows, rfl, hF, hmt, hn, hb⟩
 have HMT := Lib.hid (And.intro hmt hn)
 have HTA := Lib.hid hF.at
 have HPA2 := Lib.hid (HPA.out.keep hb)
 have HB2 := Lib.hid (below_call HB1.out hb)
 clear hF hmt hn hb HPA HB1
 have HC := Lib.hid (HTJ.out W2 HB2.out)
 clear HTJ
 go_wp2_with fail
 refine HC.out.mono ?_
 clear HC
 rintro e W3 ⟨v3, x, rfl, hT, hmx, hb⟩
 have hpa := HPA2.out.keep hb
 have hta := HTA.out.keep hb
 have HMX := Lib.hid hmx
 have HB3 := Lib.hid (below_call HB2.out hb)
 have HPA := Lib.hid hpa
 have HTA' := Lib.hid hta
 have HXA := Lib.hid hT
 obtain ⟨op, np, oe, ne, rfl, -, -⟩ := hpa
 obtain ⟨or, cr, oc, cc, rfl, -, -⟩ := hta
 obtain ⟨xp, xnp, xe, xne, f, nf, rfl, -, -, -⟩ := hT
 clear HPA2 HTA HB2 hmx hb
 obtain ⟨n5, n6, n7, e5, e6, e7, h4⟩ := Rt0.new (A := [.slice op p.pts.length np, .slice oe p.edges.length ne]) (B := [.slice or t.root.length cr, .slice oc t.cells.length cc]) (C := [.slice xp x.path.pts.length xnp, .slice xe x.path.edges.length xne, .int .i64 x.grav.1, .int .i64 x.grav.2.1, .int .i64 x.grav.2.2, .int .i64 x.grid, .slice f x.profs.length nf]) HPA.out HTA'.out HXA.out HB3.out
 go_upto_region 2 with fail
 rw [← e7, ← e6, ← e5]
 generalize (((W3.alloc (.cells [.slice op p.pts.length np, .slice oe p.edges.length ne].toArray 29)).alloc (.cells [.slice or t.root.length cr, .slice oc t.cells.length cc].toArray 36)).alloc (.cells [.slice xp x.path.pts.length xnp, .slice xe x.path.edges.length xne, .int .i64 x.grav.1, .int .i64 x.grav.2.1, .int .i64 x.grav.2.2, .int .i64 x.grid, .slice f x.profs.length nf].toArray 43)) = W4 at h4 ⊢
 have H4 := Lib.hid h4
 clear e5 e6 e7 h4 HPA HTA' HXA HB3
 have a0 := H4.out.b5.c 0 _ rfl
 have a1 := H4.out.b5.c 1 _ rfl
 have la := H4.out.b5.lt
 have HC := Lib.hid (ret_fmtP HMP.out H4.out.p (HL.out _ H4.out.bel))
 go_wp2_with fail
 refine HC.out.mono ?_
 clear HC a0 a1 la
 rintro e W5 ⟨rfl, hb⟩
 have H5 := Lib.hid (H4.out.keep hb)
 clear hb H4
 have a0 := H5.out.b6.c 0 _ rfl
 have a1 := H5.out.b6.c 1 _ rfl
 have la := H5.out.b6.lt
 have HC := Lib.hid (ret_fmtC HMT.out.1 HMT.out.2 H5.out.t (HL.out _ H5.out.bel))
 go_wp2_with fail
 refine HC.out.mono ?_
 clear HC a0 a1 la
 rintro e W6 ⟨rfl, hb⟩
 have H6 := Lib.hid (H5.out.keep hb)
 clear hb H5
 have a0 := H6.out.b7.c 0 _ rfl
 have a1 := H6.out.b7.c 1 _ rfl
 have a2 := H6.out.b7.c 2 _ rfl
 have a3 := H6.out.b7.c 3 _ rfl
 have a4 := H6.out.b7.c 4 _ rfl
 have a5 := H6.out.b7.c 5 _ rfl
 have a6 := H6.out.b7.c 6 _ rfl
 have la := H6.out.b7.lt
 have HC := Lib.hid (ret_fmtT HMX.out H6.out.x (HL.out _ H6.out.bel))
 go_wp2_with fail
 refine HC.out.mono ?_
 clear HC a0 a1 a2 a3 a4 a5 a6 la
 rintro e W7 ⟨rfl, hb⟩
 have H7 := Lib.hid (H6.out.keep hb)
 clear hb H6
 have HC := Lib.hid (ret_parP HMP.out (HL.out _ H7.out.bel))
 go_wp2_with fail
 refine HC.out.mono ?_
 clear HC
 rintro e V7 ⟨v, rfl, hv, hb⟩
 have hv0 := hv
 obtain ⟨op2, np2, oe2, ne2, rfl, -, -⟩ := hv
 have hb2 : Below V7.heap.size V7 (V7.alloc (.cells [.slice op2 p.pts.length np2, .slice oe2 p.edges.length ne2].toArray 29)) := (Below.refl _ _).alloc (Nat.le_refl _) _
 have hx2 := Bx.new V7 [.slice op2 p.pts.length np2, .slice oe2 p.edges.length ne2] 29
 have hv2 := hv0.keep hb2
 have hb3 := below_call hb hb2
 have h8 := H7.out.keep hb3
 clear hv0 hb hb2 hb3 H7
 go_upto_region 8 with fail
 generalize V7.alloc (.cells [.slice op2 p.pts.length np2, .slice oe2 p.edges.length ne2].toArray 29) = W8 at hx2 hv2 h8  ⊢
 generalize V7.heap.size = n14 at hx2 ⊢
 have H8 := Lib.hid h8
 have K14 := Lib.hid (And.intro hx2 hv2)
 clear hx2 hv2 h8
 have HC := Lib.hid (ret_parC HMT.out.1 HMT.out.2 (HL.out _ H8.out.bel))
 go_wp2_with fail
 refine HC.out.mono ?_
 clear HC
 rintro e V8 ⟨v, rfl, hv, hb⟩
 have hv0 := hv
 obtain ⟨or2, cr2, oc2, cc2, rfl, -, -⟩ := hv
 have hb2 : Below V8.heap.size V8 (V8.alloc (.cells [.slice or2 t.root.length cr2, .slice oc2 t.cells.length cc2].toArray 36)) := (Below.refl _ _).alloc (Nat.le_refl _) _
 have hx2 := Bx.new V8 [.slice or2 t.root.length cr2, .slice oc2 t.cells.length cc2] 36
 have hv2 := hv0.keep hb2
 have hb3 := below_call hb hb2
 have h9 := H8.out.keep hb3
 have K14x := K14.out.1.keep hb3
 have K14y := K14.out.2.keep hb3
 clear hv0 hb hb2 hb3 H8 K14
 go_upto_region 9 with fail
 generalize V8.alloc (.cells [.slice or2 t.root.length cr2, .slice oc2 t.cells.length cc2].toArray 36) = W9 at hx2 hv2 h9 K14x K14y ⊢
 generalize V8.heap.size = n16 at hx2 ⊢
 have H9 := Lib.hid h9
 have K14 := Lib.hid (And.intro K14x K14y)
 have K16 := Lib.hid (And.intro hx2 hv2)
 clear hx2 hv2 h9 K14x K14y
 have HC := Lib.hid (ret_parT HMX.out (HL.out _ H9.out.bel))
 go_wp2_with fail
 refine HC.out.mono ?_
 clear HC
 rintro e V9 ⟨v, rfl, hv, hb⟩
 have hv0 := hv
 obtain ⟨xp2, xnp2, xe2, xne2, f2, nf2, rfl, -, -, -⟩ := hv
 have hb2 : Below V9.heap.size V9 (V9.alloc (.cells [.slice xp2 x.path.pts.length xnp2, .slice xe2 x.path.edges.length xne2, .int .i64 x.grav.1, .int .i64 x.grav.2.1, .int .i64 x.grav.2.2, .int .i64 x.grid, .slice f2 x.profs.length nf2].toArray 43)) := (Below.refl _ _).alloc (Nat.le_refl _) _
 have hx2 := Bx.new V9 [.slice xp2 x.path.pts.length xnp2, .slice xe2 x.path.edges.length xne2, .int .i64 x.grav.1, .int .i64 x.grav.2.1, .int .i64 x.grav.2.2, .int .i64 x.grid, .slice f2 x.profs.length nf2] 43
 have hv2 := hv0.keep hb2
 have hb3 := below_call hb hb2
 have h10 := H9.out.keep hb3
 have K14x := K14.out.1.keep hb3
 have K14y := K14.out.2.keep hb3
 have K16x := K16.out.1.keep hb3
 have K16y := K16.out.2.keep hb3
 clear hv0 hb hb2 hb3 H9 K14 K16
 go_upto_region 10 with fail
 generalize V9.alloc (.cells [.slice xp2 x.path.pts.length xnp2, .slice xe2 x.path.edges.length xne2, .int .i64 x.grav.1, .int .i64 x.grav.2.1, .int .i64 x.grav.2.2, .int .i64 x.grid, .slice f2 x.profs.length nf2].toArray 43) = W10 at hx2 hv2 h10 K14x K14y K16x K16y ⊢
 generalize V9.heap.size = n18 at hx2 ⊢
 have H10 := Lib.hid h10
 have K14 := Lib.hid (And.intro K14x K14y)
 have K16 := Lib.hid (And.intro K16x K16y)
 have K18 := Lib.hid (And.intro hx2 hv2)
 clear hx2 hv2 h10 K14x K14y K16x K16y
 have HC := Lib.hid (awake6 _ (HL.out _ H10.out.bel))
 go_wp2_with fail
 refine HC.out.mono ?_
 clear HC
 rintro e W11 ⟨rfl, hb⟩
 have H11 := Lib.hid (H10.out.keep hb)
 have K14a := Lib.hid (And.intro (K14.out.1.keep hb) (K14.out.2.keep hb))
 have K16a := Lib.hid (And.intro (K16.out.1.keep hb) (K16.out.2.keep hb))
 have K18a := Lib.hid (And.intro (K18.out.1.keep hb) (K18.out.2.keep hb))
 clear hb H10 K14 K16 K18
 have a0 := H11.out.b5.c 0 _ rfl
 have a1 := H11.out.b5.c 1 _ rfl
 have la := H11.out.b5.lt
 have b0 := K14a.out.1.c 0 _ rfl
 have b1 := K14a.out.1.c 1 _ rfl
 have lb := K14a.out.1.lt
 have HC := Lib.hid (samePath18 _ _ _ _ H11.out.p K14a.out.2 (small_of_doc (by have := docT_le (mk_small HMP.out) (mk_in HMP.out); omega)))
 go_wp2_with fail
 refine HC.out.mono ?_
 clear HC a0 a1 la b0 b1 lb
 rintro e W12 ⟨rfl, hb⟩
 have H12 := Lib.hid (H11.out.keep hb)
 have K14b := Lib.hid (And.intro (K14a.out.1.keep hb) (K14a.out.2.keep hb))
 have K16b := Lib.hid (And.intro (K16a.out.1.keep hb) (K16a.out.2.keep hb))
 have K18b := Lib.hid (And.intro (K18a.out.1.keep hb) (K18a.out.2.keep hb))
 clear hb H11 K14a K16a K18a
 have a0 := H12.out.b6.c 0 _ rfl
 have a1 := H12.out.b6.c 1 _ rfl
 have la := H12.out.b6.lt
 have b0 := K16b.out.1.c 0 _ rfl
 have b1 := K16b.out.1.c 1 _ rfl
 have lb := K16b.out.1.lt
 have HC := Lib.hid (sameTree22 _ _ _ _ H12.out.t K16b.out.2 (treeOk_of HMT.out.1 HMT.out.2))
 go_wp2_with fail
 refine HC.out.mono ?_
 clear HC a0 a1 la b0 b1 lb
 rintro e W13 ⟨rfl, hb⟩
 have H13 := Lib.hid (H12.out.keep hb)
 have K14c := Lib.hid (And.intro (K14b.out.1.keep hb) (K14b.out.2.keep hb))
 have K16c := Lib.hid (And.intro (K16b.out.1.keep hb) (K16b.out.2.keep hb))
 have K18c := Lib.hid (And.intro (K18b.out.1.keep hb) (K18b.out.2.keep hb))
 clear hb H12 K14b K16b K18b
 have a0 := H13.out.b7.c 0 _ rfl
 have a1 := H13.out.b7.c 1 _ rfl
 have a2 := H13.out.b7.c 2 _ rfl
 have a3 := H13.out.b7.c 3 _ rfl
 have a4 := H13.out.b7.c 4 _ rfl
 have a5 := H13.out.b7.c 5 _ rfl
 have a6 := H13.out.b7.c 6 _ rfl
 have la := H13.out.b7.lt
 have b0 := K18c.out.1.c 0 _ rfl
 have b1 := K18c.out.1.c 1 _ rfl
 have b2 := K18c.out.1.c 2 _ rfl
 have b3 := K18c.out.1.c 3 _ rfl
 have b4 := K18c.out.1.c 4 _ rfl
 have b5 := K18c.out.1.c 5 _ rfl
 have b6 := K18c.out.1.c 6 _ rfl
 have lb := K18c.out.1.lt
 have HC := Lib.hid (sameTraj33 _ _ _ _ H13.out.x K18c.out.2 (small_of_docT (by have := docTr_le (mkT_small HMX.out) (mkT_in HMX.out); omega)))
 go_wp2_with fail
 refine HC.out.mono ?_
 clear HC a0 a1 a2 a3 a4 a5 a6 la b0 b1 b2 b3 b4 b5 b6 lb
 rintro e W14 ⟨rfl, hb⟩
 have H14 := Lib.hid (H13.out.keep hb)
 have K14d := Lib.hid (And.intro (K14c.out.1.keep hb) (K14c.out.2.keep hb))
 have K16d := Lib.hid (And.intro (K16c.out.1.keep hb) (K16c.out.2.keep hb))
 have K18d := Lib.hid (And.intro (K18c.out.1.keep hb) (K18c.out.2.keep hb))
 clear hb H13 K14c K16c K18c
 go_wp2
 go_ret
 exact boolP_mk rfl H14.out.bel
end Go.Proofs.Ng
end

section
/-
  What the readings of the arguments say of memory.
-/
namespace Go.Proofs.Ng
open Go.RowKit
theorem list_of {A : Type} (P : Nat → A → Prop) : ∀ n : Nat, (∀ i, i < n → ∃ r, P i r) → ∃ rs : List A, rs.length = n ∧ ∀ (i : Nat) (r : A), rs[i]? = some r → P i r
  | 0, _ => ⟨[], rfl, fun i r h => by simp at h⟩
  | n + 1, h => by
    obtain ⟨rs, hl, hr⟩ := list_of P n fun i hi => h i (by omega)
    obtain ⟨r, hp⟩ := h n (by omega)
    refine ⟨rs ++ [r], by simp [hl], fun i r' hi => ?_⟩
    rcases Nat.lt_or_ge i rs.length with hlt | hge
    · rw [List.getElem?_append_left hlt] at hi
      exact hr i r' hi
    · rw [List.getElem?_append_right hge] at hi
      have : i = n := by
        rcases Nat.eq_or_lt_of_le hge with h | h
        · omega
        · rw [List.getElem?_eq_none (by simp; omega)] at hi; cases hi
      subst this
      have e : i - rs.length = 0 := by omega
      rw [e] at hi
      simp at hi
      subst hi
      exact hp

/-- A slice that is read lies in memory, row for row. -/
theorem open_rows {H : Type} {enc : TypeId × Value → H} {P : Program} {w : World} {base : Nat} {spare : Nat → Bool} {held : Bool} {A : Type} (f : A → List Value) {t e : TypeId} {n fuel : Nat} {v : Value} {x : DataW H × List MemPlace} (ht : P.underlying t = some (.slice e)) (hc : P.cellsOf e = n) (hn : 0 < n)
    (hrow : ∀ (m : Nat) (cs : List Value) (y : DataW H × List MemPlace), cs.length = n → DataW.trod enc P w base spare held m e cs = some y → ∃ r : A, cs = f r)
    (h : DataW.trod enc P w base spare held fuel t [v] = some x) : ∃ (oa : Option Addr) (cap : Nat) (rs : List A), v = .slice oa rs.length cap ∧ rs.length ≤ 9223372036854775807 ∧ Sl w oa n (rs.map f) ∧ (oa = none → rs = [] ∧ cap = 0) ∧ (x.1 = .nil ∧ rs = [] ∨ ∃ elems spare, x.1 = .slice elems spare ∧ elems.length = rs.length) := by
  rcases Go.Deep.open_slice ht h with ⟨h0, hx0⟩ | ⟨a, len, cap, m, k, D, Pl, h1, hb, hl, hm, hmm, hx0, hx⟩
  · injection h0 with h0 _
    subst h0
    exact ⟨none, 0, [], rfl, by simp, fun h => absurd rfl h, fun _ => ⟨rfl, rfl⟩, .inl ⟨by rw [hx0], rfl⟩⟩
  · injection h1 with h1 _
    subst h1
    have hlm : len ≤ m := by rw [hmm]; split <;> omega
    obtain ⟨rs, hrl, hr⟩ := list_of (fun i r => w.cells? base (a.add (i * n)) n = some (f r)) len (fun i hi => by
      obtain ⟨cs, c1, c2⟩ := hx i (by omega)
      rw [hc] at c1
      obtain ⟨r, rfl⟩ := hrow _ _ _ (World.cells?_some c1).2.1 c2
      exact ⟨r, c1⟩)
    subst hrl
    refine ⟨some a, cap, rs, rfl, by unfold maxLen at hm; omega, fun hne => ?_, fun h => by (cases h), .inr ⟨_, _, by rw [hx0], by simp⟩⟩
    have hne' : rs ≠ [] := fun h => hne (by simp [h])
    have cell : ∀ (i : Nat) (r : A), rs[i]? = some r → ∀ q u, (f r)[q]? = some u → w.cell? ((a.add (i * n)).add q) = some u := by
      intro i r hi q u hq
      obtain ⟨_, c2, c3⟩ := World.cells?_some (hr i r hi)
      have hqn : q < n := by
        rcases Nat.lt_or_ge q (f r).length with h' | h'
        · omega
        · rw [List.getElem?_eq_none h'] at hq; cases hq
      rw [c3 q hqn, hq]
    -- the slice's address has no spot
    have sp : a.spot = none := by
      cases rs with
      | nil => exact absurd rfl hne'
      | cons r0 rt =>
        obtain ⟨_, c2, c3⟩ := World.cells?_some (hr 0 r0 rfl)
        have c4 := c3 0 hn
        have : (f r0)[0]? = some ((f r0)[0]'(by omega)) := List.getElem?_eq_getElem _
        rw [this] at c4
        cases hs : a.spot with
        | none => rfl
        | some s =>
          exfalso
          have e0 : ((a.add (0 * n)).add 0) = a := by simp [Addr.add]
          rw [e0] at c4
          unfold World.cell? at c4
          rw [hs] at c4
          revert c4
          cases w.heap[a.block]? with
          | none => simp
          | some o => cases o <;> simp
    obtain ⟨b, off, sp'⟩ := a
    simp at sp
    subst sp
    refine ⟨b, off, rfl, ?_, fun i r hi q u hq => ?_⟩
    · cases rs with
      | nil => exact absurd rfl hne'
      | cons r0 rt =>
        obtain ⟨_, c2, c3⟩ := World.cells?_some (hr 0 r0 rfl)
        have c4 := c3 0 hn
        have : (f r0)[0]? = some ((f r0)[0]'(by omega)) := List.getElem?_eq_getElem _
        rw [this] at c4
        rcases Nat.lt_or_ge b w.heap.size with h' | h'
        · exact h'
        · exfalso
          have e0 : (((⟨b, off, none⟩ : Addr).add (0 * n)).add 0) = ⟨b, off, none⟩ := by simp [Addr.add]
          rw [e0] at c4
          simp [World.cell?, Array.getElem?_eq_none h'] at c4
    · rw [List.getElem?_map] at hi
      cases hri : rs[i]? with
      | none => rw [hri] at hi; cases hi
      | some r' =>
        rw [hri] at hi
        simp at hi
        subst hi
        rw [← cell i r' hri q u hq]
        congr 1
        simp only [Addr.add]
        split <;> split <;> simp_all <;> omega

theorem row_int {H : Type} {enc : TypeId × Value → H} {w : World} {base : Nat} {spare : Nat → Bool} {held : Bool} (e : TypeId) (hu : Tryz.prog.underlying e = some (.int .i64)) (m : Nat) (cs : List Value) (y : DataW H × List MemPlace) (_ : cs.length = 1) (h : DataW.trod enc Tryz.prog w base spare held m e cs = some y) : ∃ r : Int, cs = [.int .i64 r] := by
  obtain ⟨n, rfl, _⟩ := DataW.trod_int hu h
  exact ⟨n, rfl⟩
theorem clo3 : Tryz.prog.cellsOf 3 = 1 := by kernel_rfl
theorem open_nums {H : Type} {enc : TypeId × Value → H} {w : World} {base : Nat} {spare : Nat → Bool} {held : Bool} {t e : TypeId} {fuel : Nat} {v : Value} {x : DataW H × List MemPlace} (ht : Tryz.prog.underlying t = some (.slice e)) (hu : Tryz.prog.underlying e = some (.int .i64)) (hc : Tryz.prog.cellsOf e = 1)
    (h : DataW.trod enc Tryz.prog w base spare held fuel t [v] = some x) : ∃ (oa : Option Addr) (cap : Nat) (rs : List Int), v = .slice oa rs.length cap ∧ rs.length ≤ 9223372036854775807 ∧ Sl w oa 1 (pvals rs) ∧ (oa = none → rs = [] ∧ cap = 0) ∧ (x.1 = .nil ∧ rs = [] ∨ ∃ elems spare, x.1 = .slice elems spare ∧ elems.length = rs.length) :=
  open_rows (fun p : Int => [.int .i64 p]) ht hc (by omega) (row_int e hu) h
theorem laidOut : laidOutB Tryz.prog = true := by kernel_rfl
open Go.ChangeShapes Go.WideShapes Go.ChangeAt
set_option linter.unusedVariables false
/-- The post, of a world of which it is known that nothing that stood before has changed. -/
theorem post_below {H : Type} {enc : TypeId × Value → H} {P : Program} {f : Func} {s : ChangeSpec} {apart fresh handsOn again : Bool} {W W' : World} {args : Array Value} {v : Value} {ds gs : List (DataW H)} {before pa pv : List MemPlace}
    (hW : DataW.Whole enc P f.params.toList s.vars apart W args.toList ds gs before)
    (hres : ∀ (b : Nat) (sp : Nat → Bool) (hd : Bool), DataW.TrodAll enc P W' b sp hd f.resultTypes.toList (v.resultList f.resultTypes.size) (s.fn H (ds ++ gs)).results [])
    (hargs : ∀ sp : Nat → Bool, (∀ p ∈ before, sp p.block = true) → DataW.TrodAll enc P W' 0 sp true f.params.toList args.toList (s.fn H (ds ++ gs)).args pa)
    (hvars : ∀ sp : Nat → Bool, (∀ p ∈ before, sp p.block = true) → DataW.TrodVars enc P W' sp s.vars (s.fn H (ds ++ gs)).vars pv)
    (hps : before = pa ++ pv) (hb : Below W.heap.size W W')
    (hok : ∀ (j : Nat) (t : TypeId) (r : Value), f.resultTypes[j]? = some t → (v.resultList f.resultTypes.size)[j]? = some r → Value.okWide P W' .any 0 t r) :
    s.post enc P f apart fresh handsOn again W args v W' := by
  have hlt : ∀ p ∈ before, p.block < W.heap.size := fun p hp => hW.lt p hp
  have hold : ∀ p ∈ before, (fun b => decide (b < W.heap.size)) p.block = true := fun p hp => by simpa using hlt p hp
  refine ⟨ds, gs, before, [], pa, pv, hW, hres _ _ _, hargs _ hold, hvars _ hold, World.keptBut_mono (fun p hp => ⟨hp, ?_⟩) (hb.frame (· ∈ before)), fun _ => ?_⟩
  · rw [hps, List.mem_append] at hp
    exact Or.inr hp
  · obtain ⟨_, _, _, _, _, hz, hn⟩ := hW
    refine ⟨hok, _, _, ([] ++ pa) ++ pv, ⟨[] ++ pa, pv, trodAll_append (hargs _ (fun _ _ => rfl)) (hres _ _ _), hvars _ (fun _ _ => rfl), rfl, ?_, ?_⟩, ?_⟩
    · intro b off hp
      have hin : MemPlace.cell b off ∈ before := by rw [hps]; simpa using hp
      rw [hb.frozen (hlt _ hin)]
      exact hz b off hin
    · intro ha
      have := hn ha
      rw [hps] at this
      simpa using this
    · intro p hp _
      rw [hps]
      simpa using hp


/-- What was read reads as it did. -/
theorem stays {H : Type} {enc : TypeId × Value → H} {P : Program} (hl : laidOutB P = true) {W W' : World} {sp' : Nat → Bool} : ∀ (ts : List TypeId) (vs : List Value) (ds : List (DataW H)) (ps : List MemPlace), (∀ t ∈ ts, P.readableRec t = true ∧ t < P.types.size) →
    DataW.TrodAll enc P W 0 (fun _ => true) true ts vs ds ps → (∀ p ∈ ps, W.sameAt W' p) → (∀ p ∈ ps, sp' p.block = true) → DataW.TrodAll enc P W' 0 sp' true ts vs ds ps
  | [], [], [], ps, _, h, _, _ => h
  | t :: ts, v :: vs, d :: ds, ps, ht, h, h1, h2 => by
    obtain ⟨p, q, a, b, rfl⟩ := h
    exact ⟨p, q, WideElems.Trod_stays hl (ht t (by simp)).1 (ht t (by simp)).2 a (fun x hx => h1 x (by simp [hx])) (fun x hx => h2 x (by simp [hx])), stays hl ts vs ds q (fun t h => ht t (by simp [h])) b (fun x hx => h1 x (by simp [hx])) (fun x hx => h2 x (by simp [hx])), rfl⟩
  | [], _ :: _, _, _, _, h, _, _ => by simp [DataW.TrodAll] at h
  | [], [], _ :: _, _, _, h, _, _ => by simp [DataW.TrodAll] at h
  | _ :: _, [], _, _, _, h, _, _ => by simp [DataW.TrodAll] at h
  | _ :: _, _ :: _, [], _, _, h, _, _ => by simp [DataW.TrodAll] at h

theorem own24 : ownKnob Tryz.prog.godebug = none := by kernel_rfl
theorem read24 : Tryz.prog.readableRec 22 = true ∧ 22 < Tryz.prog.types.size := ⟨by kernel_rfl, of_decide_eq_true (by kernel_rfl)⟩
end Go.Proofs.Ng
end

section
/-
  FormatReturns: for all lists of numbers, the law returns true: what is written is read back as the value it was, for paths, trees and trajectories.
  No condition; the listed variables hold what the program's text lays.
  The row's frame follows the kit's worked examples; the walk and all beneath it are this claim's own.
-/
set_option linter.unusedVariables false
namespace Go.Proofs.YthcmkpcefiiiaaaGreatDoor.formatReturns
open Go.ChangeShapes Go.WideShapes Go.ChangeAt Go.RowKit

abbrev spec : OpenSpec := OpenSpec.ofChange Rows.formatReturnsSpec
abbrev args0 : Array Value := #[.slice none 0 0, .slice none 0 0]
def c1 : DataW Unit → List Value
  | .lit (.int k n) => [.int k n]
  | _ => []
def c2 : DataW Unit → List Value
  | .agg l => l.flatMap c1
  | d => c1 d
def c3 : DataW Unit → List Value
  | .agg l => l.flatMap c2
  | d => c2 d
/-- A world in which the listed variables hold their data. -/
noncomputable def laidWorld (os : Os) : World :=
  let N := (World.settled Tryz.prog os).heap.size
  let w0 := World.holding Tryz.prog os ⟨#[.cells #[.string ⟨#[118, 97, 108, 117, 101, 32, 111, 117, 116, 32, 111, 102, 32, 114, 97, 110, 103, 101]⟩] 213, .cells #[.string ⟨#[105, 110, 118, 97, 108, 105, 100, 32, 115, 121, 110, 116, 97, 120]⟩] 213], #[], []⟩
  let put (h : Array Obj) (g : Nat) (cs : Array Value) : Array Obj := h.modify g fun
    | .cells _ t frozen => .cells cs t frozen
    | o => o
  let h1 := put w0.heap 0 (c3 Rows.laid_internal_strconv_uint64pow10).toArray
  let h2 := put h1 2 (c3 Rows.laid_math_bits_deBruijn32tab).toArray
  let h3 := put h2 3 (c3 Rows.laid_math_bits_deBruijn64tab).toArray
  let h4 := put h3 4 #[.iface 211 (.pointer (some ⟨N + 1, 0, none⟩))]
  let h5 := put h4 5 #[.iface 211 (.pointer (some ⟨N, 0, none⟩))]
  let h6 := put h5 6 (c3 Rows.laid_unicode_utf8_first).toArray
  let h7 := put h6 7 (c3 Rows.laid_unicode_utf8_acceptRanges).toArray
  { w0 with heap := h7 }
theorem laid_met (os : Os) (args : Array Value) : laidMetH Tryz.prog Ng.laid43 ((laidWorld os).forCall (fun _ _ => 0) ⟨#[], args, []⟩).memory :=
  laidMetH_of_parts3 (fuel := 8) (laidMet_of_run' 8 (by kernel_rfl) (by kernel_rfl)) (by kernel_rfl) (by kernel_rfl)
set_option maxRecDepth 100000 in
theorem witness_row (os : Os) {H : Type} (enc : TypeId × Value → H) :
    spec.preRow enc Tryz.prog Tryz.f4 Rows.formatReturnsRow.domain false Ng.laid43 ((laidWorld os).forCall (fun _ _ => 0) ⟨#[], args0, []⟩).memory args0 := by
  have hw : (DataW.whole enc Tryz.prog ((laidWorld os).forCall (fun _ _ => 0) ⟨#[], args0, []⟩).memory Tryz.f4.params.toList spec.vars false args0.toList 8).map (fun x => (x.1, x.2.1)) =
      some ([.nil, .nil], []) := by kernel_rfl
  obtain ⟨⟨x1, x2, x3⟩, hx, hx1⟩ := Option.map_eq_some_iff.1 hw
  simp only [Prod.mk.injEq] at hx1
  obtain ⟨rfl, rfl⟩ := hx1
  exact OpenSpec.preRow_of_cond 8 hx (by kernel_rfl) (fun k hk => by cases hk) (by kernel_rfl) (laid_met os _)

theorem readables : ∀ t ∈ (#[22, 22] : Array TypeId).toList, Tryz.prog.readableRec t = true ∧ t < Tryz.prog.types.size := by
  intro t ht
  obtain rfl : t = 22 := by simp at ht; exact ht
  exact Ng.read24
set_option maxRecDepth 100000 in
theorem lifted (os : Os) (started : os.Started) (H : Type) (enc : TypeId × Value → H) (F : Stop.Interp) :
    ReturnsInHanded {} Tryz.checked os 4 .any (spec.preRow enc Tryz.prog Tryz.f4 Rows.formatReturnsRow.domain false Rows.formatReturnsRow.laid) ((spec.at F).post enc Tryz.prog Tryz.f4 false true false false) := by
  refine returnsInHanded_of_row (C := Tryz.checked) (s := spec) Ng.own24 started (by kernel_rfl) Tryz.func4
    (witness_row_atRef (enc := enc) (C := Tryz.checked) false (laidWorld os) args0 rfl (by kernel_rfl) (by kernel_rfl) (by kernel_rfl) (witness_row os enc)) ?_
  intro W base args ds gs before hval0 hW _ hcond0 _ hL hsh _
  have hlib := Ng.lib_of hL hsh
  have hval : ∀ (j : Nat) t v, Tryz.f4.params[j]? = some t → args[j]? = some v → Value.okWide Tryz.prog W .any base t v := hval0
  have hW' := hW
  obtain ⟨p, q, hA0, hV, rfl, hfz, hnd⟩ := hW
  have hA : DataW.TrodAll enc Tryz.prog W 0 (fun _ => true) true Tryz.f4.params.toList args.toList ds p := hA0
  have hAk := hA
  rw [Tryz.params4] at hA hval
  obtain ⟨v0, vs0, d0, ds0, p0, q0, hargs, rfl, rfl, h0, r0⟩ := trodAll_cons hA
  obtain ⟨v1, vs1, d1, ds1, p1, q1, rfl, rfl, rfl, h1, r1⟩ := trodAll_cons r0
  obtain ⟨rfl, rfl, rfl⟩ := trodAll_nil r1
  obtain rfl : args = #[v0, v1] := by cases args; simp_all
  obtain ⟨rfl, rfl⟩ := trodVars_none hV
  obtain ⟨a0, n0, c0, rfl⟩ := okWide_slice Tryz.underlying22 (hval 0 22 v0 rfl rfl)
  obtain ⟨a1, n1, c1, rfl⟩ := okWide_slice Tryz.underlying22 (hval 1 22 v1 rfl rfl)
  obtain ⟨f0, h0⟩ := h0
  obtain ⟨f1, h1⟩ := h1
  obtain ⟨ol, cl, ls, i0, hl, hI, -, -⟩ := Ng.open_nums Tryz.underlying22 Tryz.underlying3 Ng.clo3 (v := .slice a0 n0 c0) h0
  obtain ⟨om, cm, ms, i1, hlm, hIm, -, -⟩ := Ng.open_nums Tryz.underlying22 Tryz.underlying3 Ng.clo3 (v := .slice a1 n1 c1) h1
  rw [i0, i1] at hAk hW' ⊢
  clear hA0 hval0
  simp only [List.append_nil] at hW' hAk
  refine (Ng.formatReturns4 W ol cl ls om cm ms hI hl hIm hlm hlib).mono fun e W' ⟨he, hg⟩ => ?_
  subst he
  have hlt := fun p hp => hW'.lt p hp
  exact ⟨_, rfl, Ng.post_below (pv := []) hW' (fun _ _ _ => (trodAll_cons_mk (shut_bool Tryz.underlying4 _) trodAll_mk0)) (fun sp hsp => Ng.stays Ng.laidOut _ _ _ _ (by rw [Tryz.params4]; exact readables) hAk (fun x hx => hg.same (hlt x hx)) hsp) (fun _ _ => rfl) (by simp)
    hg (ok_one (by kernel_rfl) rfl (okWide_bool_mk Tryz.underlying4 _))⟩

/-- THE STATEMENT -/
theorem proved : Rows.FormatReturnsSaid :=
  OpenClaim.holds_of_cond 4 Tryz.f4 rfl rfl rfl rfl rfl rfl rfl ⟨rfl, rfl, rfl, rfl, rfl⟩ rfl rfl rfl rfl rfl (by kernel_rfl) Tryz.func4 (by kernel_rfl)
    (of_decide_eq_true (by kernel_rfl)) (by unfold Func.isWrapper; first | (rw [if_pos (by decide +kernel)]; kernel_rfl) | (rw [if_neg (by decide +kernel)]; exact ⟨rfl, rfl⟩))
    (fun os started H enc _ F0 => by rw [OpenClaim.pre_eq_preRow]; exact lifted os started H enc F0)
#print axioms proved
end Go.Proofs.YthcmkpcefiiiaaaGreatDoor.formatReturns
end

