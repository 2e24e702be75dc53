/-
  Texts put together: Tq Ct.
-/
import Derived.Test.YthcmkpcefiiiaaaGreatDoorZFormatCanonicalCard22
import Derived.Test.YthcmkpcefiiiaaaGreatDoorZFormatCanonicalCard19
import Derived.Test.YthcmkpcefiiiaaaGreatDoorZFormatCanonicalCard12
import Derived.Test.YthcmkpcefiiiaaaGreatDoorZFormatCanonicalCard9
import Derived.Deep.CutRange
set_option linter.unusedVariables false
section
/-
 Walks: a tree is made. Printed by gen_tq.py.
-/
namespace Go.Proofs.Ng
open Go.RowKit
structure Tr3K (nR nS n4 cap cr cc : Nat) (os or oc : Option Addr) (xs : List Int) (b : Fm.BoxD) (t : Fm.TreeD) (rows : List (List Value)) (w0 : World) (L : Nat → Bool) (v14 v15 v16 v17 v18 : Value) (w : World) : Prop where
 wf : SrS w0.heap.size nS os cap xs w ∧ Bx w n4 [.slice or b.length cr, .slice oc 1 cc] 36 ∧ (∃ z1 z2 : Value, Bx w nR [z1, z2] 36) ∧ (L 4 = false → FT [nS, nR] w (.agg #[.slice or b.length cr, .slice oc 1 cc]) t rows) ∧ Below w0.heap.size w0 w ∧ nS < w.heap.size
 f0 : L 0 = true → v14 = .agg #[.slice or b.length cr, .slice oc 1 cc]
 f1 : L 1 = true → v15 = .slice os xs.length cap
 f2 : L 2 = true → v16 = .pointer (some ⟨nS, 0, none⟩)
 f3 : L 3 = true → ∃ q : Nat, q < 14 ∧ v17 = .int .i64 ((q : Nat) : Int)
 f4 : L 4 = true → L 3 = true ∧ ∃ t' rows', FT [nS, nR] w v18 t' rows' ∧ MkT t' ∧ t'.cells.length ≤ 27
 f5 : L 5 = true → L 4 = true ∧ ∃ (q1 q2 : Option Addr) (d1 d2 : Nat) (t' : Fm.TreeD) (rows' : List (List Value)), v18 = .agg #[.slice q1 t'.root.length d1, .slice q2 t'.cells.length d2] ∧ FT [nS, nR] w v18 t' rows' ∧ MkT t' ∧ t'.cells.length ≤ 27 ∧ Bx w nR [.slice q1 t'.root.length d1, .slice q2 t'.cells.length d2] 36
theorem mkT_new {b : Fm.BoxD} (h : MkBox b) (h1 : 1 ≤ b.length) (h2 : b.length ≤ 3) : MkT ⟨b, [⟨-1, -1, -1, Fm.zeroV⟩]⟩ :=
 ⟨Fm.new_valid h1 (by omega) (mkBox_valid h), h2, h, fun c hc => by
  rw [List.mem_singleton] at hc
  subst hc
  exact ⟨by decide, by decide, by decide, mkVd_zero, by decide⟩⟩
set_option maxRecDepth 100000 in
set_option maxHeartbeats 16000000 in
theorem tree10 (w0 : World) (os : Option Addr) (cap : Nat) (xs : List Int) (hI : Sl w0 os 1 (pvals xs)) (hl : xs.length ≤ 9223372036854775807) :
  Calls Tryz.prog 10 #[.slice os xs.length cap] w0 (fun e W => ∃ v t rows, e = .returned v ∧ FT [] W v t rows ∧ MkT t ∧ t.cells.length ≤ 27 ∧ Below w0.heap.size w0 W) := by
 have HSR := Lib.hid (fun W1 hb => srs_new (w0 := w0) (w := W1) (cap := cap) hb hI hl)
 have HF := Lib.hid (fun V => from_any os cap xs.length V)
 have HII := Lib.hid (fun X (hX : Below w0.heap.size w0 X) => hI.keep hX)
 have HLL := Lib.hid hl
 clear hI hl
 go_enter Tryz.func10, Tryz.ntmps10
 go_wp2_with fail
 obtain ⟨nR, eR, hxR, hb1⟩ := news1 w0 [.slice none 0 0, .slice none 0 0] 36
 rw [← eR]
 generalize w0.alloc (.cells [.slice none 0 0, .slice none 0 0].toArray 36) = W1 at hxR hb1 ⊢
 refine (HF.out W1).mono ?_
 rintro e W2 ⟨rfl, rfl⟩
 have hS := HSR.out W1 hb1
 have hb2 : Below W1.heap.size W1 (W1.alloc (.cells #[.slice os xs.length cap, .int .i64 0] 115)) := (Below.refl _ _).alloc (Nat.le_refl _) _
 have HXR := Lib.hid (hxR.keep hb2)
 have HB := Lib.hid (below_call hb1 hb2)
 have lR := hxR.lt
 have hs1 := hb1.size
 obtain ⟨nS, hnS⟩ : ∃ n, n = W1.heap.size := ⟨_, rfl⟩
 have HS := Lib.hid hS
 have HZ : Hid (nS < (W1.alloc (.cells #[.slice os xs.length cap, .int .i64 0] 115)).heap.size) := Lib.hid (by rw [hnS]; simp)
 rw [← hnS] at HS ⊢
 generalize W1.alloc (.cells #[.slice os xs.length cap, .int .i64 0] 115) = W2 at HXR HB HS HZ ⊢
 have HN : Hid (w0.heap.size ≤ nR ∧ w0.heap.size ≤ nS ∧ nR < nS) := Lib.hid (by omega)
 clear hS hb1 hb2 hxR eR lR hs1 hnS HSR HF
 have HC := Lib.hid (root36 HS.out HB.out.size)
 go_wp2_with fail
 refine HC.out.mono ?_
 rintro e W3 ⟨oa, cp, b, rfl, hb1, hb2, hmb, hNw, hg, hs⟩
 have hsz := hg.size
 have hzz := HZ.out
 have hnn := HN.out
 have HXR3 := Lib.hid (HXR.out.grown hg (by omega))
 have HB3 := Lib.hid (grown_bel HB.out hg hnn.2.1 HB.out.size)
 have HS3 := Lib.hid hs
 have HZ3 : Hid (nS < W3.heap.size) := Lib.hid (by omega)
 have HNT := Lib.hid (newTree35 [nS, nR] W3 oa cp b (hNw.sx (fun k hk => by
  simp only [List.mem_cons, List.not_mem_nil, or_false] at hk
  rcases hk with rfl | rfl <;> omega)) (fun k hk => by
  simp only [List.mem_cons, List.not_mem_nil, or_false] at hk
  rcases hk with rfl | rfl <;> omega) hb1 (by omega) (mkBox_valid hmb))
 have HMT := Lib.hid (mkT_new hmb hb1 hb2)
 clear hsz hzz hnn HXR HB HS HZ hg hs hNw HC
 go_wp2_with fail
 refine HNT.out.mono ?_
 rintro e W4 ⟨v, rows, rfl, hF, hb⟩
 obtain ⟨or, cr, oc, cc, rfl, -, -⟩ := hF.form
 obtain ⟨t, ht⟩ : ∃ t : Fm.TreeD, t = ⟨b, [⟨-1, -1, -1, Fm.zeroV⟩]⟩ := ⟨_, rfl⟩
 have hN1 : t.cells.length = 1 := by rw [ht]; rfl
 have hJb : t.root.length = b.length := by rw [ht]
 rw [← ht] at HMT hF ⊢
 rw [hN1, hJb] at hF ⊢
 clear ht
 have HTL := Lib.hid hN1
 have HXR4 := Lib.hid (HXR3.out.keep hb)
 have HB4 := Lib.hid (HB3.out.trans (hb.mono HB3.out.size))
 have HS4 := Lib.hid (HS3.out.keep hb HB3.out.size)
 have HZ4 : Hid (nS < W4.heap.size) := Lib.hid (by have := HZ3.out; have := hb.size; omega)
 have HF4 := Lib.hid hF
 clear hF hb HXR3 HB3 HS3 HZ3 HNT hN1 hJb
 go_upto_region 3 with fail
 obtain ⟨n4, e4, hx4, hb4⟩ := news1 W4 [.slice or b.length cr, .slice oc 1 cc] 36
 rw [← e4]
 have hl4 : nS < n4 := by have := HZ4.out; omega
 generalize W4.alloc (.cells [.slice or b.length cr, .slice oc 1 cc].toArray 36) = W5 at hx4 hb4 ⊢
 have HX45 := Lib.hid hx4
 have HXR5 := Lib.hid (HXR4.out.keep hb4)
 have HB5 := Lib.hid (HB4.out.trans (hb4.mono HB4.out.size))
 have HS5 := Lib.hid (HS4.out.keep hb4 HB4.out.size)
 have HZ5 : Hid (nS < W5.heap.size) := Lib.hid (by have := HZ4.out; have := hb4.size; omega)
 have HF5 := Lib.hid (HF4.out.keep hb4)
 clear hx4 hb4 e4 HXR4 HB4 HS4 HZ4 HF4
 have hD : Below W5.heap.size W5 W5.drew := (Below.refl _ _).drew
 refine wp_region_inv2 (by kernel_rfl) (by kernel_rfl) (fun L a w => ∃ v14 v15 v16 v17 v18 : Value, a = { tmps := #[((Value.slice os xs.length cap)), undef, ((Value.pointer (some ⟨nR, 0, none⟩))), ((Value.pointer (some ⟨nS, 0, none⟩))), ((Value.pointer (some ⟨n4, 0, none⟩))), ((Value.bool true)), ((Value.slice os xs.length cap)), ((Value.pointer (some ⟨nS, 0, none⟩))), ((Value.tuple #[Value.agg #[Value.slice or (List.length b) cr, Value.slice oc 1 cc], Value.bool true])), ((Value.pointer (some ⟨nS, 0, none⟩))), ((Value.slice oa (List.length b) cp)), ((Value.tuple #[Value.agg #[Value.slice or (List.length b) cr, Value.slice oc 1 cc], Value.bool true])), ((Value.agg #[Value.slice or (List.length b) cr, Value.slice oc 1 cc])), ((Value.bool true)), v14, v15, v16, v17, v18], defers := [] } ∧ Tr3K nR nS n4 cap cr cc os or oc xs b t rows w0 L v14 v15 v16 v17 v18 w) ?_ ?_ ?_
 ·exact ⟨_, _, _, _, _, rfl, ⟨⟨HS5.out.keep hD HB5.out.size, HX45.out.keep hD, ⟨_, _, HXR5.out.keep hD⟩, fun _ => HF5.out.keep hD, HB5.out.trans (hD.mono HB5.out.size), Nat.lt_of_lt_of_le HZ5.out hD.size⟩, nofun, nofun, nofun, nofun, nofun, nofun⟩⟩
 ·intro iq oq ho L a w hL hd hJ
  obtain ⟨v14, v15, v16, v17, v18, rfl, k⟩ := hJ
  have hiq : iq < 6 := by have := (Array.getElem?_eq_some_iff.1 ho).1; simpa using this
  match iq, hiq, ho, hL with
  | 0, _, ho, hL =>
   have ho2 := ho
   simp only [qz1, qz2, qz3, qz4] at ho
   subst ho
   refine wpOp_step ho2 (fun K hK => ?_)
   have hx := k.wf.2.1
   have y0 := hx.c 0 _ rfl
   have y1 := hx.c 1 _ rfl
   have ly := hx.lt
   go_simp
   exact hK _ _ ⟨_, _, _, _, _, rfl, ⟨k.wf, fun _ => rfl, k.f1, k.f2, k.f3, k.f4, k.f5⟩⟩
  | 1, _, ho, hL =>
   have ho2 := ho
   simp only [qz1, qz2, qz3, qz4] at ho
   subst ho
   refine wpOp_step ho2 (fun K hK => ?_)
   go_simp
   exact hK _ _ ⟨_, _, _, _, _, rfl, ⟨k.wf, k.f0, fun _ => rfl, k.f2, k.f3, k.f4, k.f5⟩⟩
  | 2, _, ho, hL =>
   have ho2 := ho
   simp only [qz1, qz2, qz3, qz4] at ho
   subst ho
   refine wpOp_step ho2 (fun K hK => ?_)
   go_simp
   exact hK _ _ ⟨_, _, _, _, _, rfl, ⟨k.wf, k.f0, k.f1, fun _ => rfl, k.f3, k.f4, k.f5⟩⟩
  | 3, _, ho, hL =>
   have ho2 := ho
   simp only [qz1, qz2, qz3, qz4] at ho
   subst ho
   refine wpOp_step ho2 (fun K hK => ?_)
   obtain rfl := k.f2 (hd ⟨2, .data⟩ (by simp) rfl)
   have hcall := next20 14 k.wf.1 (by decide) (by decide)
   go_simp
   refine hcall.mono ?_
   rintro e X ⟨q, hq, rfl, hg, hs⟩
   have hz := k.wf.2.2.2.2.2
   have hz2 := hg.size
   have hn := HN.out
   exact hK _ _ ⟨_, _, _, _, _, rfl, ⟨⟨hs, k.wf.2.1.grown hg (by omega), k.wf.2.2.1.imp fun z h => h.imp fun z2 h => h.grown hg (by omega), fun h => (k.wf.2.2.2.1 h).next (by simp) hg, grown_bel k.wf.2.2.2.2.1 hg hn.2.1 k.wf.2.2.2.2.1.size, by omega⟩, k.f0, k.f1, k.f2, fun _ => ⟨q, by omega, rfl⟩, fun h => absurd (hL.symm.trans (k.f4 h).1) (by decide), fun h => absurd (hL.symm.trans (k.f4 (k.f5 h).1).1) (by decide)⟩⟩
  | 4, _, ho, hL =>
   have ho2 := ho
   simp only [qz1, qz2, qz3, qz4] at ho
   subst ho
   refine wpOp_step ho2 (fun K hK => ?_)
   obtain rfl := k.f0 (hd ⟨0, .data⟩ (by simp) rfl)
   obtain rfl := k.f1 (hd ⟨1, .data⟩ (by simp) rfl)
   obtain ⟨q, hq, rfl⟩ := k.f3 (hd ⟨3, .data⟩ (by simp) rfl)
   have h3 := hd ⟨3, .data⟩ (by simp) rfl
   have hz := k.wf.2.2.2.2.2
   have hn := HN.out
   have hzz := k.wf.2.2.2.2.1.size
   have hcall := divide37 [nS, nR] w _ t rows q os cap xs (k.wf.2.2.2.1 hL) (fun k' hk' => by
    simp only [List.mem_cons, List.not_mem_nil, or_false] at hk'
    rcases hk' with rfl | rfl <;> omega) HMT.out (by rw [HTL.out]; exact Nat.le_refl _) (by omega) (HII.out w k.wf.2.2.2.2.1) HLL.out
   go_simp
   refine hcall.mono ?_
   rintro e X ⟨v', t', rows', rfl, hF, hm, hc, hb⟩
   exact hK _ _ ⟨_, _, _, _, _, rfl, ⟨⟨k.wf.1.keep hb hzz, k.wf.2.1.keep hb, k.wf.2.2.1.imp fun z h => h.imp fun z2 h => h.keep hb, nofun, k.wf.2.2.2.2.1.trans (hb.mono hzz), Nat.lt_of_lt_of_le hz hb.size⟩, k.f0, k.f1, k.f2, k.f3, fun _ => ⟨h3, t', rows', hF, hm, hc⟩, fun h => absurd (hL.symm.trans (k.f5 h).1) (by decide)⟩⟩
  | 5, _, ho, hL =>
   have ho2 := ho
   simp only [qz1, qz2, qz3, qz4] at ho
   subst ho
   refine wpOp_step ho2 (fun K hK => ?_)
   obtain ⟨h3, t', rows', hF, hm, hc⟩ := k.f4 (hd ⟨4, .data⟩ (by simp) rfl)
   have h4 := hd ⟨4, .data⟩ (by simp) rfl
   have hn := HN.out
   have hz := k.wf.2.2.2.2.2
   obtain ⟨q1, d1, q2, d2, rfl, -, -⟩ := hF.form
   obtain ⟨z1, z2, hx⟩ := k.wf.2.2.1
   have c0 := hx.c 0 _ rfl
   have c1' := hx.c 1 _ rfl
   have f0 := hx.f 0
   have f1 := hx.f 1
   have ln := hx.lt
   have hA := hx.put1 (.slice q1 t'.root.length d1)
   have c1A := hA.c 1 _ rfl
   have f1A := hA.f 1
   have hp := put_two hx (.slice q1 t'.root.length d1) (.slice q2 t'.cells.length d2)
   have hF2 := (hF.put (n := nR) (i := 0) (u := .slice q1 t'.root.length d1) (by simp)).put (n := nR) (i := 1) (u := .slice q2 t'.cells.length d2) (by simp)
   have hS2 := (k.wf.1.put nR 0 (.slice q1 t'.root.length d1) hn.1 (by omega)).put nR 1 (.slice q2 t'.cells.length d2) hn.1 (by omega)
   have hX4 := (k.wf.2.1.other (b := nR) (by omega) 0 (.slice q1 t'.root.length d1)).other (b := nR) (by omega) 1 (.slice q2 t'.cells.length d2)
   have hB2 := bel_put (bel_put k.wf.2.2.2.2.1 (i := 0) (.slice q1 t'.root.length d1) hn.1) (i := 1) (.slice q2 t'.cells.length d2) hn.1
   have hz2 : nS < ((w.setCell ⟨nR, 0, none⟩ (.slice q1 t'.root.length d1)).setCell ⟨nR, 1, none⟩ (.slice q2 t'.cells.length d2)).heap.size := by simp [World.setCell]; exact hz
   clear hA
   go_simp
   exact hK _ _ ⟨_, _, _, _, _, rfl, ⟨⟨hS2, hX4, ⟨_, _, hp⟩, fun h => absurd (h4.symm.trans h) (by decide), hB2, hz2⟩, k.f0, k.f1, k.f2, k.f3, fun _ => ⟨h3, t', rows', hF2, hm, hc⟩, fun _ => ⟨h4, q1, q2, d1, d2, t', rows', rfl, hF2, hm, hc, hp⟩⟩⟩
  | n + 6, h, _, _ => omega
 ·intro L a w hL hJ
  obtain ⟨v14, v15, v16, v17, v18, rfl, k⟩ := hJ
  obtain rfl := k.f0 (hL 0 (by decide))
  obtain rfl := k.f1 (hL 1 (by decide))
  obtain rfl := k.f2 (hL 2 (by decide))
  obtain ⟨-, q1, q2, d1, d2, t', rows', rfl, hF, hm, hc, hx⟩ := k.f5 (hL 5 (by decide))
  have hwf := k.wf
  obtain ⟨q9, -, rfl⟩ := k.f3 (hL 3 (by decide))
  have HFF := Lib.hid hF
  have HBF := Lib.hid hwf.2.2.2.2.1
  have HMF := Lib.hid hm
  have c0F := hx.c 0 _ rfl
  have c1F := hx.c 1 _ rfl
  clear k hL hF hwf hm hx
  go_wp2_with fail
  refine bodyPost_ret (v := .agg #[.slice q1 t'.root.length d1, .slice q2 t'.cells.length d2]) (by simp [results, Tryz.results10, go_sem, c0F, c1F]) rfl ?_
  exact ⟨_, t', rows', rfl, HFF.out.less.less, HMF.out, hc, HBF.out⟩
end Go.Proofs.Ng
end

section
/-
 Walks: the reference's FormatPath; paths.
-/
namespace Go.Proofs.Ng
open Go.RowKit
set_option maxRecDepth 100000 in
set_option maxHeartbeats 4000000 in
theorem refFormatPath8 (w : World) (pv : Value) (p : Fm.PathD) (hP : PathAt w pv p) (hr : Fm.PathOk p) (hl : (Fm.docT p).length ≤ 1048576) (htab : TabW w.heap.size w) :
  Calls Tryz.prog 6 #[pv] w (fun e W' => e = .returned (fmtV (Fm.formatP p)) ∧ Below w.heap.size w W') := by
 have hlp : (Fm.pathT p).length ≤ 1048576 := by unfold Fm.docT at hl; rw [List.length_append] at hl; omega
 have hm1 : p.pts.length ≤ 1000000000 := by have := hr.np; omega
 have hm2 : p.edges.length ≤ 1000000000 := by
  have := flT_ge edgeT_pos p.edges
  rw [pathT_eq, List.length_append, List.length_append] at hlp
  omega
 have hP0 := hP
 obtain ⟨op, np, oe, ne, rfl, -, -⟩ := hP
 have hb1 : Below w.heap.size w (w.alloc (.cells #[.slice op p.pts.length np, .slice oe p.edges.length ne] 29)) := (Below.refl _ _).alloc (Nat.le_refl _) _
 have hbx := Bx.new w [.slice op p.pts.length np, .slice oe p.edges.length ne] 29
 have H22 := Lib.hid (right22 _ _ p (hP0.keep hb1) hm1 hm2)
 have HP := Lib.hid hP0
 have HX := Lib.hid hbx
 have HB := Lib.hid hb1
 have HT := Lib.hid htab
 have HR := Lib.hid hr
 clear hP0 hb1 hbx htab hr
 go_enter Tryz.func6, Tryz.ntmps6
 go_upto_region 1 with fail
 generalize w.alloc (.cells #[.slice op p.pts.length np, .slice oe p.edges.length ne] 29) = wx at HX HB H22 ⊢
 obtain ⟨n, hn⟩ : ∃ n, n = w.heap.size := ⟨_, rfl⟩
 have HN := Lib.hid hn
 rw [← hn] at HX ⊢
 clear hn
 have c0 := HX.out.c 0 _ rfl
 have c1 := HX.out.c 1 _ rfl
 have clt := HX.out.lt
 cases hf : Fm.rightP p with
 | false =>
  have hF := Lib.hid (formatP_no hf)
  rw [hf] at H22
  clear hf
  go_wp2_with fail
  refine H22.out.mono ?_
  rintro e W1 ⟨rfl, hb2⟩
  have HB2 := Lib.hid (below_call HB.out hb2)
  clear hb2 H22
  go_wp2
  go_ret2
  exact ⟨by rw [hF.out]; rfl, HB2.out⟩
 | true =>
  have hF := Lib.hid (formatP_yes hf hl)
  rw [hf] at H22
  clear hf
  go_wp2_with fail
  refine H22.out.mono ?_
  clear H22
  rintro e W1 ⟨rfl, hb2⟩
  have HX1 := Lib.hid (HX.out.keep hb2)
  have HB2 := Lib.hid (below_call HB.out hb2)
  clear hb2 HX HB c0 c1 clt
  have c0 := HX1.out.c 0 _ rfl
  have c1 := HX1.out.c 1 _ rfl
  have clt := HX1.out.lt
  have H24 := Lib.hid (pathLines24 W1 _ p (HP.out.keep HB2.out) HR.out hlp (tab_size HT.out HB2.out))
  go_wp2_with fail
  refine H24.out.mono ?_
  clear H24 c0 c1 clt HX1
  rintro e W2 ⟨rfl, hb3⟩
  have HB3 := Lib.hid (below_call HB2.out hb3)
  have H23 := Lib.hid (document23 W2 (Fm.pathT p) hl)
  clear hb3 HB2
  go_wp2_with fail
  refine H23.out.mono ?_
  clear H23
  rintro e W3 ⟨rfl, hw⟩
  subst hw
  unfold fmtV
  go_wp2
  go_ret2
  exact ⟨by rw [hF.out]; rfl, HB3.out⟩
end Go.Proofs.Ng
end

