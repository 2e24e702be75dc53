/-
  Texts put together: Tq Ct Tr Ef.
-/
import Derived.Test.YthcmkpcefiiiaaaGreatDoorZFormatReturnsCard23
import Derived.Test.YthcmkpcefiiiaaaGreatDoorZFormatReturnsCard19
import Derived.Test.YthcmkpcefiiiaaaGreatDoorZFormatReturnsCard12
import Derived.Test.YthcmkpcefiiiaaaGreatDoorZFormatReturnsCard9
import Derived.Deep.CutRange
import Derived.Test.YthcmkpcefiiiaaaGreatDoorZFormatReturnsCard18
set_option linter.unusedVariables false
section
/-
 Walks: a tree is made. Printed by gen_tq.py.
-/
namespace Go.Proofs.Ng
open Go.RowKit
structure Tr3K (nR nS n4 cap cr cc : Nat) (os or oc : Option Addr) (xs : List Int) (b : Fm.BoxD) (t : Fm.TreeD) (rows : List (List Value)) (w0 : World) (L : Nat → Bool) (v14 v15 v16 v17 v18 : Value) (w : World) : Prop where
 wf : SrS w0.heap.size nS os cap xs w ∧ Bx w n4 [.slice or b.length cr, .slice oc 1 cc] 36 ∧ (∃ z1 z2 : Value, Bx w nR [z1, z2] 36) ∧ (L 4 = false → FT [nS, nR] w (.agg #[.slice or b.length cr, .slice oc 1 cc]) t rows) ∧ Below w0.heap.size w0 w ∧ nS < w.heap.size
 f0 : L 0 = true → v14 = .agg #[.slice or b.length cr, .slice oc 1 cc]
 f1 : L 1 = true → v15 = .slice os xs.length cap
 f2 : L 2 = true → v16 = .pointer (some ⟨nS, 0, none⟩)
 f3 : L 3 = true → ∃ q : Nat, q < 14 ∧ v17 = .int .i64 ((q : Nat) : Int)
 f4 : L 4 = true → L 3 = true ∧ ∃ t' rows', FT [nS, nR] w v18 t' rows' ∧ MkT t' ∧ t'.cells.length ≤ 27
 f5 : L 5 = true → L 4 = true ∧ ∃ (q1 q2 : Option Addr) (d1 d2 : Nat) (t' : Fm.TreeD) (rows' : List (List Value)), v18 = .agg #[.slice q1 t'.root.length d1, .slice q2 t'.cells.length d2] ∧ FT [nS, nR] w v18 t' rows' ∧ MkT t' ∧ t'.cells.length ≤ 27 ∧ Bx w nR [.slice q1 t'.root.length d1, .slice q2 t'.cells.length d2] 36
theorem mkT_new {b : Fm.BoxD} (h : MkBox b) (h1 : 1 ≤ b.length) (h2 : b.length ≤ 3) : MkT ⟨b, [⟨-1, -1, -1, Fm.zeroV⟩]⟩ :=
 ⟨Fm.new_valid h1 (by omega) (mkBox_valid h), h2, h, fun c hc => by
  rw [List.mem_singleton] at hc
  subst hc
  exact ⟨by decide, by decide, by decide, mkVd_zero, by decide⟩⟩
set_option maxRecDepth 100000 in
set_option maxHeartbeats 16000000 in
theorem tree10 (w0 : World) (os : Option Addr) (cap : Nat) (xs : List Int) (hI : Sl w0 os 1 (pvals xs)) (hl : xs.length ≤ 9223372036854775807) :
  Calls Tryz.prog 10 #[.slice os xs.length cap] w0 (fun e W => ∃ v t rows, e = .returned v ∧ FT [] W v t rows ∧ MkT t ∧ t.cells.length ≤ 27 ∧ Below w0.heap.size w0 W) := by
 have HSR := Lib.hid (fun W1 hb => srs_new (w0 := w0) (w := W1) (cap := cap) hb hI hl)
 have HF := Lib.hid (fun V => from_any os cap xs.length V)
 have HII := Lib.hid (fun X (hX : Below w0.heap.size w0 X) => hI.keep hX)
 have HLL := Lib.hid hl
 clear hI hl
 go_enter Tryz.func10, Tryz.ntmps10
 go_wp2_with fail
 obtain ⟨nR, eR, hxR, hb1⟩ := news1 w0 [.slice none 0 0, .slice none 0 0] 36
 rw [← eR]
 generalize w0.alloc (.cells [.slice none 0 0, .slice none 0 0].toArray 36) = W1 at hxR hb1 ⊢
 refine (HF.out W1).mono ?_
 rintro e W2 ⟨rfl, rfl⟩
 have hS := HSR.out W1 hb1
 have hb2 : Below W1.heap.size W1 (W1.alloc (.cells #[.slice os xs.length cap, .int .i64 0] 115)) := (Below.refl _ _).alloc (Nat.le_refl _) _
 have HXR := Lib.hid (hxR.keep hb2)
 have HB := Lib.hid (below_call hb1 hb2)
 have lR := hxR.lt
 have hs1 := hb1.size
 obtain ⟨nS, hnS⟩ : ∃ n, n = W1.heap.size := ⟨_, rfl⟩
 have HS := Lib.hid hS
 have HZ : Hid (nS < (W1.alloc (.cells #[.slice os xs.length cap, .int .i64 0] 115)).heap.size) := Lib.hid (by rw [hnS]; simp)
 rw [← hnS] at HS ⊢
 generalize W1.alloc (.cells #[.slice os xs.length cap, .int .i64 0] 115) = W2 at HXR HB HS HZ ⊢
 have HN : Hid (w0.heap.size ≤ nR ∧ w0.heap.size ≤ nS ∧ nR < nS) := Lib.hid (by omega)
 clear hS hb1 hb2 hxR eR lR hs1 hnS HSR HF
 have HC := Lib.hid (root36 HS.out HB.out.size)
 go_wp2_with fail
 refine HC.out.mono ?_
 rintro e W3 ⟨oa, cp, b, rfl, hb1, hb2, hmb, hNw, hg, hs⟩
 have hsz := hg.size
 have hzz := HZ.out
 have hnn := HN.out
 have HXR3 := Lib.hid (HXR.out.grown hg (by omega))
 have HB3 := Lib.hid (grown_bel HB.out hg hnn.2.1 HB.out.size)
 have HS3 := Lib.hid hs
 have HZ3 : Hid (nS < W3.heap.size) := Lib.hid (by omega)
 have HNT := Lib.hid (newTree35 [nS, nR] W3 oa cp b (hNw.sx (fun k hk => by
  simp only [List.mem_cons, List.not_mem_nil, or_false] at hk
  rcases hk with rfl | rfl <;> omega)) (fun k hk => by
  simp only [List.mem_cons, List.not_mem_nil, or_false] at hk
  rcases hk with rfl | rfl <;> omega) hb1 (by omega) (mkBox_valid hmb))
 have HMT := Lib.hid (mkT_new hmb hb1 hb2)
 clear hsz hzz hnn HXR HB HS HZ hg hs hNw HC
 go_wp2_with fail
 refine HNT.out.mono ?_
 rintro e W4 ⟨v, rows, rfl, hF, hb⟩
 obtain ⟨or, cr, oc, cc, rfl, -, -⟩ := hF.form
 obtain ⟨t, ht⟩ : ∃ t : Fm.TreeD, t = ⟨b, [⟨-1, -1, -1, Fm.zeroV⟩]⟩ := ⟨_, rfl⟩
 have hN1 : t.cells.length = 1 := by rw [ht]; rfl
 have hJb : t.root.length = b.length := by rw [ht]
 rw [← ht] at HMT hF ⊢
 rw [hN1, hJb] at hF ⊢
 clear ht
 have HTL := Lib.hid hN1
 have HXR4 := Lib.hid (HXR3.out.keep hb)
 have HB4 := Lib.hid (HB3.out.trans (hb.mono HB3.out.size))
 have HS4 := Lib.hid (HS3.out.keep hb HB3.out.size)
 have HZ4 : Hid (nS < W4.heap.size) := Lib.hid (by have := HZ3.out; have := hb.size; omega)
 have HF4 := Lib.hid hF
 clear hF hb HXR3 HB3 HS3 HZ3 HNT hN1 hJb
 go_upto_region 3 with fail
 obtain ⟨n4, e4, hx4, hb4⟩ := news1 W4 [.slice or b.length cr, .slice oc 1 cc] 36
 rw [← e4]
 have hl4 : nS < n4 := by have := HZ4.out; omega
 generalize W4.alloc (.cells [.slice or b.length cr, .slice oc 1 cc].toArray 36) = W5 at hx4 hb4 ⊢
 have HX45 := Lib.hid hx4
 have HXR5 := Lib.hid (HXR4.out.keep hb4)
 have HB5 := Lib.hid (HB4.out.trans (hb4.mono HB4.out.size))
 have HS5 := Lib.hid (HS4.out.keep hb4 HB4.out.size)
 have HZ5 : Hid (nS < W5.heap.size) := Lib.hid (by have := HZ4.out; have := hb4.size; omega)
 have HF5 := Lib.hid (HF4.out.keep hb4)
 clear hx4 hb4 e4 HXR4 HB4 HS4 HZ4 HF4
 have hD : Below W5.heap.size W5 W5.drew := (Below.refl _ _).drew
 refine wp_region_inv2 (by kernel_rfl) (by kernel_rfl) (fun L a w => ∃ v14 v15 v16 v17 v18 : Value, a = { tmps := #[((Value.slice os xs.length cap)), undef, ((Value.pointer (some ⟨nR, 0, none⟩))), ((Value.pointer (some ⟨nS, 0, none⟩))), ((Value.pointer (some ⟨n4, 0, none⟩))), ((Value.bool true)), ((Value.slice os xs.length cap)), ((Value.pointer (some ⟨nS, 0, none⟩))), ((Value.tuple #[Value.agg #[Value.slice or (List.length b) cr, Value.slice oc 1 cc], Value.bool true])), ((Value.pointer (some ⟨nS, 0, none⟩))), ((Value.slice oa (List.length b) cp)), ((Value.tuple #[Value.agg #[Value.slice or (List.length b) cr, Value.slice oc 1 cc], Value.bool true])), ((Value.agg #[Value.slice or (List.length b) cr, Value.slice oc 1 cc])), ((Value.bool true)), v14, v15, v16, v17, v18], defers := [] } ∧ Tr3K nR nS n4 cap cr cc os or oc xs b t rows w0 L v14 v15 v16 v17 v18 w) ?_ ?_ ?_
 ·exact ⟨_, _, _, _, _, rfl, ⟨⟨HS5.out.keep hD HB5.out.size, HX45.out.keep hD, ⟨_, _, HXR5.out.keep hD⟩, fun _ => HF5.out.keep hD, HB5.out.trans (hD.mono HB5.out.size), Nat.lt_of_lt_of_le HZ5.out hD.size⟩, nofun, nofun, nofun, nofun, nofun, nofun⟩⟩
 ·intro iq oq ho L a w hL hd hJ
  obtain ⟨v14, v15, v16, v17, v18, rfl, k⟩ := hJ
  have hiq : iq < 6 := by have := (Array.getElem?_eq_some_iff.1 ho).1; simpa using this
  match iq, hiq, ho, hL with
  | 0, _, ho, hL =>
   have ho2 := ho
   simp only [List.getElem?_toArray, List.getElem?_cons_zero, List.getElem?_cons_succ, Option.some.injEq] at ho
   subst ho
   refine wpOp_step ho2 (fun K hK => ?_)
   have hx := k.wf.2.1
   have y0 := hx.c 0 _ rfl
   have y1 := hx.c 1 _ rfl
   have ly := hx.lt
   go_simp
   exact hK _ _ ⟨_, _, _, _, _, rfl, ⟨k.wf, fun _ => rfl, k.f1, k.f2, k.f3, k.f4, k.f5⟩⟩
  | 1, _, ho, hL =>
   have ho2 := ho
   simp only [List.getElem?_toArray, List.getElem?_cons_zero, List.getElem?_cons_succ, Option.some.injEq] at ho
   subst ho
   refine wpOp_step ho2 (fun K hK => ?_)
   go_simp
   exact hK _ _ ⟨_, _, _, _, _, rfl, ⟨k.wf, k.f0, fun _ => rfl, k.f2, k.f3, k.f4, k.f5⟩⟩
  | 2, _, ho, hL =>
   have ho2 := ho
   simp only [List.getElem?_toArray, List.getElem?_cons_zero, List.getElem?_cons_succ, Option.some.injEq] at ho
   subst ho
   refine wpOp_step ho2 (fun K hK => ?_)
   go_simp
   exact hK _ _ ⟨_, _, _, _, _, rfl, ⟨k.wf, k.f0, k.f1, fun _ => rfl, k.f3, k.f4, k.f5⟩⟩
  | 3, _, ho, hL =>
   have ho2 := ho
   simp only [List.getElem?_toArray, List.getElem?_cons_zero, List.getElem?_cons_succ, Option.some.injEq] at ho
   subst ho
   refine wpOp_step ho2 (fun K hK => ?_)
   obtain rfl := k.f2 (hd ⟨2, .data⟩ (by simp) rfl)
   have hcall := next20 14 k.wf.1 (by decide) (by decide)
   go_simp
   refine hcall.mono ?_
   rintro e X ⟨q, hq, rfl, hg, hs⟩
   have hz := k.wf.2.2.2.2.2
   have hz2 := hg.size
   have hn := HN.out
   exact hK _ _ ⟨_, _, _, _, _, rfl, ⟨⟨hs, k.wf.2.1.grown hg (by omega), k.wf.2.2.1.imp fun z h => h.imp fun z2 h => h.grown hg (by omega), fun h => (k.wf.2.2.2.1 h).next (by simp) hg, grown_bel k.wf.2.2.2.2.1 hg hn.2.1 k.wf.2.2.2.2.1.size, by omega⟩, k.f0, k.f1, k.f2, fun _ => ⟨q, by omega, rfl⟩, fun h => absurd (hL.symm.trans (k.f4 h).1) (by decide), fun h => absurd (hL.symm.trans (k.f4 (k.f5 h).1).1) (by decide)⟩⟩
  | 4, _, ho, hL =>
   have ho2 := ho
   simp only [List.getElem?_toArray, List.getElem?_cons_zero, List.getElem?_cons_succ, Option.some.injEq] at ho
   subst ho
   refine wpOp_step ho2 (fun K hK => ?_)
   obtain rfl := k.f0 (hd ⟨0, .data⟩ (by simp) rfl)
   obtain rfl := k.f1 (hd ⟨1, .data⟩ (by simp) rfl)
   obtain ⟨q, hq, rfl⟩ := k.f3 (hd ⟨3, .data⟩ (by simp) rfl)
   have h3 := hd ⟨3, .data⟩ (by simp) rfl
   have hz := k.wf.2.2.2.2.2
   have hn := HN.out
   have hzz := k.wf.2.2.2.2.1.size
   have hcall := divide37 [nS, nR] w _ t rows q os cap xs (k.wf.2.2.2.1 hL) (fun k' hk' => by
    simp only [List.mem_cons, List.not_mem_nil, or_false] at hk'
    rcases hk' with rfl | rfl <;> omega) HMT.out (by rw [HTL.out]; exact Nat.le_refl _) (by omega) (HII.out w k.wf.2.2.2.2.1) HLL.out
   go_simp
   refine hcall.mono ?_
   rintro e X ⟨v', t', rows', rfl, hF, hm, hc, hb⟩
   exact hK _ _ ⟨_, _, _, _, _, rfl, ⟨⟨k.wf.1.keep hb hzz, k.wf.2.1.keep hb, k.wf.2.2.1.imp fun z h => h.imp fun z2 h => h.keep hb, nofun, k.wf.2.2.2.2.1.trans (hb.mono hzz), Nat.lt_of_lt_of_le hz hb.size⟩, k.f0, k.f1, k.f2, k.f3, fun _ => ⟨h3, t', rows', hF, hm, hc⟩, fun h => absurd (hL.symm.trans (k.f5 h).1) (by decide)⟩⟩
  | 5, _, ho, hL =>
   have ho2 := ho
   simp only [List.getElem?_toArray, List.getElem?_cons_zero, List.getElem?_cons_succ, Option.some.injEq] at ho
   subst ho
   refine wpOp_step ho2 (fun K hK => ?_)
   obtain ⟨h3, t', rows', hF, hm, hc⟩ := k.f4 (hd ⟨4, .data⟩ (by simp) rfl)
   have h4 := hd ⟨4, .data⟩ (by simp) rfl
   have hn := HN.out
   have hz := k.wf.2.2.2.2.2
   obtain ⟨q1, d1, q2, d2, rfl, -, -⟩ := hF.form
   obtain ⟨z1, z2, hx⟩ := k.wf.2.2.1
   have c0 := hx.c 0 _ rfl
   have c1' := hx.c 1 _ rfl
   have f0 := hx.f 0
   have f1 := hx.f 1
   have ln := hx.lt
   have hA := hx.put1 (.slice q1 t'.root.length d1)
   have c1A := hA.c 1 _ rfl
   have f1A := hA.f 1
   have hp := put_two hx (.slice q1 t'.root.length d1) (.slice q2 t'.cells.length d2)
   have hF2 := (hF.put (n := nR) (i := 0) (u := .slice q1 t'.root.length d1) (by simp)).put (n := nR) (i := 1) (u := .slice q2 t'.cells.length d2) (by simp)
   have hS2 := (k.wf.1.put nR 0 (.slice q1 t'.root.length d1) hn.1 (by omega)).put nR 1 (.slice q2 t'.cells.length d2) hn.1 (by omega)
   have hX4 := (k.wf.2.1.other (b := nR) (by omega) 0 (.slice q1 t'.root.length d1)).other (b := nR) (by omega) 1 (.slice q2 t'.cells.length d2)
   have hB2 := bel_put (bel_put k.wf.2.2.2.2.1 (i := 0) (.slice q1 t'.root.length d1) hn.1) (i := 1) (.slice q2 t'.cells.length d2) hn.1
   have hz2 : nS < ((w.setCell ⟨nR, 0, none⟩ (.slice q1 t'.root.length d1)).setCell ⟨nR, 1, none⟩ (.slice q2 t'.cells.length d2)).heap.size := by simp [World.setCell]; exact hz
   clear hA
   go_simp
   exact hK _ _ ⟨_, _, _, _, _, rfl, ⟨⟨hS2, hX4, ⟨_, _, hp⟩, fun h => absurd (h4.symm.trans h) (by decide), hB2, hz2⟩, k.f0, k.f1, k.f2, k.f3, fun _ => ⟨h3, t', rows', hF2, hm, hc⟩, fun _ => ⟨h4, q1, q2, d1, d2, t', rows', rfl, hF2, hm, hc, hp⟩⟩⟩
  | n + 6, h, _, _ => omega
 ·intro L a w hL hJ
  obtain ⟨v14, v15, v16, v17, v18, rfl, k⟩ := hJ
  obtain rfl := k.f0 (hL 0 (by decide))
  obtain rfl := k.f1 (hL 1 (by decide))
  obtain rfl := k.f2 (hL 2 (by decide))
  obtain ⟨-, q1, q2, d1, d2, t', rows', rfl, hF, hm, hc, hx⟩ := k.f5 (hL 5 (by decide))
  have hwf := k.wf
  obtain ⟨q9, -, rfl⟩ := k.f3 (hL 3 (by decide))
  have HFF := Lib.hid hF
  have HBF := Lib.hid hwf.2.2.2.2.1
  have HMF := Lib.hid hm
  have c0F := hx.c 0 _ rfl
  have c1F := hx.c 1 _ rfl
  clear k hL hF hwf hm hx
  go_wp2_with fail
  refine bodyPost_ret (v := .agg #[.slice q1 t'.root.length d1, .slice q2 t'.cells.length d2]) (by simp [results, Tryz.results10, go_sem, c0F, c1F]) rfl ?_
  exact ⟨_, t', rows', rfl, HFF.out.less.less, HMF.out, hc, HBF.out⟩
end Go.Proofs.Ng
end

section
/-
  Walks: the reference's FormatPath; paths.
-/
namespace Go.Proofs.Ng
open Go.RowKit

end Go.Proofs.Ng
end

section
/-
 Walks: the reference's FormatCut on a tree that was made. Printed by gen_tr.py.
-/
namespace Go.Proofs.Ng
open Go.RowKit
theorem treeT_eq (t : Fm.TreeD) : Fm.treeT t = Fm.lineT Fm.kwCut [(t.root.length : Nat), (t.cells.length : Nat)] ++ Fm.lineT Fm.kwRoot (t.root.map Fm.pairL).flatten ++ flT Fm.cellT t.cells := rfl
theorem cellT_split {c : Fm.CellD} (h : Fm.leafB c = false) : Fm.cellT c = Fm.lineT Fm.kwSplit [c.joint, c.low, c.high] := by unfold Fm.cellT; rw [if_neg (by rw [h]; decide)]
theorem cellT_two {c : Fm.CellD} (h : Fm.leafB c = true) (hk : c.verd.kind = 2) : Fm.cellT c = Fm.lineT Fm.kwLeaf [c.verd.kind, (c.verd.normals.length : Nat)] ++ flT normT c.verd.normals ++ Fm.lineT Fm.kwWitness (Fm.witL c.verd) := by unfold Fm.cellT; rw [if_pos h, if_pos hk]; rfl
theorem cellT_one {c : Fm.CellD} (h : Fm.leafB c = true) (hk : c.verd.kind ≠ 2) : Fm.cellT c = Fm.lineT Fm.kwLeaf [c.verd.kind, (c.verd.normals.length : Nat)] ++ flT normT c.verd.normals := by unfold Fm.cellT; rw [if_pos h, if_neg hk, List.append_nil]; rfl
theorem flat_take {l : List (Int × Int)} {k : Nat} {a : Int × Int} (h : l[k]? = some a) : ((l.take (k + 1)).map Fm.pairL).flatten = ((l.take k).map Fm.pairL).flatten ++ Fm.pairL a := by
 rw [List.take_add_one, h]; simp
theorem mk_root64 {t : Fm.TreeD} (hm : MkT t) : ∀ n ∈ (t.root.map Fm.pairL).flatten, Fm.inR64 n := by
 intro n hn
 rw [List.mem_flatten] at hn
 obtain ⟨l, hl, hn⟩ := hn
 obtain ⟨a, ha, rfl⟩ := List.mem_map.1 hl
 have := hm.rb a ha
 unfold Fm.pairL at hn
 simp only [List.mem_cons, List.not_mem_nil, or_false] at hn
 unfold Fm.inR64
 rcases hn with rfl | rfl <;> omega
theorem mk_split64 {c : Fm.CellD} (h : MkCl c) : ∀ n ∈ [c.joint, c.low, c.high], Fm.inR64 n := by
 intro n hn
 have h1 := h.j
 have h2 := h.l
 have h3 := h.h
 simp only [List.mem_cons, List.not_mem_nil, or_false] at hn
 unfold Fm.inR64
 rcases hn with rfl | rfl | rfl <;> omega
theorem mk_leaf64 {c : Fm.CellD} (h : MkCl c) : ∀ n ∈ [c.verd.kind, ((c.verd.normals.length : Nat) : Int)], Fm.inR64 n := by
 intro n hn
 have h1 := h.v.rk
 have h2 := h.v.nn
 simp only [List.mem_cons, List.not_mem_nil, or_false] at hn
 unfold Fm.inR64
 rcases hn with rfl | rfl <;> omega
theorem mk_wit64 {u : Fm.VerdD} (h : MkVd u) : ∀ n ∈ Fm.witL u, Fm.inR64 n := by
 intro n hn
 unfold Fm.witL at hn
 have h1 := h.nl
 have h2 := h.nr
 have h3 := h.pair
 simp only [List.mem_cons, List.mem_append] at hn
 rcases hn with rfl | rfl | hn | rfl | hn
 ·unfold Fm.inR64; omega
 ·unfold Fm.inR64; omega
 ·exact h.rl n hn
 ·unfold Fm.inR64; omega
 ·exact h.rr n hn
end Go.Proofs.Ng
end

section
/-
  Walks: ParseTrajectory.
-/
namespace Go.Proofs.Ng
open Go.RowKit

theorem catch50_idle (p q : Addr) (w : World) :
    CallsD Tryz.prog 47 #[.pointer (some p), .pointer (some q)] .returning w fun e u' w' => e = .returned (.tuple #[]) ∧ u' = .returning ∧ w' = w := by
  refine callsD_of_wpS Tryz.func47 rfl fun c₀ cs hu => ?_
  apply wpS_seq
  apply wpS_region
  simp [wpOpsS, go_sem, recoverD, hu, Tryz.ntmps47, Exit.thenS]
  refine wpS_cond (t := false) (by simp [Act.eval, Array.replicate]) ?_
  simp only [Bool.false_eq_true, if_false]
  refine wpS_of_wp (wp_skip ?_)
  cases c₀
  simp_all [bodyPostS, results, Tryz.results47]
/-- The zero trajectory, written over a box. -/
def zer7 (w : World) (n : Nat) : World := set7 w n (.slice none 0 0) (.slice none 0 0) (.int .i64 0) (.int .i64 0) (.int .i64 0) (.int .i64 0) (.slice none 0 0)
theorem Bx.other7 {W : World} {n b : Nat} {cs : List Value} {ty : TypeId} (h : Bx W n cs ty) (hne : n ≠ b) (a0 a1 a2 a3 a4 a5 a6 : Value) : Bx (set7 W b a0 a1 a2 a3 a4 a5 a6) n cs ty := ⟨(set7_blk W b a0 a1 a2 a3 a4 a5 a6 n hne).trans h.h⟩
set_option maxRecDepth 100000 in
set_option maxHeartbeats 2000000 in
theorem catch50_panic (b2 b3 : Nat) (x0 x1 x2 x3 x4 x5 x6 : Value) (n : Int) (older : List PanicEntry) (w : World) (h2 : Bx w b2 [x0, x1, x2, x3, x4, x5, x6] 43) (h3 : Bx w b3 [.int .i64 n] 23) (hne : b3 ≠ b2) :
    CallsD Tryz.prog 47 #[.pointer (some ⟨b2, 0, none⟩), .pointer (some ⟨b3, 0, none⟩)] (.panicking ({ v := .iface 133 (.agg #[]), recovered := false } :: older)) w fun e u' w' =>
      e = .returned (.tuple #[]) ∧ u' = .panicking ({ v := .iface 133 (.agg #[]), recovered := true } :: older) ∧ w' = (zer7 w b2).setCell ⟨b3, 0, none⟩ (.int .i64 4301) := by
  have l2 := h2.lt
  obtain ⟨y0, z0, y1, z1, y2, z2, y3, z3, y4, z4, y5, z5, y6, z6⟩ := facts7 h2 (.slice none 0 0) (.slice none 0 0) (.int .i64 0) (.int .i64 0) (.int .i64 0) (.int .i64 0)
  have h3B := h3.other7 hne (.slice none 0 0) (.slice none 0 0) (.int .i64 0) (.int .i64 0) (.int .i64 0) (.int .i64 0) (.slice none 0 0)
  have d0B := h3B.c 0 _ rfl
  have e0B := h3B.f 0
  unfold zer7
  unfold set7 at d0B e0B ⊢
  refine callsD_of_wpS Tryz.func47 rfl fun c₀ cs hu => ?_
  apply wpS_seq
  apply wpS_region
  simp [wpOpsS, go_sem, recoverD, hu, Tryz.ntmps47, Exit.thenS]
  refine wpS_cond (t := true) (by simp [Act.eval, Array.replicate]) ?_
  simp only [if_true]
  apply wpS_region
  simp [wpOpsS, go_sem, y0, z0, y1, z1, y2, z2, y3, z3, y4, z4, y5, z5, y6, z6, l2, d0B, e0B, bodyPostS, results, Tryz.results47]
def trajZ : Fm.TrajD := ⟨0, (0, 0, 0), ⟨[], []⟩, []⟩
/-- What the code's reader answers: the trajectory and the error. -/
def parseResT (s : List UInt8) : Fm.TrajD × Int := if 1048576 < s.length then (trajZ, 4301) else if kindN s = 3 then (match Fm.parseTr s with | some p => (p, 0) | none => (trajZ, 4301)) else (trajZ, 4302)
theorem rws_nil {A : Type} (D : Dat A) (n : Nat) (W : World) : Rws D n W none [] := ⟨[], rfl, fun h => absurd rfl h, fun k r x h => by simp at h⟩
theorem trajV_nil (W : World) : TrajV (.agg #[.slice none 0 0, .slice none 0 0, .int .i64 0, .int .i64 0, .int .i64 0, .int .i64 0, .slice none 0 0]) trajZ W := ⟨none, 0, none, 0, none, 0, rfl, rws_nil _ _ _, rws_nil _ _ _, rws_nil _ _ _⟩
theorem fin31 {X W : World} {n : Nat} {a0 a1 a2 a3 a4 a5 a6 : Value} {code : Int} {res : Fm.TrajD × Int} {p : Fm.TrajD} (h2 : Bx X n [a0, a1, a2, a3, a4, a5, a6] 43) (h3 : Bx X (n + 1) [.int .i64 code] 23) (hr : res = (p, code)) (hV : New W.heap.size X (TrajV (.agg #[a0, a1, a2, a3, a4, a5, a6]) p)) (hb : Below W.heap.size W X) :
    X.cell? ⟨n, 0, none⟩ = some a0 ∧ X.cell? ⟨n, 1, none⟩ = some a1 ∧ X.cell? ⟨n, 2, none⟩ = some a2 ∧ X.cell? ⟨n, 3, none⟩ = some a3 ∧ X.cell? ⟨n, 4, none⟩ = some a4 ∧ X.cell? ⟨n, 5, none⟩ = some a5 ∧ X.cell? ⟨n, 6, none⟩ = some a6 ∧ X.cell? ⟨n + 1, 0, none⟩ = some (.int .i64 code) ∧ ParP TrajV res W (.returned (.tuple #[.agg #[a0, a1, a2, a3, a4, a5, a6], .int .i64 code])) X := by
  subst hr
  exact ⟨h2.c 0 _ rfl, h2.c 1 _ rfl, h2.c 2 _ rfl, h2.c 3 _ rfl, h2.c 4 _ rfl, h2.c 5 _ rfl, h2.c 6 _ rfl, h3.c 0 _ rfl, _, rfl, hV, hb⟩
/-- The failing end: zeros and the error written. -/
theorem zero31 {W Y : World} {n : Nat} {x0 x1 x2 x3 x4 x5 x6 : Value} {c0 code : Int} {res : Fm.TrajD × Int} (h2 : Bx Y n [x0, x1, x2, x3, x4, x5, x6] 43) (h3 : Bx Y (n + 1) [.int .i64 c0] 23) (hr : res = (trajZ, code)) (hb : Below W.heap.size W Y) (hn : W.heap.size = n) :
    Bx ((zer7 Y n).setCell ⟨n + 1, 0, none⟩ (.int .i64 code)) n [.slice none 0 0, .slice none 0 0, .int .i64 0, .int .i64 0, .int .i64 0, .int .i64 0, .slice none 0 0] 43 ∧ Bx ((zer7 Y n).setCell ⟨n + 1, 0, none⟩ (.int .i64 code)) (n + 1) [.int .i64 code] 23 ∧ New W.heap.size ((zer7 Y n).setCell ⟨n + 1, 0, none⟩ (.int .i64 code)) (TrajV (.agg #[.slice none 0 0, .slice none 0 0, .int .i64 0, .int .i64 0, .int .i64 0, .int .i64 0, .slice none 0 0]) trajZ) ∧ Below W.heap.size W ((zer7 Y n).setCell ⟨n + 1, 0, none⟩ (.int .i64 code)) :=
  ⟨(st7 h2 _ _ _ _ _ _ _).other (by omega) 0 _, (h3.other7 (by omega) _ _ _ _ _ _ _).put _, fun X _ => trajV_nil X, (hb.trans (set7_below Y n W.heap.size (Nat.le_of_eq hn) _ _ _ _ _ _ _)).setCell (p := ⟨n + 1, 0, none⟩) (by show W.heap.size ≤ n + 1; omega) _⟩
theorem mid31 {Y : World} {n b : Nat} {x0 x1 x2 x3 x4 x5 x6 : Value} {c0 : Int} {ls : List (List UInt8)} {tl : List UInt8} (h2 : Bx Y n [x0, x1, x2, x3, x4, x5, x6] 43) (h3 : Bx Y (n + 1) [.int .i64 c0] 23) (hS : RdS Y b ls tl) (hb : n + 2 ≤ b) (a0 a1 a2 a3 a4 a5 a6 : Value) :
    Bx (set7 Y n a0 a1 a2 a3 a4 a5 a6) n [a0, a1, a2, a3, a4, a5, a6] 43 ∧ Bx (set7 Y n a0 a1 a2 a3 a4 a5 a6) (n + 1) [.int .i64 c0] 23 ∧ RdS (set7 Y n a0 a1 a2 a3 a4 a5 a6) b ls tl ∧ Below n Y (set7 Y n a0 a1 a2 a3 a4 a5 a6) := by
  obtain ⟨⟨s, hs1, hs2, hs3⟩, hs4⟩ := hS
  exact ⟨st7 h2 _ _ _ _ _ _ _, h3.other7 (by omega) _ _ _ _ _ _ _, ⟨⟨s, hs1.other7 (by omega) _ _ _ _ _ _ _, hs2, hs3⟩, hs4⟩, set7_below Y n n (Nat.le_refl _) _ _ _ _ _ _ _⟩
theorem done31 {W Y : World} {n : Nat} {a0 a1 a2 a3 a4 a5 a6 : Value} {c0 : Int} {res : Fm.TrajD × Int} {p : Fm.TrajD} (h2 : Bx Y n [a0, a1, a2, a3, a4, a5, a6] 43) (h3 : Bx Y (n + 1) [.int .i64 c0] 23) (hr : res = (p, 0)) (hV : ∀ X : World, (∀ k, k ≠ n → k ≠ n + 1 → W.heap.size ≤ k → k < Y.heap.size → X.heap[k]? = Y.heap[k]?) → TrajV (.agg #[a0, a1, a2, a3, a4, a5, a6]) p X) (hb : Below W.heap.size W Y) (hn : W.heap.size = n) :
    ((set7 Y n a0 a1 a2 a3 a4 a5 a6).setCell ⟨n + 1, 0, none⟩ (.int .i64 0)).cell? ⟨n, 0, none⟩ = some a0 ∧ ((set7 Y n a0 a1 a2 a3 a4 a5 a6).setCell ⟨n + 1, 0, none⟩ (.int .i64 0)).cell? ⟨n, 1, none⟩ = some a1 ∧ ((set7 Y n a0 a1 a2 a3 a4 a5 a6).setCell ⟨n + 1, 0, none⟩ (.int .i64 0)).cell? ⟨n, 2, none⟩ = some a2 ∧ ((set7 Y n a0 a1 a2 a3 a4 a5 a6).setCell ⟨n + 1, 0, none⟩ (.int .i64 0)).cell? ⟨n, 3, none⟩ = some a3 ∧ ((set7 Y n a0 a1 a2 a3 a4 a5 a6).setCell ⟨n + 1, 0, none⟩ (.int .i64 0)).cell? ⟨n, 4, none⟩ = some a4 ∧ ((set7 Y n a0 a1 a2 a3 a4 a5 a6).setCell ⟨n + 1, 0, none⟩ (.int .i64 0)).cell? ⟨n, 5, none⟩ = some a5 ∧ ((set7 Y n a0 a1 a2 a3 a4 a5 a6).setCell ⟨n + 1, 0, none⟩ (.int .i64 0)).cell? ⟨n, 6, none⟩ = some a6 ∧ ((set7 Y n a0 a1 a2 a3 a4 a5 a6).setCell ⟨n + 1, 0, none⟩ (.int .i64 0)).cell? ⟨n + 1, 0, none⟩ = some (.int .i64 0) ∧ ParP TrajV res W (.returned (.tuple #[.agg #[a0, a1, a2, a3, a4, a5, a6], .int .i64 0])) ((set7 Y n a0 a1 a2 a3 a4 a5 a6).setCell ⟨n + 1, 0, none⟩ (.int .i64 0)) := by
  refine fin31 ((st7 h2 _ _ _ _ _ _ _).other (by omega) 0 _) ((h3.other7 (by omega) _ _ _ _ _ _ _).put _) hr (fun X hX => hV X fun k k1 k2 k3 k4 => ?_) ((hb.trans (set7_below Y n W.heap.size (Nat.le_of_eq hn) _ _ _ _ _ _ _)).setCell (p := ⟨n + 1, 0, none⟩) (by show W.heap.size ≤ n + 1; omega) _)
  rw [hX k ⟨k3, by simp [World.setCell, set7]; exact k4⟩]
  exact (Below.heap_setCell _ ⟨n + 1, 0, none⟩ _ k k2).trans (set7_blk Y n _ _ _ _ _ _ _ k k1)
set_option maxRecDepth 100000 in
set_option maxHeartbeats 8000000 in
theorem parseTraj31 (s : ByteArray) (W : World) (hs : s.size ≤ 9223372036854775807) (hL : LibW W) : Calls Tryz.prog 15 #[.string s] W (ParP TrajV (parseResT s.data.toList) W) := by
  have hmf : ∀ (fn : Fn) (first cap : Array Value) (w : World), (Instr.makeFunc fn first cap).run Tryz.prog w = .ok (.func fn first cap) w := fun _ _ _ _ => rfl
  generalize hR : parseResT s.data.toList = res
  unfold parseResT at hR
  have hsz : s.data.toList.length = s.size := by rw [Array.length_toList]; rfl
  have hb1 : Below W.heap.size W ((W.alloc (.cells #[.slice none 0 0, .slice none 0 0, .int .i64 0, .int .i64 0, .int .i64 0, .int .i64 0, .slice none 0 0] 43)).alloc (.cells #[.int .i64 0] 23)) := ((Below.refl _ _).alloc (Nat.le_refl _) _).alloc (by simp) _
  have hz : ((W.alloc (.cells #[.slice none 0 0, .slice none 0 0, .int .i64 0, .int .i64 0, .int .i64 0, .int .i64 0, .slice none 0 0] 43)).alloc (.cells #[.int .i64 0] 23)).heap.size = W.heap.size + 2 := by simp
  have hsz1 : (W.alloc (.cells #[.slice none 0 0, .slice none 0 0, .int .i64 0, .int .i64 0, .int .i64 0, .int .i64 0, .slice none 0 0] 43)).heap.size = W.heap.size + 1 := by simp
  have HX2 := Lib.hid ((Bx.new W [.slice none 0 0, .slice none 0 0, .int .i64 0, .int .i64 0, .int .i64 0, .int .i64 0, .slice none 0 0] 43).keep ((Below.refl _ (W.alloc (.cells #[.slice none 0 0, .slice none 0 0, .int .i64 0, .int .i64 0, .int .i64 0, .int .i64 0, .slice none 0 0] 43))).alloc (Nat.le_refl _) (.cells #[.int .i64 0] 23)))
  have HX3 := Lib.hid (Bx.new (W.alloc (.cells #[.slice none 0 0, .slice none 0 0, .int .i64 0, .int .i64 0, .int .i64 0, .int .i64 0, .slice none 0 0] 43)) [.int .i64 0] 23)
  rw [hsz1] at HX3
  have HL := Lib.hid (hL.keep hb1)
  have HB := Lib.hid hb1
  have HZ := Lib.hid hz
  have HS8 : Hid (8 ≤ W.heap.size) := Lib.hid hL.gt
  clear hb1 hz hsz1 hL
  go_enter_defers Tryz.func15, Tryz.ntmps15
  go_wp2_with fail
  generalize ((W.alloc (.cells #[.slice none 0 0, .slice none 0 0, .int .i64 0, .int .i64 0, .int .i64 0, .int .i64 0, .slice none 0 0] 43)).alloc (.cells #[.int .i64 0] 23)) = W1 at HX2 HX3 HL HB HZ ⊢
  obtain ⟨n2, hn2⟩ : ∃ n, n = W.heap.size := ⟨_, rfl⟩
  have HN2 := Lib.hid hn2
  rw [← hn2] at HX2 HX3 HZ HS8 ⊢
  clear hn2
  refine (opening37 s 3 W1 hs).mono ?_
  rintro e W2 ⟨rfl, hw⟩
  subst hw
  unfold openN
  rw [hsz]
  have HZE : Hid (∀ (Y : World) (x0 x1 x2 x3 x4 x5 x6 : Value) (c0 code : Int), Bx Y n2 [x0, x1, x2, x3, x4, x5, x6] 43 → Bx Y (n2 + 1) [.int .i64 c0] 23 → res = (trajZ, code) → Below W.heap.size W Y → ∀ X, X = (zer7 Y n2).setCell ⟨n2 + 1, 0, none⟩ (.int .i64 code) →
      X.cell? ⟨n2, 0, none⟩ = some (.slice none 0 0) ∧ X.cell? ⟨n2, 1, none⟩ = some (.slice none 0 0) ∧ X.cell? ⟨n2, 2, none⟩ = some (.int .i64 0) ∧ X.cell? ⟨n2, 3, none⟩ = some (.int .i64 0) ∧ X.cell? ⟨n2, 4, none⟩ = some (.int .i64 0) ∧ X.cell? ⟨n2, 5, none⟩ = some (.int .i64 0) ∧ X.cell? ⟨n2, 6, none⟩ = some (.slice none 0 0) ∧ X.cell? ⟨n2 + 1, 0, none⟩ = some (.int .i64 code) ∧ ParP TrajV res W (.returned (.tuple #[.agg #[.slice none 0 0, .slice none 0 0, .int .i64 0, .int .i64 0, .int .i64 0, .int .i64 0, .slice none 0 0], .int .i64 code])) X) := Lib.hid (fun Y x0 x1 x2 x3 x4 x5 x6 c0 code h2 h3 hr hb X hX => by
    obtain ⟨k1, k2, k3, k4⟩ := zero31 h2 h3 hr hb HN2.out.symm
    subst hX
    exact fin31 k1 k2 hr k3 k4)
  by_cases h1 : 1048576 < s.size
  · rw [if_pos h1]
    rw [hsz, if_pos h1] at hR
    have HR := Lib.hid hR
    clear hR h1
    have l2 := HX2.out.lt
    obtain ⟨y0, z0, y1, z1, y2, z2, y3, z3, y4, z4, y5, z5, y6, z6⟩ := facts7 HX2.out (.slice none 0 0) (.slice none 0 0) (.int .i64 0) (.int .i64 0) (.int .i64 0) (.int .i64 0)
    have h3B := HX3.out.other7 (b := n2) (by omega) (.slice none 0 0) (.slice none 0 0) (.int .i64 0) (.int .i64 0) (.int .i64 0) (.int .i64 0) (.slice none 0 0)
    have d0B := h3B.c 0 _ rfl
    have e0B := h3B.f 0
    unfold set7 at d0B e0B
    clear h3B
    go_wp2
    have HF := Lib.hid (HZE.out W2 _ _ _ _ _ _ _ _ 4301 HX2.out HX3.out HR.out.symm HB.out _ rfl)
    unfold zer7 set7 at HF
    clear y0 z0 y1 z1 y2 z2 y3 z3 y4 z4 y5 z5 y6 z6 l2 d0B e0B
    generalize ((((((((W2.setCell ⟨n2, 0, none⟩ (.slice none 0 0)).setCell ⟨n2, 1, none⟩ (.slice none 0 0)).setCell ⟨n2, 2, none⟩ (.int .i64 0)).setCell ⟨n2, 3, none⟩ (.int .i64 0)).setCell ⟨n2, 4, none⟩ (.int .i64 0)).setCell ⟨n2, 5, none⟩ (.int .i64 0)).setCell ⟨n2, 6, none⟩ (.slice none 0 0)).setCell ⟨n2 + 1, 0, none⟩ (.int .i64 4301)) = X at HF ⊢
    obtain ⟨c0, c1, c2, c3, c4, c5, c6, d0, hP⟩ := HF.out
    simp [bodyPostD, Leaves, settle, results, Tryz.results15, go_sem, c0, c1, c2, c3, c4, c5, c6, d0]
    exact hP
  · rw [if_neg h1]
    rw [hsz, if_neg h1] at hR
    by_cases hk : kindN s.data.toList = 3
    · rw [if_pos hk]
      rw [if_pos hk, Fm.parseTr_R] at hR
      have HR := Lib.hid hR
      clear hR hk
      have hb5 : Below W2.heap.size W2 (W2.alloc (.cells #[.string s] 96)) := (Below.refl _ _).alloc (Nat.le_refl _) _
      have HS : Hid (RdS (W2.alloc (.cells #[.string s] 96)) W2.heap.size (Fm.linesT s.data.toList).1 (Fm.linesT s.data.toList).2) := Lib.hid ⟨⟨s, Bx.new W2 [.string s] 96, rfl, by omega⟩, by have := HZ.out; have := HS8.out; omega⟩
      have HX25 := Lib.hid (HX2.out.keep hb5)
      have HX35 := Lib.hid (HX3.out.keep hb5)
      have HL5 := Lib.hid (HL.out.keep hb5)
      have HB5 := Lib.hid (below_call HB.out hb5)
      clear hb5
      go_wp2_with fail
      have hbn : n2 + 2 ≤ W2.heap.size := by have := HZ.out; omega
      generalize W2.alloc (.cells #[.string s] 96) = W3 at HS HX25 HX35 HL5 HB5 ⊢
      generalize W2.heap.size = b at HS hbn ⊢
      have HC := Lib.hid (trajectory51 W3 b _ _ HS.out HL5.out)
      refine HC.out.mono ?_
      rintro e W4 h4
      cases hq : Fm.rdTrajR (Fm.linesT s.data.toList).1 with
      | none =>
        rw [hq] at h4
        have HRN : Hid (res = (trajZ, 4301)) := Lib.hid (by rw [← HR.out, hq])
        obtain ⟨rfl, hG⟩ := h4.no
        have hx2 := HX25.out.grown hG (by omega)
        have hx3 := HX35.out.grown hG (by omega)
        have HB6 : Hid (Below W.heap.size W W4) := Lib.hid (HB5.out.trans ⟨hG.os, hG.tape, hG.output, hG.size, fun k hk => hG.block k (Nat.lt_of_lt_of_le hk HB5.out.size) (fun e => by have := HN2.out; injection e with e; omega)⟩)
        clear h4 hG HC hq
        unfold malP
        go_wp2
        refine leaves_cons (f := 47) (args := #[.pointer (some ⟨n2, 0, none⟩), .pointer (some ⟨n2 + 1, 0, none⟩)]) (by simp) (by simp [go_sem]) ?_
        refine (catch50_panic n2 (n2 + 1) _ _ _ _ _ _ _ _ [] W4 hx2 hx3 (by omega)).mono ?_
        rintro e u' w'' ⟨rfl, rfl, hw9⟩
        obtain ⟨c0, c1, c2, c3, c4, c5, c6, d0, hP⟩ := HZE.out W4 _ _ _ _ _ _ _ _ 4301 hx2 hx3 HRN.out HB6.out _ hw9
        clear hx2 hx3 hw9
        simp [Leaves, settle, results, Tryz.results15, go_sem, c0, c1, c2, c3, c4, c5, c6, d0]
        exact hP
      | some pr =>
        obtain ⟨p, r⟩ := pr
        rw [hq] at h4
        obtain ⟨v, rfl, hN, hS, hG⟩ := h4.yes
        obtain ⟨op, np, oe, ne, f, nf, rfl, -, -, -⟩ := hN.now
        have hx2 := HX25.out.grown hG (by omega)
        have hx3 := HX35.out.grown hG (by omega)
        have HB4 : Hid (Below W.heap.size W W4) := Lib.hid (HB5.out.trans ⟨hG.os, hG.tape, hG.output, hG.size, fun k hk => hG.block k (Nat.lt_of_lt_of_le hk HB5.out.size) (fun e => by have := HN2.out; injection e with e; omega)⟩)
        have HNW := Lib.hid hN
        have HLW := Lib.hid (HL5.out.keepG hG (by have := HS8.out; omega))
        obtain ⟨s1, s2, s3, s4⟩ := mid31 hx2 hx3 hS (by omega) (.slice op p.path.pts.length np) (.slice oe p.path.edges.length ne) (.int .i64 p.grav.1) (.int .i64 p.grav.2.1) (.int .i64 p.grav.2.2) (.int .i64 p.grid) (.slice f p.profs.length nf)
        have HX26 := Lib.hid s1
        have HX36 := Lib.hid s2
        have HS4 := Lib.hid s3
        have HBEL := Lib.hid s4
        have HBL := Lib.hid (set7_blk W4 n2 (.slice op p.path.pts.length np) (.slice oe p.path.edges.length ne) (.int .i64 p.grav.1) (.int .i64 p.grav.2.1) (.int .i64 p.grav.2.2) (.int .i64 p.grid) (.slice f p.profs.length nf))
        have HSZ6 := Lib.hid (set7_size W4 n2 (.slice op p.path.pts.length np) (.slice oe p.path.edges.length ne) (.int .i64 p.grav.1) (.int .i64 p.grav.2.1) (.int .i64 p.grav.2.2) (.int .i64 p.grid) (.slice f p.profs.length nf))
        have HW3 := Lib.hid hG.size
        have HBT := Lib.hid HS.out.lt
        have HLE : Hid (n2 + 2 ≤ W3.heap.size) := Lib.hid HX35.out.lt
        have l2 := hx2.lt
        obtain ⟨y0, z0, y1, z1, y2, z2, y3, z3, y4, z4, y5, z5, y6, z6⟩ := facts7 hx2 (.slice op p.path.pts.length np) (.slice oe p.path.edges.length ne) (.int .i64 p.grav.1) (.int .i64 p.grav.2.1) (.int .i64 p.grav.2.2) (.int .i64 p.grid)
        clear h4 hN hS hG HC hx2 hx3 s1 s2 s3 s4
        unfold set7 at HX26 HX36 HS4 HBEL HBL HSZ6
        go_wp2_with fail
        clear y0 z0 y1 z1 y2 z2 y3 z3 y4 z4 y5 z5 y6 z6 l2
        generalize ((((((W4.setCell ⟨n2, 0, none⟩ (.slice op p.path.pts.length np)).setCell ⟨n2, 1, none⟩ (.slice oe p.path.edges.length ne)).setCell ⟨n2, 2, none⟩ (.int .i64 p.grav.1)).setCell ⟨n2, 3, none⟩ (.int .i64 p.grav.2.1)).setCell ⟨n2, 4, none⟩ (.int .i64 p.grav.2.2)).setCell ⟨n2, 5, none⟩ (.int .i64 p.grid)).setCell ⟨n2, 6, none⟩ (.slice f p.profs.length nf) = W6 at HX26 HX36 HS4 HBEL HBL HSZ6 ⊢
        have HL6 := Lib.hid (HLW.out.low (HBEL.out.mono HS8.out))
        have HB6 : Hid (Below W.heap.size W W6) := Lib.hid (HB4.out.trans (HBEL.out.mono (Nat.le_of_eq HN2.out.symm)))
        refine (finish40 W6 b r _ HS4.out HL6.out).mono ?_
        rintro e W7 ⟨he, hG7⟩
        have hx2 := HX26.out.grown hG7 (by omega)
        have hx3 := HX36.out.grown hG7 (by omega)
        have HB7 : Hid (Below W.heap.size W W7) := Lib.hid (HB6.out.trans ⟨hG7.os, hG7.tape, hG7.output, hG7.size, fun k hk => hG7.block k (Nat.lt_of_lt_of_le hk HB6.out.size) (fun e => by have := HN2.out; injection e with e; omega)⟩)
        cases hend : Fm.rdEnd r (Fm.linesT s.data.toList).2 with
        | false =>
          rw [hend] at he
          have HRN : Hid (res = (trajZ, 4301)) := Lib.hid (by rw [← HR.out, hq]; simp only; rw [hend]; rfl)
          simp only [Bool.false_eq_true, if_false] at he
          subst he
          clear hG7 hend hq
          unfold malP
          go_wp2
          refine leaves_cons (f := 47) (args := #[.pointer (some ⟨n2, 0, none⟩), .pointer (some ⟨n2 + 1, 0, none⟩)]) (by simp) (by simp [go_sem]) ?_
          refine (catch50_panic n2 (n2 + 1) _ _ _ _ _ _ _ _ [] W7 hx2 hx3 (by omega)).mono ?_
          rintro e u' w'' ⟨rfl, rfl, hw9⟩
          obtain ⟨c0, c1, c2, c3, c4, c5, c6, d0, hP⟩ := HZE.out W7 _ _ _ _ _ _ _ _ 4301 hx2 hx3 HRN.out HB7.out _ hw9
          clear hx2 hx3 hw9
          simp [Leaves, settle, results, Tryz.results15, go_sem, c0, c1, c2, c3, c4, c5, c6, d0]
          exact hP
        | true =>
          rw [hend] at he
          simp only [if_true] at he
          subst he
          have HRN : Hid (res = (p, 0)) := Lib.hid (by rw [← HR.out, hq]; simp only; rw [hend]; rfl)
          have HN7 : Hid (∀ X : World, (∀ k, k ≠ n2 → k ≠ n2 + 1 → W.heap.size ≤ k → k < W7.heap.size → X.heap[k]? = W7.heap[k]?) → TrajV (.agg #[.slice op p.path.pts.length np, .slice oe p.path.edges.length ne, .int .i64 p.grav.1, .int .i64 p.grav.2.1, .int .i64 p.grav.2.2, .int .i64 p.grid, .slice f p.profs.length nf]) p X) := Lib.hid (fun X hX => HNW.out X fun k hk => by
            have h1 := hk.1; have h2 := hk.2
            have h3 := HLE.out
            have h4 : k < W6.heap.size := by rw [HSZ6.out]; exact h2
            rw [hX k (by omega) (by omega) (by have := HB5.out.size; omega) (Nat.lt_of_lt_of_le h4 hG7.size), hG7.block k h4 (fun e => by have h5 := HBT.out; injection e with e; omega), HBL.out k (by omega)])
          clear hG7 hend hq
          have l2 := hx2.lt
          have r0 := hx2.c 0 _ rfl
          have r1 := hx2.c 1 _ rfl
          have r2 := hx2.c 2 _ rfl
          have r3 := hx2.c 3 _ rfl
          have r4 := hx2.c 4 _ rfl
          have r5 := hx2.c 5 _ rfl
          have r6 := hx2.c 6 _ rfl
          obtain ⟨y0, z0, y1, z1, y2, z2, y3, z3, y4, z4, y5, z5, y6, z6⟩ := facts7 hx2 (.slice op p.path.pts.length np) (.slice oe p.path.edges.length ne) (.int .i64 p.grav.1) (.int .i64 p.grav.2.1) (.int .i64 p.grav.2.2) (.int .i64 p.grid)
          have hB := hx3.other7 (b := n2) (by omega) (.slice op p.path.pts.length np) (.slice oe p.path.edges.length ne) (.int .i64 p.grav.1) (.int .i64 p.grav.2.1) (.int .i64 p.grav.2.2) (.int .i64 p.grid) (.slice f p.profs.length nf)
          have d0 := hB.c 0 _ rfl
          have g0 := hB.f 0
          have HF := Lib.hid (done31 hx2 hx3 HRN.out HN7.out HB7.out HN2.out.symm)
          unfold set7 at d0 g0 HF
          clear hB hx2 hx3
          go_wp2
          clear y0 z0 y1 z1 y2 z2 y3 z3 y4 z4 y5 z5 y6 z6 l2 d0 g0 r0 r1 r2 r3 r4 r5 r6
          generalize ((((((((W7.setCell ⟨n2, 0, none⟩ (.slice op p.path.pts.length np)).setCell ⟨n2, 1, none⟩ (.slice oe p.path.edges.length ne)).setCell ⟨n2, 2, none⟩ (.int .i64 p.grav.1)).setCell ⟨n2, 3, none⟩ (.int .i64 p.grav.2.1)).setCell ⟨n2, 4, none⟩ (.int .i64 p.grav.2.2)).setCell ⟨n2, 5, none⟩ (.int .i64 p.grid)).setCell ⟨n2, 6, none⟩ (.slice f p.profs.length nf)).setCell ⟨n2 + 1, 0, none⟩ (.int .i64 0)) = X at HF ⊢
          refine leaves_cons (f := 47) (args := #[.pointer (some ⟨n2, 0, none⟩), .pointer (some ⟨n2 + 1, 0, none⟩)]) (by simp) (by simp [go_sem]) ?_
          refine (catch50_idle ⟨n2, 0, none⟩ ⟨n2 + 1, 0, none⟩ X).mono ?_
          rintro e u' w'' ⟨rfl, rfl, rfl⟩
          obtain ⟨c0, c1, c2, c3, c4, c5, c6, d0, hP⟩ := HF.out
          simp [Leaves, settle, results, Tryz.results15, go_sem, c0, c1, c2, c3, c4, c5, c6, d0]
          exact hP
    · rw [if_neg hk]
      rw [if_neg hk] at hR
      have HR := Lib.hid hR
      clear hR hk
      have l2 := HX2.out.lt
      obtain ⟨y0, z0, y1, z1, y2, z2, y3, z3, y4, z4, y5, z5, y6, z6⟩ := facts7 HX2.out (.slice none 0 0) (.slice none 0 0) (.int .i64 0) (.int .i64 0) (.int .i64 0) (.int .i64 0)
      have h3B := HX3.out.other7 (b := n2) (by omega) (.slice none 0 0) (.slice none 0 0) (.int .i64 0) (.int .i64 0) (.int .i64 0) (.int .i64 0) (.slice none 0 0)
      have d0B := h3B.c 0 _ rfl
      have e0B := h3B.f 0
      unfold set7 at d0B e0B
      clear h3B
      go_wp2
      have HF := Lib.hid (HZE.out W2 _ _ _ _ _ _ _ _ 4302 HX2.out HX3.out HR.out.symm HB.out _ rfl)
      unfold zer7 set7 at HF
      clear y0 z0 y1 z1 y2 z2 y3 z3 y4 z4 y5 z5 y6 z6 l2 d0B e0B
      generalize ((((((((W2.setCell ⟨n2, 0, none⟩ (.slice none 0 0)).setCell ⟨n2, 1, none⟩ (.slice none 0 0)).setCell ⟨n2, 2, none⟩ (.int .i64 0)).setCell ⟨n2, 3, none⟩ (.int .i64 0)).setCell ⟨n2, 4, none⟩ (.int .i64 0)).setCell ⟨n2, 5, none⟩ (.int .i64 0)).setCell ⟨n2, 6, none⟩ (.slice none 0 0)).setCell ⟨n2 + 1, 0, none⟩ (.int .i64 4302)) = X at HF ⊢
      obtain ⟨c0, c1, c2, c3, c4, c5, c6, d0, hP⟩ := HF.out
      simp [bodyPostD, Leaves, settle, results, Tryz.results15, go_sem, c0, c1, c2, c3, c4, c5, c6, d0]
      exact hP
end Go.Proofs.Ng
end

