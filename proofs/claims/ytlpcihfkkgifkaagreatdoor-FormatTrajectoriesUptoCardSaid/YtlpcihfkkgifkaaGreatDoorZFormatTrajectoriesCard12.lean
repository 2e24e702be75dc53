/-
  Texts put together: Cm.
-/
import Derived.Test.YtlpcihfkkgifkaaGreatDoorZFormatTrajectoriesCard11
set_option linter.unusedVariables false
namespace Go.Proofs.Ng
open Go.RowKit

structure NmK (g off cap lo : Nat) (x y z : Int) (xs : List (Int × Int × Int)) (v p0 p1 p2 p3 p4 p6 p8 p9 p10 p11 p12 p13 p14 p15 p16 p17 p18 p19 p20 p21 p35 : Value) (W1 : World) (L : Nat → Bool) (v5 v22 v23 v24 v25 v26 v27 v28 v29 v30 v31 v32 v33 v34 : Value) (w : World) : Prop where
  wf : (L 12 = false → Below W1.heap.size W1 w) ∧ (L 13 = false → v5 = v)
  f0 : L 0 = true → v22 = v
  f1 : L 1 = true → v23 = .slice (some ⟨g, off, none⟩) 3 cap
  f2 : L 2 = true → v24 = .pointer (some ⟨g, off, none⟩)
  f3 : L 3 = true → v25 = .int .i64 x
  f4 : L 4 = true → v26 = .slice (some ⟨g, off, none⟩) 3 cap
  f5 : L 5 = true → v27 = .pointer (some ⟨g, off + 1, none⟩)
  f6 : L 6 = true → v28 = .int .i64 y
  f7 : L 7 = true → v29 = .slice (some ⟨g, off, none⟩) 3 cap
  f8 : L 8 = true → v30 = .pointer (some ⟨g, off + 2, none⟩)
  f9 : L 9 = true → v31 = .int .i64 z
  f10 : L 10 = true → v32 = .agg #[.int .i64 x, .int .i64 y, .int .i64 z]
  f11 : L 11 = true → L 12 = false → ∃ g4, v33 = .slice (some ⟨g4, 0, none⟩) 1 1 ∧ Bx w g4 [.int .i64 x, .int .i64 y, .int .i64 z] 38
  f12 : L 12 = true → RowO VecD 38 3 lo w v34 (xs ++ [(x, y, z)]) ∧ Below lo W1 w
  f13 : L 13 = true → v5 = v34
  c2_1 : L 2 = true → L 1 = true
  c3_2 : L 3 = true → L 2 = true
  c5_4 : L 5 = true → L 4 = true
  c6_5 : L 6 = true → L 5 = true
  c8_7 : L 8 = true → L 7 = true
  c9_8 : L 9 = true → L 8 = true
  c10_3 : L 10 = true → L 3 = true
  c10_6 : L 10 = true → L 6 = true
  c10_9 : L 10 = true → L 9 = true
  c11_10 : L 11 = true → L 10 = true
  c12_0 : L 12 = true → L 0 = true
  c12_11 : L 12 = true → L 11 = true
  c13_12 : L 13 = true → L 12 = true
def NmJ (g off cap lo : Nat) (x y z : Int) (xs : List (Int × Int × Int)) (v p0 p1 p2 p3 p4 p6 p8 p9 p10 p11 p12 p13 p14 p15 p16 p17 p18 p19 p20 p21 p35 : Value) (W1 : World) (L : Nat → Bool) (a : Act) (w : World) : Prop := ∃ v5 v22 v23 v24 v25 v26 v27 v28 v29 v30 v31 v32 v33 v34 : Value, a = { tmps := #[p0, p1, p2, p3, p4, v5, p6, .slice (some ⟨g, off, none⟩) 3 cap, p8, p9, p10, p11, p12, p13, p14, p15, p16, p17, p18, p19, p20, p21, v22, v23, v24, v25, v26, v27, v28, v29, v30, v31, v32, v33, v34, p35], defers := [] } ∧ NmK g off cap lo x y z xs v p0 p1 p2 p3 p4 p6 p8 p9 p10 p11 p12 p13 p14 p15 p16 p17 p18 p19 p20 p21 p35 W1 L v5 v22 v23 v24 v25 v26 v27 v28 v29 v30 v31 v32 v33 v34 w

/-- Some slice. -/
def SlZ (v : Value) (_ : World) : Prop := ∃ oa n c, v = .slice oa n c
theorem RfS.keepA {W W' : World} {b gL lo : Nat} {L q : List (List UInt8)} {bad : Bool} (h : RfS W b gL L q bad) (hb : Below lo W W') (h1 : b < lo) (h2 : gL < lo) : RfS W' b gL L q bad := h.low hb h1 h2
theorem RfS.ltg {W : World} {b gL : Nat} {L q : List (List UInt8)} {bad : Bool} (h : RfS W b gL L q bad) : gL < W.heap.size := h.ln.lt
set_option maxRecDepth 100000 in
set_option maxHeartbeats 8000000 in
theorem normals75 (W : World) (b gL : Nat) (L q : List (List UInt8)) (n : Nat) (hn : n ≤ 1048576) (bad : Bool) (h : RfS W b gL L q bad) (hL : LibW W) :
    Calls Tryz.prog 75 #[.pointer (some ⟨b, 0, none⟩), .int .i64 (n : Nat)] W (RrP b gL L (RwV VecD 3) SlZ W (gd bad (Fm.rep Fm.rdNormal n q))) := by
  generalize hO : gd bad (Fm.rep Fm.rdNormal n q) = o
  have h8 := h.lo
  have hlt0 := h.lt
  have hltg := h.ltg
  have HS := Lib.hid h
  have HL := Lib.hid hL
  have HO0 : Hid (bad = false → Fm.rep Fm.rdNormal n q = o) := Lib.hid (fun e => by rw [← hO, e]; rfl)
  have HO1 : Hid (bad = true → o = none) := Lib.hid (fun e => by rw [← hO, e]; rfl)
  clear h hL hO
  go_enter Tryz.func75, Tryz.ntmps75
  go_wp2_with fail
  go_loopw [5, 6] (fun v i X => ∃ (k : Nat) (xs : List (Int × Int × Int)) (q2 : List (List UInt8)) (bd : Bool), k ≤ n ∧ i = .int .i64 (k : Nat) ∧ xs.length = k ∧ RowO VecD 38 3 W.heap.size X v xs ∧ RfS X b gL L q2 bd ∧ W.grownBy X (some b) ∧ (bd = false → Fm.RepAt Fm.rdNormal n q k xs q2 ∧ bad = false) ∧ (bd = true → o = none)) (fun _ i _ => n - (intOf i).toNat)
  case atStart => exact ⟨0, [], q, bad, Nat.zero_le _, rfl, rfl, RowO.nil _ _ _ _ _, HS.out, World.grownBy.refl _ _, fun e => ⟨Fm.RepAt.start _ _ _, e⟩, HO1.out⟩
  case round =>
    obtain ⟨k, xs, q2, bd, hk, rfl, hxk, hrow, hS, hG, hR, hB⟩ := hrel
    have HR := Lib.hid hR
    have HBD := Lib.hid hB
    have HRow := Lib.hid hrow
    have HG := Lib.hid hG
    have HS2 := Lib.hid hS
    have HLr := Lib.hid (HL.out.keepG hG h8)
    have HXK := Lib.hid hxk
    obtain ⟨⟨i, hi, -, hX⟩, -⟩ := id hS
    have c2 := hX.c 2 _ rfl
    have cl := hX.lt
    clear hR hB hrow hG hS hX hxk
    by_cases hlt : k < n
    · have hd : decide ((k : Int) < (n : Int)) = true := decide_eq_true (by omega)
      cases bd with
      | true =>
        have HON := Lib.hid (HBD.out (by first | rfl | trivial))
        obtain ⟨oa, cap, rfl, -, -, -⟩ := HRow.out.done
        go_wp2
        go_ret
        exact RrP.mkno HON.out (fun _ _ => ⟨_, _, _, rfl⟩) HS2.out.any HG.out
      | false =>
        have HC := Lib.hid (numbers52 wr b gL L q2 ⟨#[110, 111, 114, 109, 97, 108]⟩ 3 (by decide) false HS2.out HLr.out)
        go_wp2_with fail
        refine HC.out.mono ?_
        clear HC c2 cl
        rintro e W1 ⟨v, ns, rfl, hnl, hni, hN, hG1, hst⟩
        obtain ⟨x, y, z, rfl⟩ : ∃ x y z, ns = [x, y, z] := by
          match ns, hnl with
          | [x, y, z], _ => exact ⟨x, y, z, rfl⟩
        obtain ⟨oa, cap, rfl, hcap, hs⟩ := hN.now
        obtain ⟨g, off, rfl, hra⟩ := hs (by simp [pvals])
        have x0 : W1.cell? ⟨g, off, none⟩ = some (.int .i64 x) := hra.c 0 _ rfl 0 _ rfl
        have x1 : W1.cell? ⟨g, off + 1, none⟩ = some (.int .i64 y) := hra.c 1 _ rfl 0 _ rfl
        have x2 : W1.cell? ⟨g, off + 2, none⟩ = some (.int .i64 z) := hra.c 2 _ rfl 0 _ rfl
        have glt := hra.lt
        have HG1 := Lib.hid (grown_trans HG.out hG1)
        have HRow1 := Lib.hid (HRow.out.keep (grown_ag hG1 _ hlt0))
        -- the state behind the line
        have HST : Hid (∃ q3 bd3, RfS W1 b gL L q3 bd3 ∧ (bd3 = false → Fm.RepAt Fm.rdNormal n q (k + 1) (xs ++ [(x, y, z)]) q3 ∧ bad = false) ∧ (bd3 = true → o = none)) := Lib.hid (by
          obtain ⟨hR1, hbf⟩ := HR.out (by first | rfl | trivial)
          cases hq : Fm.rdN Fm.kwNormal 3 q2 with
          | none =>
            rw [show Fm.rdN (⟨#[110, 111, 114, 109, 97, 108]⟩ : ByteArray).data.toList 3 q2 = none from hq] at hst
            exact ⟨[], true, hst.2, nofun, fun _ => (HO0.out hbf).symm.trans (hR1.none hlt (Fm.rdNormal_none hq))⟩
          | some p =>
            obtain ⟨m, r⟩ := p
            rw [show Fm.rdN (⟨#[110, 111, 114, 109, 97, 108]⟩ : ByteArray).data.toList 3 q2 = some (m, r) from hq] at hst
            obtain ⟨rfl, hst⟩ := hst
            exact ⟨r, false, hst, fun _ => ⟨hR1.step hlt (Fm.rdNormal_some hq), hbf⟩, nofun⟩)
        clear hN hG1 hs hra HRow HR HG HLr hst hcap
        go_upto_region 6 with fail
        have HX0 : Hid (∀ X, Below W1.heap.size W1 X → X.cell? ⟨g, off, none⟩ = some (.int .i64 x)) := Lib.hid (fun X h => (h.cell (p := ⟨g, off, none⟩) glt).trans x0)
        have HX1 : Hid (∀ X, Below W1.heap.size W1 X → X.cell? ⟨g, off + 1, none⟩ = some (.int .i64 y)) := Lib.hid (fun X h => (h.cell (p := ⟨g, off + 1, none⟩) glt).trans x1)
        have HX2 : Hid (∀ X, Below W1.heap.size W1 X → X.cell? ⟨g, off + 2, none⟩ = some (.int .i64 z)) := Lib.hid (fun X h => (h.cell (p := ⟨g, off + 2, none⟩) glt).trans x2)
        have HRL : Hid (∀ rows : List (List Value), rows.length = xs.length → rows.length + 1 ≤ 1048576) := Lib.hid (fun rows h => by have := HXK.out; omega)
        clear x0 x1 x2
        refine wp_region_inv (by kernel_rfl) (by kernel_rfl) (NmJ g off cap W.heap.size x y z xs u5 (Value.pointer (some ⟨b, 0, none⟩)) (Value.int IntKind.i64 ((n : Nat) : Int)) undef undef (Value.slice none 0 0) (Value.int IntKind.i64 ((k : Nat) : Int)) (Value.int IntKind.i64 ((k : Nat) : Int)) (Value.int IntKind.i64 ((n : Nat) : Int)) (Value.bool true) (Value.bool true) (Value.pointer (some ⟨b, 0, none⟩)) (Value.pointer (some ⟨b, 0, none⟩)) (Value.pointer (some ⟨b, 2, none⟩)) (Value.bool false) (Value.bool true) (Value.bool true) u18 u19 (Value.pointer (some ⟨b, 0, none⟩)) (Value.slice (some ⟨g, off, none⟩) 3 cap) undef W1) ?_ ?_ ?_
        · exact ⟨_, _, _, _, _, _, _, _, _, _, _, _, _, _, rfl, ⟨⟨fun _ => below_drew W1 1, fun _ => rfl⟩, nofun, nofun, nofun, nofun, nofun, nofun, nofun, nofun, nofun, nofun, nofun, nofun, nofun, nofun, nofun, nofun, nofun, nofun, nofun, nofun, nofun, nofun, nofun, nofun, nofun, nofun, nofun⟩⟩
        · intro iq oq ho L a w hL hd hJ
          obtain ⟨v5, v22, v23, v24, v25, v26, v27, v28, v29, v30, v31, v32, v33, v34, rfl, k⟩ := hJ
          have hiq : iq < 14 := by have := (Array.getElem?_eq_some_iff.1 ho).1; simpa using this
          match iq, hiq, ho, hL with
          | 0, _, ho, hL =>
            have ho2 := ho
            simp only [List.getElem?_toArray, List.getElem?_cons_zero, List.getElem?_cons_succ, Option.some.injEq] at ho
            subst ho
            refine wpOp_step ho2 (fun K hK => ?_)
            have h13 : L 13 = false := by
              cases h : L 13 with
              | false => rfl
              | true => exact absurd (hL.symm.trans (k.c12_0 (k.c13_12 h))) (by decide)
            obtain rfl := k.wf.2 h13
            go_simp
            exact hK _ _ ⟨_, _, _, _, _, _, _, _, _, _, _, _, _, _, rfl, ⟨k.wf, fun _ => rfl, k.f1, k.f2, k.f3, k.f4, k.f5, k.f6, k.f7, k.f8, k.f9, k.f10, k.f11, k.f12, k.f13, fun h => up_or (k.c2_1 h), fun h => up_or (k.c3_2 h), fun h => up_or (k.c5_4 h), fun h => up_or (k.c6_5 h), fun h => up_or (k.c8_7 h), fun h => up_or (k.c9_8 h), fun h => up_or (k.c10_3 h), fun h => up_or (k.c10_6 h), fun h => up_or (k.c10_9 h), fun h => up_or (k.c11_10 h), fun h => up_or (k.c12_0 h), fun h => up_or (k.c12_11 h), fun h => up_or (k.c13_12 h)⟩⟩
          | 1, _, ho, hL =>
            have ho2 := ho
            simp only [List.getElem?_toArray, List.getElem?_cons_zero, List.getElem?_cons_succ, Option.some.injEq] at ho
            subst ho
            refine wpOp_step ho2 (fun K hK => ?_)
            go_simp
            exact hK _ _ ⟨_, _, _, _, _, _, _, _, _, _, _, _, _, _, rfl, ⟨k.wf, k.f0, fun _ => rfl, k.f2, k.f3, k.f4, k.f5, k.f6, k.f7, k.f8, k.f9, k.f10, k.f11, k.f12, k.f13, fun h => up_or (k.c2_1 h), fun h => up_or (k.c3_2 h), fun h => up_or (k.c5_4 h), fun h => up_or (k.c6_5 h), fun h => up_or (k.c8_7 h), fun h => up_or (k.c9_8 h), fun h => up_or (k.c10_3 h), fun h => up_or (k.c10_6 h), fun h => up_or (k.c10_9 h), fun h => up_or (k.c11_10 h), fun h => up_or (k.c12_0 h), fun h => up_or (k.c12_11 h), fun h => up_or (k.c13_12 h)⟩⟩
          | 2, _, ho, hL =>
            have ho2 := ho
            simp only [List.getElem?_toArray, List.getElem?_cons_zero, List.getElem?_cons_succ, Option.some.injEq] at ho
            subst ho
            refine wpOp_step ho2 (fun K hK => ?_)
            obtain rfl := k.f1 (hd ⟨1, .data⟩ (by simp) rfl)
            go_simp
            exact hK _ _ ⟨_, _, _, _, _, _, _, _, _, _, _, _, _, _, rfl, ⟨k.wf, k.f0, k.f1, fun _ => rfl, k.f3, k.f4, k.f5, k.f6, k.f7, k.f8, k.f9, k.f10, k.f11, k.f12, k.f13, fun _ => up_or (hd ⟨1, .data⟩ (by simp) rfl), fun h => up_or (k.c3_2 h), fun h => up_or (k.c5_4 h), fun h => up_or (k.c6_5 h), fun h => up_or (k.c8_7 h), fun h => up_or (k.c9_8 h), fun h => up_or (k.c10_3 h), fun h => up_or (k.c10_6 h), fun h => up_or (k.c10_9 h), fun h => up_or (k.c11_10 h), fun h => up_or (k.c12_0 h), fun h => up_or (k.c12_11 h), fun h => up_or (k.c13_12 h)⟩⟩
          | 3, _, ho, hL =>
            have ho2 := ho
            simp only [List.getElem?_toArray, List.getElem?_cons_zero, List.getElem?_cons_succ, Option.some.injEq] at ho
            subst ho
            refine wpOp_step ho2 (fun K hK => ?_)
            obtain rfl := k.f2 (hd ⟨2, .data⟩ (by simp) rfl)
            have h12 : L 12 = false := by
              cases h : L 12 with
              | false => rfl
              | true => exact absurd (hL.symm.trans (k.c10_3 (k.c11_10 (k.c12_11 h)))) (by decide)
            have xx := HX0.out w (k.wf.1 h12)
            have gw := Nat.lt_of_lt_of_le glt (k.wf.1 h12).size
            go_simp
            exact hK _ _ ⟨_, _, _, _, _, _, _, _, _, _, _, _, _, _, rfl, ⟨k.wf, k.f0, k.f1, k.f2, fun _ => rfl, k.f4, k.f5, k.f6, k.f7, k.f8, k.f9, k.f10, k.f11, k.f12, k.f13, fun h => up_or (k.c2_1 h), fun _ => up_or (hd ⟨2, .data⟩ (by simp) rfl), fun h => up_or (k.c5_4 h), fun h => up_or (k.c6_5 h), fun h => up_or (k.c8_7 h), fun h => up_or (k.c9_8 h), fun h => up_or (k.c10_3 h), fun h => up_or (k.c10_6 h), fun h => up_or (k.c10_9 h), fun h => up_or (k.c11_10 h), fun h => up_or (k.c12_0 h), fun h => up_or (k.c12_11 h), fun h => up_or (k.c13_12 h)⟩⟩
          | 4, _, ho, hL =>
            have ho2 := ho
            simp only [List.getElem?_toArray, List.getElem?_cons_zero, List.getElem?_cons_succ, Option.some.injEq] at ho
            subst ho
            refine wpOp_step ho2 (fun K hK => ?_)
            go_simp
            exact hK _ _ ⟨_, _, _, _, _, _, _, _, _, _, _, _, _, _, rfl, ⟨k.wf, k.f0, k.f1, k.f2, k.f3, fun _ => rfl, k.f5, k.f6, k.f7, k.f8, k.f9, k.f10, k.f11, k.f12, k.f13, fun h => up_or (k.c2_1 h), fun h => up_or (k.c3_2 h), fun h => up_or (k.c5_4 h), fun h => up_or (k.c6_5 h), fun h => up_or (k.c8_7 h), fun h => up_or (k.c9_8 h), fun h => up_or (k.c10_3 h), fun h => up_or (k.c10_6 h), fun h => up_or (k.c10_9 h), fun h => up_or (k.c11_10 h), fun h => up_or (k.c12_0 h), fun h => up_or (k.c12_11 h), fun h => up_or (k.c13_12 h)⟩⟩
          | 5, _, ho, hL =>
            have ho2 := ho
            simp only [List.getElem?_toArray, List.getElem?_cons_zero, List.getElem?_cons_succ, Option.some.injEq] at ho
            subst ho
            refine wpOp_step ho2 (fun K hK => ?_)
            obtain rfl := k.f4 (hd ⟨4, .data⟩ (by simp) rfl)
            go_simp
            exact hK _ _ ⟨_, _, _, _, _, _, _, _, _, _, _, _, _, _, rfl, ⟨k.wf, k.f0, k.f1, k.f2, k.f3, k.f4, fun _ => rfl, k.f6, k.f7, k.f8, k.f9, k.f10, k.f11, k.f12, k.f13, fun h => up_or (k.c2_1 h), fun h => up_or (k.c3_2 h), fun _ => up_or (hd ⟨4, .data⟩ (by simp) rfl), fun h => up_or (k.c6_5 h), fun h => up_or (k.c8_7 h), fun h => up_or (k.c9_8 h), fun h => up_or (k.c10_3 h), fun h => up_or (k.c10_6 h), fun h => up_or (k.c10_9 h), fun h => up_or (k.c11_10 h), fun h => up_or (k.c12_0 h), fun h => up_or (k.c12_11 h), fun h => up_or (k.c13_12 h)⟩⟩
          | 6, _, ho, hL =>
            have ho2 := ho
            simp only [List.getElem?_toArray, List.getElem?_cons_zero, List.getElem?_cons_succ, Option.some.injEq] at ho
            subst ho
            refine wpOp_step ho2 (fun K hK => ?_)
            obtain rfl := k.f5 (hd ⟨5, .data⟩ (by simp) rfl)
            have h12 : L 12 = false := by
              cases h : L 12 with
              | false => rfl
              | true => exact absurd (hL.symm.trans (k.c10_6 (k.c11_10 (k.c12_11 h)))) (by decide)
            have xx := HX1.out w (k.wf.1 h12)
            have gw := Nat.lt_of_lt_of_le glt (k.wf.1 h12).size
            go_simp
            exact hK _ _ ⟨_, _, _, _, _, _, _, _, _, _, _, _, _, _, rfl, ⟨k.wf, k.f0, k.f1, k.f2, k.f3, k.f4, k.f5, fun _ => rfl, k.f7, k.f8, k.f9, k.f10, k.f11, k.f12, k.f13, fun h => up_or (k.c2_1 h), fun h => up_or (k.c3_2 h), fun h => up_or (k.c5_4 h), fun _ => up_or (hd ⟨5, .data⟩ (by simp) rfl), fun h => up_or (k.c8_7 h), fun h => up_or (k.c9_8 h), fun h => up_or (k.c10_3 h), fun h => up_or (k.c10_6 h), fun h => up_or (k.c10_9 h), fun h => up_or (k.c11_10 h), fun h => up_or (k.c12_0 h), fun h => up_or (k.c12_11 h), fun h => up_or (k.c13_12 h)⟩⟩
          | 7, _, ho, hL =>
            have ho2 := ho
            simp only [List.getElem?_toArray, List.getElem?_cons_zero, List.getElem?_cons_succ, Option.some.injEq] at ho
            subst ho
            refine wpOp_step ho2 (fun K hK => ?_)
            go_simp
            exact hK _ _ ⟨_, _, _, _, _, _, _, _, _, _, _, _, _, _, rfl, ⟨k.wf, k.f0, k.f1, k.f2, k.f3, k.f4, k.f5, k.f6, fun _ => rfl, k.f8, k.f9, k.f10, k.f11, k.f12, k.f13, fun h => up_or (k.c2_1 h), fun h => up_or (k.c3_2 h), fun h => up_or (k.c5_4 h), fun h => up_or (k.c6_5 h), fun h => up_or (k.c8_7 h), fun h => up_or (k.c9_8 h), fun h => up_or (k.c10_3 h), fun h => up_or (k.c10_6 h), fun h => up_or (k.c10_9 h), fun h => up_or (k.c11_10 h), fun h => up_or (k.c12_0 h), fun h => up_or (k.c12_11 h), fun h => up_or (k.c13_12 h)⟩⟩
          | 8, _, ho, hL =>
            have ho2 := ho
            simp only [List.getElem?_toArray, List.getElem?_cons_zero, List.getElem?_cons_succ, Option.some.injEq] at ho
            subst ho
            refine wpOp_step ho2 (fun K hK => ?_)
            obtain rfl := k.f7 (hd ⟨7, .data⟩ (by simp) rfl)
            go_simp
            exact hK _ _ ⟨_, _, _, _, _, _, _, _, _, _, _, _, _, _, rfl, ⟨k.wf, k.f0, k.f1, k.f2, k.f3, k.f4, k.f5, k.f6, k.f7, fun _ => rfl, k.f9, k.f10, k.f11, k.f12, k.f13, fun h => up_or (k.c2_1 h), fun h => up_or (k.c3_2 h), fun h => up_or (k.c5_4 h), fun h => up_or (k.c6_5 h), fun _ => up_or (hd ⟨7, .data⟩ (by simp) rfl), fun h => up_or (k.c9_8 h), fun h => up_or (k.c10_3 h), fun h => up_or (k.c10_6 h), fun h => up_or (k.c10_9 h), fun h => up_or (k.c11_10 h), fun h => up_or (k.c12_0 h), fun h => up_or (k.c12_11 h), fun h => up_or (k.c13_12 h)⟩⟩
          | 9, _, ho, hL =>
            have ho2 := ho
            simp only [List.getElem?_toArray, List.getElem?_cons_zero, List.getElem?_cons_succ, Option.some.injEq] at ho
            subst ho
            refine wpOp_step ho2 (fun K hK => ?_)
            obtain rfl := k.f8 (hd ⟨8, .data⟩ (by simp) rfl)
            have h12 : L 12 = false := by
              cases h : L 12 with
              | false => rfl
              | true => exact absurd (hL.symm.trans (k.c10_9 (k.c11_10 (k.c12_11 h)))) (by decide)
            have xx := HX2.out w (k.wf.1 h12)
            have gw := Nat.lt_of_lt_of_le glt (k.wf.1 h12).size
            go_simp
            exact hK _ _ ⟨_, _, _, _, _, _, _, _, _, _, _, _, _, _, rfl, ⟨k.wf, k.f0, k.f1, k.f2, k.f3, k.f4, k.f5, k.f6, k.f7, k.f8, fun _ => rfl, k.f10, k.f11, k.f12, k.f13, fun h => up_or (k.c2_1 h), fun h => up_or (k.c3_2 h), fun h => up_or (k.c5_4 h), fun h => up_or (k.c6_5 h), fun h => up_or (k.c8_7 h), fun _ => up_or (hd ⟨8, .data⟩ (by simp) rfl), fun h => up_or (k.c10_3 h), fun h => up_or (k.c10_6 h), fun h => up_or (k.c10_9 h), fun h => up_or (k.c11_10 h), fun h => up_or (k.c12_0 h), fun h => up_or (k.c12_11 h), fun h => up_or (k.c13_12 h)⟩⟩
          | 10, _, ho, hL =>
            have ho2 := ho
            simp only [List.getElem?_toArray, List.getElem?_cons_zero, List.getElem?_cons_succ, Option.some.injEq] at ho
            subst ho
            refine wpOp_step ho2 (fun K hK => ?_)
            obtain rfl := k.f3 (hd ⟨3, .data⟩ (by simp) rfl)
            obtain rfl := k.f6 (hd ⟨6, .data⟩ (by simp) rfl)
            obtain rfl := k.f9 (hd ⟨9, .data⟩ (by simp) rfl)
            go_simp
            exact hK _ _ ⟨_, _, _, _, _, _, _, _, _, _, _, _, _, _, rfl, ⟨k.wf, k.f0, k.f1, k.f2, k.f3, k.f4, k.f5, k.f6, k.f7, k.f8, k.f9, fun _ => rfl, k.f11, k.f12, k.f13, fun h => up_or (k.c2_1 h), fun h => up_or (k.c3_2 h), fun h => up_or (k.c5_4 h), fun h => up_or (k.c6_5 h), fun h => up_or (k.c8_7 h), fun h => up_or (k.c9_8 h), fun _ => up_or (hd ⟨3, .data⟩ (by simp) rfl), fun _ => up_or (hd ⟨6, .data⟩ (by simp) rfl), fun _ => up_or (hd ⟨9, .data⟩ (by simp) rfl), fun h => up_or (k.c11_10 h), fun h => up_or (k.c12_0 h), fun h => up_or (k.c12_11 h), fun h => up_or (k.c13_12 h)⟩⟩
          | 11, _, ho, hL =>
            have ho2 := ho
            simp only [List.getElem?_toArray, List.getElem?_cons_zero, List.getElem?_cons_succ, Option.some.injEq] at ho
            subst ho
            refine wpOp_step ho2 (fun K hK => ?_)
            obtain rfl := k.f10 (hd ⟨10, .data⟩ (by simp) rfl)
            have h12 : L 12 = false := by
              cases h : L 12 with
              | false => rfl
              | true => exact absurd (hL.symm.trans (k.c12_11 h)) (by decide)
            have hb : Below w.heap.size w (w.alloc (.cells #[.int .i64 x, .int .i64 y, .int .i64 z] 38)) := (Below.refl _ _).alloc (Nat.le_refl _) _
            have hbx := Bx.new w [.int .i64 x, .int .i64 y, .int .i64 z] 38
            go_simp
            exact hK _ _ ⟨_, _, _, _, _, _, _, _, _, _, _, _, _, _, rfl, ⟨⟨fun h => below_call (k.wf.1 h) hb, k.wf.2⟩, k.f0, k.f1, k.f2, k.f3, k.f4, k.f5, k.f6, k.f7, k.f8, k.f9, k.f10, fun _ _ => ⟨w.heap.size, rfl, hbx⟩, fun h => absurd (h12.symm.trans h) (by decide), k.f13, fun h => up_or (k.c2_1 h), fun h => up_or (k.c3_2 h), fun h => up_or (k.c5_4 h), fun h => up_or (k.c6_5 h), fun h => up_or (k.c8_7 h), fun h => up_or (k.c9_8 h), fun h => up_or (k.c10_3 h), fun h => up_or (k.c10_6 h), fun h => up_or (k.c10_9 h), fun _ => up_or (hd ⟨10, .data⟩ (by simp) rfl), fun h => up_or (k.c12_0 h), fun h => up_or (k.c12_11 h), fun h => up_or (k.c13_12 h)⟩⟩
          | 12, _, ho, hL =>
            have ho2 := ho
            simp only [List.getElem?_toArray, List.getElem?_cons_zero, List.getElem?_cons_succ, Option.some.injEq] at ho
            subst ho
            refine wpOp_step ho2 (fun K hK => ?_)
            obtain rfl := k.f0 (hd ⟨0, .data⟩ (by simp) rfl)
            obtain ⟨g4, rfl, hbx⟩ := k.f11 (hd ⟨11, .data⟩ (by simp) rfl) hL
            have hb := k.wf.1 hL
            obtain ⟨rows, hV0⟩ := HRow1.out.ex
            have hV := hV0.keep (AgI.of hb)
            have hrl := HRL.out rows hV0.len
            have hlx : W.heap.size ≤ w.heap.size := Nat.le_trans HG1.out.size hb.size
            obtain ⟨i0, hi0, hz0, hz1, hz2⟩ := info_parts info38
            refine step_append_lies _ rfl (.tmp 22) (.tmp 33) 49 rfl W.heap.size 38 i0 (.agg #[.int .i64 0, .int .i64 0, .int .i64 0]) 3 24 under49 hi0 hz0 hz1 hz2 rfl (by decide) _ rows.length rows.flatten (by simp [Act.eval]) hV.own ⟨g4, 0, none⟩ 1 1 [.int .i64 x, .int .i64 y, .int .i64 z] (by simp [Act.eval]) rfl (World.news_of_block hbx.h) (by intro u hu; simp at hu; rcases hu with rfl | rfl | rfl <;> rfl) (by decide) (by unfold maxLen; omega) (by omega) hlx _ rfl ?_
            intro gN cN X hown hgrow hat hltN
            have hrow : RowO VecD 38 3 W.heap.size X (.slice (some ⟨gN, 0, none⟩) (rows.length + 1) cN) (xs ++ [(x, y, z)]) := hV0.app (AgI.of hb) (fun _ _ => rfl) rfl (Below.refl _ _) hown hgrow (hat.elim (fun e => .inl e.symm) (fun e => .inr (by rw [e]; rfl))) HG1.out.size
            have hbX : Below W.heap.size W1 X := (hb.mono HG1.out.size).trans (grown_below hV.own hgrow hlx)
            exact hK _ _ ⟨_, _, _, _, _, _, _, _, _, _, _, _, _, _, rfl, ⟨⟨nofun, k.wf.2⟩, k.f0, k.f1, k.f2, k.f3, k.f4, k.f5, k.f6, k.f7, k.f8, k.f9, k.f10, fun _ => nofun, fun _ => ⟨hrow, hbX⟩, fun h => absurd (hL.symm.trans (k.c13_12 h)) (by decide), fun h => up_or (k.c2_1 h), fun h => up_or (k.c3_2 h), fun h => up_or (k.c5_4 h), fun h => up_or (k.c6_5 h), fun h => up_or (k.c8_7 h), fun h => up_or (k.c9_8 h), fun h => up_or (k.c10_3 h), fun h => up_or (k.c10_6 h), fun h => up_or (k.c10_9 h), fun h => up_or (k.c11_10 h), fun _ => up_or (hd ⟨0, .data⟩ (by simp) rfl), fun _ => up_or (hd ⟨11, .data⟩ (by simp) rfl), fun h => up_or (k.c13_12 h)⟩⟩
          | 13, _, ho, hL =>
            have ho2 := ho
            simp only [List.getElem?_toArray, List.getElem?_cons_zero, List.getElem?_cons_succ, Option.some.injEq] at ho
            subst ho
            refine wpOp_step ho2 (fun K hK => ?_)
            have h12 := k.f12 (hd ⟨12, .data⟩ (by simp) rfl)
            go_simp
            exact hK _ _ ⟨_, _, _, _, _, _, _, _, _, _, _, _, _, _, rfl, ⟨⟨k.wf.1, nofun⟩, k.f0, k.f1, k.f2, k.f3, k.f4, k.f5, k.f6, k.f7, k.f8, k.f9, k.f10, k.f11, k.f12, fun _ => rfl, fun h => up_or (k.c2_1 h), fun h => up_or (k.c3_2 h), fun h => up_or (k.c5_4 h), fun h => up_or (k.c6_5 h), fun h => up_or (k.c8_7 h), fun h => up_or (k.c9_8 h), fun h => up_or (k.c10_3 h), fun h => up_or (k.c10_6 h), fun h => up_or (k.c10_9 h), fun h => up_or (k.c11_10 h), fun h => up_or (k.c12_0 h), fun h => up_or (k.c12_11 h), fun _ => up_or (hd ⟨12, .data⟩ (by simp) rfl)⟩⟩
          | n + 14, h, _, _ => omega
        · intro L a w hL hJ
          obtain ⟨v5, v22, v23, v24, v25, v26, v27, v28, v29, v30, v31, v32, v33, v34, rfl, k⟩ := hJ
          obtain ⟨hr12, hb12⟩ := k.f12 (hL 12 (by decide))
          obtain rfl := k.f13 (hL 13 (by decide))
          dsimp only
          have HR2 := Lib.hid hr12
          have HBW := Lib.hid hb12
          have HG3 := Lib.hid (grown_low2 HG1.out hb12 (Nat.le_refl _))
          clear hr12 hb12 k hL
          go_wp2_with fail
          obtain ⟨q3, bd3, hS3, hR3, hB3⟩ := HST.out
          have HS3 := Lib.hid (hS3.keepA HBW.out hlt0 hltg)
          have HR3 := Lib.hid hR3
          have HB3 := Lib.hid hB3
          clear hS3 hR3 hB3
          go_roundw
          case rel => exact ⟨k + 1, _, q3, bd3, by omega, by simp, by rw [List.length_append, HXK.out]; rfl, HR2.out, HS3.out, HG3.out, HR3.out, HB3.out⟩
          case measure => simp [intOf]; omega
    · have hke : k = n := by omega
      subst hke
      have hd : decide ((k : Int) < (k : Int)) = false := decide_eq_false (by omega)
      obtain ⟨oa, cap, rfl, hdn, -, -⟩ := HRow.out.done
      have HDN := Lib.hid hdn
      clear hdn c2 cl
      go_wp2
      go_ret
      cases bd with
      | true => exact RrP.mkno (HBD.out (by first | rfl | trivial)) (fun _ _ => ⟨_, _, _, rfl⟩) HS2.out.any HG.out
      | false =>
        obtain ⟨hR1, hbf⟩ := HR.out (by first | rfl | trivial)
        refine RrP.mk (x := xs) (r := q2) ((HO0.out hbf).symm.trans hR1.done) (fun X hX => ⟨oa, cap, ?_, HDN.out X hX⟩) HS2.out HG.out
        first | rfl | rw [HXK.out]
end Go.Proofs.Ng
