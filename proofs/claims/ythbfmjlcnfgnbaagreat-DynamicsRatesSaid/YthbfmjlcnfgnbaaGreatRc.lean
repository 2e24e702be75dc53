/-
  Walks: the reference's wide numbers.
-/
import Derived.Test.YthbfmjlcnfgnbaaGreatRb
namespace Go.Proofs.En
open Go.RowKit

def absI (p : Int) : Int := if p < 0 then -p else p
theorem absI_neg {p : Int} (h : p < 0) : absI p = -p := if_pos h
theorem absI_pos {p : Int} (h : 0 ≤ p) : absI p = p := if_neg (by omega)

theorem mag_neg (a : Int) (w : World) (h1 : -9223372036854775808 ≤ a) (h : a < 0) :
    Calls Tryz.prog 90 #[.int .i64 a] w fun e w' => e = .returned (.int .u64 (-a)) ∧ w = w' := by
  have e1 : IntKind.u64.wrap (0 - IntKind.u64.wrap a) = -a := by simp only [IntKind.wrap_u64]; omega
  have E1 := Lib.hid e1
  clear e1
  go_enter Tryz.func90, Tryz.ntmps90
  go_wp2
  go_ret
  exact ⟨ret_int (by have := E1.out; first | exact this | (simp only [IntKind.wrap_u64] at this ⊢; omega)), rfl⟩
theorem mag_pos (a : Int) (w : World) (h1 : a ≤ 9223372036854775807) (h : 0 ≤ a) :
    Calls Tryz.prog 90 #[.int .i64 a] w fun e w' => e = .returned (.int .u64 a) ∧ w = w' := by
  go_enter Tryz.func90, Tryz.ntmps90
  go_wp2
  go_ret
  exact ⟨rfl, rfl⟩
theorem mag_any (a : Int) (w : World) (h1 : -9223372036854775808 ≤ a) (h2 : a ≤ 9223372036854775807) :
    Calls Tryz.prog 90 #[.int .i64 a] w fun e w' => e = .returned (.int .u64 (absI a)) ∧ w = w' := by
  by_cases h : a < 0
  · rw [absI_neg h]; exact mag_neg a w h1 h
  · rw [absI_pos (by omega)]; exact mag_pos a w h2 (by omega)

/-- A wide number, as it lies in memory. -/
def WideP (g : Int) (w : World) (e : Ending) (w' : World) : Prop := e = .returned (.agg #[.bool (decide (g < 0)), .int .u64 (absI g / 18446744073709551616), .int .u64 (absI g % 18446744073709551616)]) ∧ Below w.heap.size w w'
theorem wideP_mk {g H L : Int} {n : Bool} {w w' : World} (h1 : n = decide (g < 0)) (h2 : H = absI g / 18446744073709551616) (h3 : L = absI g % 18446744073709551616) (hb : Below w.heap.size w w') :
    WideP g w (.returned (.agg #[.bool n, .int .u64 H, .int .u64 L])) w' := by subst h1 h2 h3; exact ⟨rfl, hb⟩

theorem or_pos (x y : Int) (h1 : 0 ≤ x) (h2 : x ≤ 18446744073709551615) (h3 : 0 ≤ y) (h4 : y ≤ 18446744073709551615) : decide (0 < bits .or .u64 x y) = decide (0 < x + y) := by
  obtain ⟨X, rfl⟩ := Int.eq_ofNat_of_zero_le h1
  obtain ⟨Y, rfl⟩ := Int.eq_ofNat_of_zero_le h3
  have e1 : BitVec.ofInt 64 (X : Int) = BitVec.ofNat 64 X := ofInt_cast _ _ (by omega)
  have e2 : BitVec.ofInt 64 (Y : Int) = BitVec.ofNat 64 Y := ofInt_cast _ _ (by omega)
  have e3 : (BitVec.ofNat 64 X ||| BitVec.ofNat 64 Y).toNat = X ||| Y := by
    rw [BitVec.toNat_or, BitVec.toNat_ofNat, BitVec.toNat_ofNat, Nat.mod_eq_of_lt (by omega), Nat.mod_eq_of_lt (by omega)]
  have hx : bits .or .u64 (X : Int) (Y : Int) = IntKind.u64.wrap ((X ||| Y : Nat) : Int) := by
    show IntKind.u64.wrap ((BitVec.ofInt 64 (X : Int) ||| BitVec.ofInt 64 (Y : Int)).toNat : Int) = _
    rw [e1, e2, e3]
  have hlt : X ||| Y < 2 ^ 64 := Nat.or_lt_two_pow (by omega) (by omega)
  rw [hx, IntKind.wrap_u64]
  have hle1 : X ≤ X ||| Y := Nat.left_le_or
  have hle2 : Y ≤ X ||| Y := Nat.right_le_or
  have hz : X = 0 → Y = 0 → X ||| Y = 0 := by rintro rfl rfl; rfl
  generalize X ||| Y = Z at *
  rw [Bool.eq_iff_iff]
  simp only [decide_eq_true_eq]
  constructor
  · intro h
    rcases Nat.eq_zero_or_pos X with hX | hX
    · rcases Nat.eq_zero_or_pos Y with hY | hY
      · have := hz hX hY; omega
      · omega
    · omega
  · intro h; omega
theorem abs_mul (a b : Int) : absI a * absI b = absI (a * b) := by
  unfold absI
  by_cases ha : a < 0
  · by_cases hb : b < 0
    · have := Int.mul_pos_of_neg_of_neg ha hb
      rw [if_pos ha, if_pos hb, if_neg (by omega), Int.neg_mul_neg]
    · rcases (show b = 0 ∨ 0 < b by omega) with rfl | h
      · simp
      · have := Int.mul_neg_of_neg_of_pos ha h
        rw [if_pos ha, if_neg hb, if_pos this, Int.neg_mul]
  · by_cases hb : b < 0
    · rcases (show a = 0 ∨ 0 < a by omega) with rfl | h
      · simp
      · have := Int.mul_neg_of_pos_of_neg h hb
        rw [if_neg ha, if_pos hb, if_pos this, Int.mul_neg]
    · have := Int.mul_nonneg (show 0 ≤ a by omega) (show 0 ≤ b by omega)
      rw [if_neg ha, if_neg hb, if_neg (by omega)]
theorem absI_nn (p : Int) : 0 ≤ absI p := by unfold absI; split <;> omega

set_option maxHeartbeats 1000000 in
theorem times_any (a b : Int) (w : World) (h1 : -9223372036854775808 ≤ a) (h2 : a ≤ 9223372036854775807) (h3 : -9223372036854775808 ≤ b) (h4 : b ≤ 9223372036854775807) :
    Calls Tryz.prog 55 #[.int .i64 a, .int .i64 b] w (WideP (a * b) w) := by
  have hM := abs_mul a b
  have hbd := mul_bd (A := 9223372036854775808) (B := 9223372036854775808) (a := a) (b := b) (by omega) (by omega) (by omega) (by omega)
  have x0 := absI_nn a
  have x1 : absI a ≤ 18446744073709551615 := by unfold absI; split <;> omega
  have y0 := absI_nn b
  have y1 : absI b ≤ 18446744073709551615 := by unfold absI; split <;> omega
  have hor := or_pos (absI a * absI b / 18446744073709551616) (absI a * absI b % 18446744073709551616) (by rw [hM]; have := absI_nn (a * b); omega) (by rw [hM]; unfold absI; split <;> omega) (by omega) (by omega)
  have hz : decide (0 < absI a * absI b / 18446744073709551616 + absI a * absI b % 18446744073709551616) = decide (a * b ≠ 0) := by
    rw [hM, Bool.eq_iff_iff]; simp only [decide_eq_true_eq]; unfold absI; split <;> omega
  rw [hz] at hor
  have hsg : (decide (a < 0) != decide (b < 0)) = true → decide (a * b ≠ 0) = decide (a * b < 0) := by
    intro h
    rw [Bool.eq_iff_iff]; simp only [decide_eq_true_eq]
    by_cases ha : a < 0
    · by_cases hb : b < 0
      · simp [ha, hb] at h
      · have := Int.mul_nonneg (show 0 ≤ -a by omega) (show 0 ≤ b by omega)
        rw [Int.neg_mul] at this
        omega
    · by_cases hb : b < 0
      · have := Int.mul_nonneg (show 0 ≤ a by omega) (show 0 ≤ -b by omega)
        rw [Int.mul_neg] at this
        omega
      · simp [ha, hb] at h
  have hsg2 : (decide (a < 0) != decide (b < 0)) = false → decide (a * b < 0) = false := by
    intro h
    simp only [decide_eq_false_iff_not]
    by_cases ha : a < 0
    · by_cases hb : b < 0
      · have := Int.mul_pos_of_neg_of_neg ha hb; omega
      · simp [ha, hb] at h
    · by_cases hb : b < 0
      · simp [ha, hb] at h
      · have := Int.mul_nonneg (show 0 ≤ a by omega) (show 0 ≤ b by omega); omega
  generalize hX : absI a * absI b / 18446744073709551616 = X at hor
  generalize hY : absI a * absI b % 18446744073709551616 = Y at hor
  have HX := Lib.hid (hX.symm.trans (by rw [hM] : absI a * absI b / 18446744073709551616 = absI (a * b) / 18446744073709551616))
  have HY := Lib.hid (hY.symm.trans (by rw [hM] : absI a * absI b % 18446744073709551616 = absI (a * b) % 18446744073709551616))
  have HXe := Lib.hid hX
  have HYe := Lib.hid hY
  generalize decide (a * b ≠ 0) = z at hor hsg
  have HS := Lib.hid hsg
  have HS2 := Lib.hid hsg2
  clear hM hbd hX hY hz hsg hsg2
  by_cases ha : a < 0
  · by_cases hb : b < 0
    · have da : decide (a < 0) = true := by simp; omega
      have db : decide (b < 0) = true := by simp; omega
      go_enter Tryz.func55, Tryz.ntmps55
      go_wp2_with fail
      refine (mag_any _ _ h1 h2).mono ?_
      rintro e w1 ⟨rfl, rfl⟩
      go_wp2_with fail
      refine (mag_any _ _ h3 h4).mono ?_
      rintro e w1 ⟨rfl, rfl⟩
      go_wp2_with fail
      refine (mul64_any _ _ _ x0 x1 y0 y1).mono ?_
      rintro e w1 ⟨rfl, rfl⟩
      rw [HXe.out, HYe.out]
      go_wp2
      refine bodyPost_ret (v := .agg #[.bool false, .int .u64 X, .int .u64 Y]) (by simp [results, Tryz.results55, go_sem]) rfl (wideP_mk ?_ HX.out HY.out ((Below.refl _ _).alloc (Nat.le_refl _) _))
      exact (HS2.out (by rw [da, db]; rfl)).symm
    · have da : decide (a < 0) = true := by simp; omega
      have db : decide (b < 0) = false := by simp; omega
      go_enter Tryz.func55, Tryz.ntmps55
      go_wp2_with fail
      refine (mag_any _ _ h1 h2).mono ?_
      rintro e w1 ⟨rfl, rfl⟩
      go_wp2_with fail
      refine (mag_any _ _ h3 h4).mono ?_
      rintro e w1 ⟨rfl, rfl⟩
      go_wp2_with fail
      refine (mul64_any _ _ _ x0 x1 y0 y1).mono ?_
      rintro e w1 ⟨rfl, rfl⟩
      rw [HXe.out, HYe.out]
      go_wp2
      refine bodyPost_ret (v := .agg #[.bool z, .int .u64 X, .int .u64 Y]) (by simp [results, Tryz.results55, go_sem]) rfl (wideP_mk ?_ HX.out HY.out ((Below.refl _ _).alloc (Nat.le_refl _) _))
      exact HS.out (by rw [da, db]; rfl)
  · by_cases hb : b < 0
    · have da : decide (a < 0) = false := by simp; omega
      have db : decide (b < 0) = true := by simp; omega
      go_enter Tryz.func55, Tryz.ntmps55
      go_wp2_with fail
      refine (mag_any _ _ h1 h2).mono ?_
      rintro e w1 ⟨rfl, rfl⟩
      go_wp2_with fail
      refine (mag_any _ _ h3 h4).mono ?_
      rintro e w1 ⟨rfl, rfl⟩
      go_wp2_with fail
      refine (mul64_any _ _ _ x0 x1 y0 y1).mono ?_
      rintro e w1 ⟨rfl, rfl⟩
      rw [HXe.out, HYe.out]
      go_wp2
      refine bodyPost_ret (v := .agg #[.bool z, .int .u64 X, .int .u64 Y]) (by simp [results, Tryz.results55, go_sem]) rfl (wideP_mk ?_ HX.out HY.out ((Below.refl _ _).alloc (Nat.le_refl _) _))
      exact HS.out (by rw [da, db]; rfl)
    · have da : decide (a < 0) = false := by simp; omega
      have db : decide (b < 0) = false := by simp; omega
      go_enter Tryz.func55, Tryz.ntmps55
      go_wp2_with fail
      refine (mag_any _ _ h1 h2).mono ?_
      rintro e w1 ⟨rfl, rfl⟩
      go_wp2_with fail
      refine (mag_any _ _ h3 h4).mono ?_
      rintro e w1 ⟨rfl, rfl⟩
      go_wp2_with fail
      refine (mul64_any _ _ _ x0 x1 y0 y1).mono ?_
      rintro e w1 ⟨rfl, rfl⟩
      rw [HXe.out, HYe.out]
      go_wp2
      refine bodyPost_ret (v := .agg #[.bool false, .int .u64 X, .int .u64 Y]) (by simp [results, Tryz.results55, go_sem]) rfl (wideP_mk ?_ HX.out HY.out ((Below.refl _ _).alloc (Nat.le_refl _) _))
      exact (HS2.out (by rw [da, db]; rfl)).symm

def IntP (g : Int) (w : World) (e : Ending) (w' : World) : Prop :=
  e = .returned (.tuple #[.int .i64 (if absI g ≤ 4611686018427387904 then g else 0), .bool (decide (absI g ≤ 4611686018427387904))]) ∧ Below w.heap.size w w'
theorem intP_mk {g v : Int} {o : Bool} {w w' : World} (h1 : (if absI g ≤ 4611686018427387904 then g else 0) = v) (h2 : decide (absI g ≤ 4611686018427387904) = o) (hb : Below w.heap.size w w') : IntP g w (.returned (.tuple #[.int .i64 v, .bool o])) w' := by
  subst h1 h2; exact ⟨rfl, hb⟩

set_option maxHeartbeats 1000000 in
theorem int_any (g : Int) (w : World) (hg : absI g < 340282366920938463463374607431768211456) :
    Calls Tryz.prog 57 #[.agg #[.bool (decide (g < 0)), .int .u64 (absI g / 18446744073709551616), .int .u64 (absI g % 18446744073709551616)]] w (IntP g w) := by
  have g0 := absI_nn g
  generalize hH : absI g / 18446744073709551616 = H
  generalize hL : absI g % 18446744073709551616 = L
  have l0 : 0 ≤ L := by omega
  have l1 : L ≤ 18446744073709551615 := by omega
  have k0 : 0 ≤ H := by omega
  have HH := Lib.hid hH
  have HL := Lib.hid hL
  have HG : Hid (absI g = if g < 0 then -g else g) := Lib.hid rfl
  clear hH hL g0
  by_cases c1 : 0 < H
  · go_enter Tryz.func57, Tryz.ntmps57
    go_wp2
    go_ret2
    have e1 := HH.out; have e2 := HL.out
    exact intP_mk (if_neg (by omega)) (by simp; omega) ((Below.refl _ _).alloc (Nat.le_refl _) _)
  · have c1' : decide (0 < H) = false := by simp; omega
    by_cases c2 : 4611686018427387904 < L
    · go_enter Tryz.func57, Tryz.ntmps57
      go_wp2
      go_ret2
      have e1 := HH.out; have e2 := HL.out
      exact intP_mk (if_neg (by omega)) (by simp; omega) ((Below.refl _ _).alloc (Nat.le_refl _) _)
    · by_cases c3 : g < 0
      · go_enter Tryz.func57, Tryz.ntmps57
        go_wp2
        go_ret2
        have e1 := HH.out; have e2 := HL.out; have e3 := HG.out
        rw [if_pos c3] at e3
        exact intP_mk (by rw [if_pos (by omega)]; omega) (by simp; omega) ((Below.refl _ _).alloc (Nat.le_refl _) _)
      · go_enter Tryz.func57, Tryz.ntmps57
        go_wp2
        go_ret2
        have e1 := HH.out; have e2 := HL.out; have e3 := HG.out
        rw [if_neg (by omega)] at e3
        exact intP_mk (by rw [if_pos (by omega)]; omega) (by simp; omega) ((Below.refl _ _).alloc (Nat.le_refl _) _)
end Go.Proofs.En
