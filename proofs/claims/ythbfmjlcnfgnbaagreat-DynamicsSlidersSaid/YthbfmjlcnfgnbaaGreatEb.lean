/-
  Walks: products of 128 bits.
-/
import Derived.Test.YthbfmjlcnfgnbaaGreatEa
namespace Go.Proofs.En
open Go.RowKit

theorem mul64_any (x y : Int) (w : World) (hx : 0 ≤ x) (hx' : x ≤ 18446744073709551615) (hy : 0 ≤ y) (hy' : y ≤ 18446744073709551615) :
    Calls Tryz.prog 59 #[.int .u64 x, .int .u64 y] w fun e w' => e = .returned (.tuple #[.int .u64 (x * y / 18446744073709551616), .int .u64 (x * y % 18446744073709551616)]) ∧ w = w' := by
  obtain ⟨n, rfl⟩ := Int.eq_ofNat_of_zero_le hx
  obtain ⟨m, rfl⟩ := Int.eq_ofNat_of_zero_le hy
  refine (Tryz.bits_Mul64 n m (by omega) (by omega) w).mono ?_
  rintro e w' ⟨rfl, rfl⟩
  exact ⟨rfl, rfl⟩

theorem wrap_u (a : Int) (h1 : -9223372036854775808 ≤ a) (h2 : a ≤ 9223372036854775807) : IntKind.u64.wrap a = if a < 0 then a + 18446744073709551616 else a := by
  rw [IntKind.wrap_u64]; split <;> omega

theorem mul_bd {a b A B : Int} (h1 : -A ≤ a) (h2 : a ≤ A) (h3 : -B ≤ b) (h4 : b ≤ B) : -(A * B) ≤ a * b ∧ a * b ≤ A * B := by
  have e1 := Int.mul_nonneg (show 0 ≤ A - a by omega) (show 0 ≤ B - b by omega)
  have e2 := Int.mul_nonneg (show 0 ≤ A + a by omega) (show 0 ≤ B + b by omega)
  have e3 := Int.mul_nonneg (show 0 ≤ A - a by omega) (show 0 ≤ B + b by omega)
  have e4 := Int.mul_nonneg (show 0 ≤ A + a by omega) (show 0 ≤ B - b by omega)
  have x1 : (A - a) * (B - b) = A * B - A * b - a * B + a * b := by simp only [Int.sub_mul, Int.mul_sub]; omega
  have x2 : (A + a) * (B + b) = A * B + A * b + a * B + a * b := by simp only [Int.add_mul, Int.mul_add]; omega
  have x3 : (A - a) * (B + b) = A * B + A * b - a * B - a * b := by simp only [Int.sub_mul, Int.mul_add]; omega
  have x4 : (A + a) * (B - b) = A * B - A * b + a * B - a * b := by simp only [Int.add_mul, Int.mul_sub]; omega
  omega

/-- What the product's upper half comes to in the four cases of signs. -/
theorem hi_nn (a b : Int) (h1 : -9223372036854775808 ≤ a) (h2 : a ≤ 9223372036854775807) (h3 : -9223372036854775808 ≤ b) (h4 : b ≤ 9223372036854775807) :
    -4611686018427387904 ≤ a * b / 18446744073709551616 ∧ a * b / 18446744073709551616 ≤ 4611686018427387904 := by
  have := mul_bd (A := 9223372036854775808) (B := 9223372036854775808) (a := a) (b := b) (by omega) (by omega) (by omega) (by omega)
  omega
theorem prod_n (a y : Int) : (a + 18446744073709551616) * y / 18446744073709551616 = a * y / 18446744073709551616 + y ∧ (a + 18446744073709551616) * y % 18446744073709551616 = a * y % 18446744073709551616 := by
  rw [Int.add_mul]; omega
theorem prod_m (a y : Int) : a * (y + 18446744073709551616) / 18446744073709551616 = a * y / 18446744073709551616 + a ∧ a * (y + 18446744073709551616) % 18446744073709551616 = a * y % 18446744073709551616 := by
  rw [Int.mul_add]; omega

def ProdP (p : Int) (w : World) (e : Ending) (w' : World) : Prop := e = .returned (.agg #[.int .i64 (p / 18446744073709551616), .int .u64 (p % 18446744073709551616)]) ∧ Below w.heap.size w w'

theorem prodP_mk {a b p q : Int} {w w' : World} (h1 : a = p / 18446744073709551616) (h2 : b = p % 18446744073709551616) (h3 : q = p) (hb : Below w.heap.size w w') : ProdP q w (.returned (.agg #[.int .i64 a, .int .u64 b])) w' := by
  subst h1 h2 h3; exact ⟨rfl, hb⟩

set_option maxHeartbeats 1000000 in
theorem multiply_any (a b : Int) (w : World) (h1 : -9223372036854775808 ≤ a) (h2 : a ≤ 9223372036854775807) (h3 : -9223372036854775808 ≤ b) (h4 : b ≤ 9223372036854775807) :
    Calls Tryz.prog 31 #[.int .i64 a, .int .i64 b] w (ProdP (a * b) w) := by
  have ea := wrap_u a h1 h2
  have eb := wrap_u b h3 h4
  have Hbd := Lib.hid (hi_nn a b h1 h2 h3 h4)
  by_cases ha : a < 0
  · rw [if_pos ha] at ea
    have Ea := Lib.hid ea
    clear ea
    by_cases hb : b < 0
    · rw [if_pos hb] at eb
      have Eb := Lib.hid eb
      clear eb
      have P := Lib.hid (And.intro (prod_n a (b + 18446744073709551616)) (prod_m a b))
      go_enter Tryz.func31, Tryz.ntmps31
      go_wp2_with fail
      (try rw [Ea.out]); (try rw [Eb.out])
      refine (mul64_any _ _ _ (by omega) (by omega) (by omega) (by omega)).mono ?_
      rintro e w' ⟨rfl, rfl⟩
      generalize hX : ((a + 18446744073709551616) * (b + 18446744073709551616)) / 18446744073709551616 = X
      generalize hY : ((a + 18446744073709551616) * (b + 18446744073709551616)) % 18446744073709551616 = Y
      have HX := Lib.hid hX
      have HY := Lib.hid hY
      clear hX hY
      go_wp2
      refine bodyPost_ret (v := .agg #[.int .i64 (wrap64 (wrap64 (wrap64 X - b) - a)), .int .u64 Y]) (by simp [results, Tryz.results31, go_sem]) rfl (prodP_mk (p := a * b) ?_ ?_ rfl ?_)
      · have e1 := HX.out; have e2 := P.out; have e3 := Hbd.out
        rw [← e1]; unfold wrap64; omega
      · have e1 := HY.out; have _e2 := P.out
        first | exact e1.symm | (rw [← e1]; omega)
      · exact ((Below.refl _ _).alloc (Nat.le_refl _) _).alloc (by simp) _
    · rw [if_neg hb] at eb
      have Eb := Lib.hid eb
      clear eb
      have P := Lib.hid (prod_n a b)
      go_enter Tryz.func31, Tryz.ntmps31
      go_wp2_with fail
      (try rw [Ea.out]); (try rw [Eb.out])
      refine (mul64_any _ _ _ (by omega) (by omega) (by omega) (by omega)).mono ?_
      rintro e w' ⟨rfl, rfl⟩
      generalize hX : ((a + 18446744073709551616) * b) / 18446744073709551616 = X
      generalize hY : ((a + 18446744073709551616) * b) % 18446744073709551616 = Y
      have HX := Lib.hid hX
      have HY := Lib.hid hY
      clear hX hY
      go_wp2
      refine bodyPost_ret (v := .agg #[.int .i64 (wrap64 (wrap64 X - b)), .int .u64 Y]) (by simp [results, Tryz.results31, go_sem]) rfl (prodP_mk (p := a * b) ?_ ?_ rfl ?_)
      · have e1 := HX.out; have e2 := P.out; have e3 := Hbd.out
        rw [← e1]; unfold wrap64; omega
      · have e1 := HY.out; have _e2 := P.out
        first | exact e1.symm | (rw [← e1]; omega)
      · exact ((Below.refl _ _).alloc (Nat.le_refl _) _).alloc (by simp) _
  · rw [if_neg ha] at ea
    have Ea := Lib.hid ea
    clear ea
    by_cases hb : b < 0
    · rw [if_pos hb] at eb
      have Eb := Lib.hid eb
      clear eb
      have P := Lib.hid (prod_m a b)
      go_enter Tryz.func31, Tryz.ntmps31
      go_wp2_with fail
      (try rw [Ea.out]); (try rw [Eb.out])
      refine (mul64_any _ _ _ (by omega) (by omega) (by omega) (by omega)).mono ?_
      rintro e w' ⟨rfl, rfl⟩
      generalize hX : (a * (b + 18446744073709551616)) / 18446744073709551616 = X
      generalize hY : (a * (b + 18446744073709551616)) % 18446744073709551616 = Y
      have HX := Lib.hid hX
      have HY := Lib.hid hY
      clear hX hY
      go_wp2
      refine bodyPost_ret (v := .agg #[.int .i64 (wrap64 (wrap64 X - a)), .int .u64 Y]) (by simp [results, Tryz.results31, go_sem]) rfl (prodP_mk (p := a * b) ?_ ?_ rfl ?_)
      · have e1 := HX.out; have e2 := P.out; have e3 := Hbd.out
        rw [← e1]; unfold wrap64; omega
      · have e1 := HY.out; have _e2 := P.out
        first | exact e1.symm | (rw [← e1]; omega)
      · exact ((Below.refl _ _).alloc (Nat.le_refl _) _).alloc (by simp) _
    · rw [if_neg hb] at eb
      have Eb := Lib.hid eb
      clear eb
      have P := Lib.hid (trivial)
      go_enter Tryz.func31, Tryz.ntmps31
      go_wp2_with fail
      (try rw [Ea.out]); (try rw [Eb.out])
      refine (mul64_any _ _ _ (by omega) (by omega) (by omega) (by omega)).mono ?_
      rintro e w' ⟨rfl, rfl⟩
      generalize hX : (a * b) / 18446744073709551616 = X
      generalize hY : (a * b) % 18446744073709551616 = Y
      have HX := Lib.hid hX
      have HY := Lib.hid hY
      clear hX hY
      go_wp2
      refine bodyPost_ret (v := .agg #[.int .i64 (wrap64 X), .int .u64 Y]) (by simp [results, Tryz.results31, go_sem]) rfl (prodP_mk (p := a * b) ?_ ?_ rfl ?_)
      · have e1 := HX.out; have e2 := P.out; have e3 := Hbd.out
        rw [← e1]; unfold wrap64; omega
      · have e1 := HY.out; have _e2 := P.out
        first | exact e1.symm | (rw [← e1]; omega)
      · exact ((Below.refl _ _).alloc (Nat.le_refl _) _).alloc (by simp) _


theorem or_nat (H y : Nat) (h1 : H < 65536) (h2 : y < 281474976710656) : (BitVec.ofNat 64 (281474976710656 * H) ||| BitVec.ofNat 64 y).toNat = 281474976710656 * H + y := by
  rw [BitVec.toNat_or, BitVec.toNat_ofNat, BitVec.toNat_ofNat, Nat.mod_eq_of_lt (by omega), Nat.mod_eq_of_lt (by omega)]
  exact (Nat.two_pow_add_eq_or_of_lt (i := 48) h2 H).symm
theorem ofInt_cast (x : Int) (n : Nat) (h : x % 18446744073709551616 = n) : BitVec.ofInt 64 x = BitVec.ofNat 64 n := by
  apply BitVec.eq_of_toNat_eq
  rw [BitVec.toNat_ofInt, BitVec.toNat_ofNat]
  have e : ((2 : Nat) ^ 64 : Nat) = 18446744073709551616 := by decide
  rw [e]
  have h2 : (x % ((18446744073709551616 : Nat) : Int)) = n := h
  rw [h2]
  omega
theorem or_add (h y : Int) (h1 : -32768 ≤ h) (h2 : h < 32768) (h3 : 0 ≤ y) (h4 : y < 281474976710656) : bits .or .i64 (h * 281474976710656) y = h * 281474976710656 + y := by
  obtain ⟨Y, rfl⟩ := Int.eq_ofNat_of_zero_le h3
  obtain ⟨H, hH⟩ := Int.eq_ofNat_of_zero_le (show 0 ≤ h % 65536 by omega)
  have e1 : BitVec.ofInt 64 (h * 281474976710656) = BitVec.ofNat 64 (281474976710656 * H) := ofInt_cast _ _ (by omega)
  have e2 : BitVec.ofInt 64 (Y : Int) = BitVec.ofNat 64 Y := ofInt_cast _ _ (by omega)
  have e3 := or_nat H Y (by omega) (by omega)
  show IntKind.i64.wrap ((BitVec.ofInt 64 (h * 281474976710656) ||| BitVec.ofInt 64 (Y : Int)).toNat : Int) = _
  rw [e1, e2, e3, IntKind.wrap_i64]
  omega

def okB (x : Int) : Bool := decide (-1152921504606846976 ≤ x ∧ x ≤ 1152921504606846976)
def DownP (x : Int) (ok : Bool) (w : World) (e : Ending) (w' : World) : Prop := e = .returned (.tuple #[.int .i64 x, .bool ok]) ∧ Below w.heap.size w w'
theorem downP_mk {x y : Int} {a b : Bool} {w w' : World} (h1 : x = y) (h2 : a = b) (hb : Below w.heap.size w w') : DownP x a w (.returned (.tuple #[.int .i64 y, .bool b])) w' := by
  subst h1 h2; exact ⟨rfl, hb⟩

set_option maxHeartbeats 1000000 in
theorem down_in (hi lo : Int) (w : World) (h1 : -32768 ≤ hi) (h2 : hi < 32768) (h3 : 0 ≤ lo) (h4 : lo ≤ 18446744073709551615) :
    Calls Tryz.prog 33 #[.agg #[.int .i64 hi, .int .u64 lo]] w (DownP (hi * 281474976710656 + lo / 65536) (okB (hi * 281474976710656 + lo / 65536)) w) := by
  have hor := or_add hi (lo / 65536) h1 h2 (by omega) (by omega)
  have g1 : decide (hi < -32768) = false := by simp; omega
  have g2 : decide (32768 ≤ hi) = false := by simp; omega
  by_cases c1 : -1152921504606846976 ≤ hi * 281474976710656 + lo / 65536
  · by_cases c2 : hi * 281474976710656 + lo / 65536 ≤ 1152921504606846976
    all_goals
      go_enter Tryz.func33, Tryz.ntmps33
      go_wp2
      go_ret2
      exact downP_mk rfl (by unfold okB; simp; omega) ((Below.refl _ _).alloc (Nat.le_refl _) _)
  · go_enter Tryz.func33, Tryz.ntmps33
    go_wp2
    go_ret2
    exact downP_mk rfl (by unfold okB; simp; omega) ((Below.refl _ _).alloc (Nat.le_refl _) _)

set_option maxHeartbeats 1000000 in
theorem down_out (hi lo : Int) (w : World) (h : hi < -32768 ∨ 32768 ≤ hi) :
    Calls Tryz.prog 33 #[.agg #[.int .i64 hi, .int .u64 lo]] w (DownP 0 false w) := by
  rcases h with h | h
  · go_enter Tryz.func33, Tryz.ntmps33
    go_wp2
    go_ret2
    exact downP_mk rfl rfl ((Below.refl _ _).alloc (Nat.le_refl _) _)
  · have g1 : decide (hi < -32768) = false := by simp; omega
    go_enter Tryz.func33, Tryz.ntmps33
    go_wp2
    go_ret2
    exact downP_mk rfl rfl ((Below.refl _ _).alloc (Nat.le_refl _) _)

/-- A whole number of 128 bits over 65536, rounded down, where it fits; else 0. -/
def downV (p : Int) : Int := if -604462909807314587353088 ≤ p ∧ p < 604462909807314587353088 then p / 65536 else 0
theorem down_any (p : Int) (w : World) :
    Calls Tryz.prog 33 #[.agg #[.int .i64 (p / 18446744073709551616), .int .u64 (p % 18446744073709551616)]] w (DownP (downV p) (okB (p / 65536)) w) := by
  by_cases h : -604462909807314587353088 ≤ p ∧ p < 604462909807314587353088
  · have := down_in (p / 18446744073709551616) (p % 18446744073709551616) w (by omega) (by omega) (by omega) (by omega)
    have e : p / 18446744073709551616 * 281474976710656 + p % 18446744073709551616 / 65536 = p / 65536 := by omega
    rw [e] at this
    unfold downV
    rw [if_pos h]
    exact this
  · have := down_out (p / 18446744073709551616) (p % 18446744073709551616) w (by omega)
    have e : okB (p / 65536) = false := by unfold okB; simp; omega
    unfold downV
    rw [if_neg h, e]
    exact this
end Go.Proofs.En
