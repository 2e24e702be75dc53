/-
  Walks: the quotient by 65536.
-/
import Derived.Test.YthbfmjlcnfgnbaaGreatEc
import Derived.Deep.QuietTactic
import Derived.BigQuiet
namespace Go.Proofs.En
open Go.RowKit

set_option maxHeartbeats 1000000 in
set_option maxRecDepth 100000 in
theorem len_one (w : World) : Calls Tryz.prog 129 #[.int .u64 65536] w fun e w' => e = .returned (.int .i64 17) ∧ w = w' := by
  go_enter Tryz.func129, Tryz.ntmps129
  go_wp2
  go_ret
  exact ⟨ret_int (by kernel_rfl), rfl⟩
theorem lz_one (w : World) : Calls Tryz.prog 110 #[.int .u64 65536] w fun e w' => e = .returned (.int .i64 47) ∧ w = w' := by
  go_enter Tryz.func110, Tryz.ntmps110
  go_wp2_with fail
  refine (len_one _).mono ?_
  rintro e w1 ⟨rfl, rfl⟩
  go_wp2
  go_ret
  exact ⟨rfl, rfl⟩

theorem or_u (h y : Int) (h1 : 0 ≤ h) (h2 : h < 65536) (h3 : 0 ≤ y) (h4 : y < 140737488355328) : bits .or .u64 (h * 140737488355328) y = h * 140737488355328 + y := by
  obtain ⟨Y, rfl⟩ := Int.eq_ofNat_of_zero_le h3
  obtain ⟨H, rfl⟩ := Int.eq_ofNat_of_zero_le h1
  have e1 : BitVec.ofInt 64 ((H : Int) * 140737488355328) = BitVec.ofNat 64 (140737488355328 * H) := ofInt_cast _ _ (by omega)
  have e2 : BitVec.ofInt 64 (Y : Int) = BitVec.ofNat 64 Y := ofInt_cast _ _ (by omega)
  have e3 : (BitVec.ofNat 64 (140737488355328 * H) ||| BitVec.ofNat 64 Y).toNat = 140737488355328 * H + Y := by
    rw [BitVec.toNat_or, BitVec.toNat_ofNat, BitVec.toNat_ofNat, Nat.mod_eq_of_lt (by omega), Nat.mod_eq_of_lt (by omega)]
    exact (Nat.two_pow_add_eq_or_of_lt (i := 47) (by omega) H).symm
  show IntKind.u64.wrap ((BitVec.ofInt 64 ((H : Int) * 140737488355328) ||| BitVec.ofInt 64 (Y : Int)).toNat : Int) = _
  rw [e1, e2, e3, IntKind.wrap_u64]
  omega
theorem and_lo (x : Int) (h1 : 0 ≤ x) (h2 : x ≤ 18446744073709551615) : bits .and .u64 x 4294967295 = x % 4294967296 := by
  obtain ⟨X, rfl⟩ := Int.eq_ofNat_of_zero_le h1
  have e1 : BitVec.ofInt 64 (X : Int) = BitVec.ofNat 64 X := ofInt_cast _ _ (by omega)
  have e2 : BitVec.ofInt 64 (4294967295 : Int) = BitVec.ofNat 64 4294967295 := ofInt_cast _ _ (by omega)
  have e3 : (BitVec.ofNat 64 X &&& BitVec.ofNat 64 4294967295).toNat = X % 4294967296 := by
    rw [BitVec.toNat_and, BitVec.toNat_ofNat, BitVec.toNat_ofNat, Nat.mod_eq_of_lt (by omega), Nat.mod_eq_of_lt (by omega)]
    exact Nat.and_two_pow_sub_one_eq_mod X 32
  show IntKind.u64.wrap ((BitVec.ofInt 64 (X : Int) &&& BitVec.ofInt 64 (4294967295 : Int)).toNat : Int) = _
  rw [e1, e2, e3, IntKind.wrap_u64]
  omega

def DivP (q r : Int) (w : World) (e : Ending) (w' : World) : Prop := e = .returned (.tuple #[.int .u64 q, .int .u64 r]) ∧ ∃ m, w' = w.drewN m

theorem divP_mk {a b c d : Int} {w w' : World} (h1 : c = a) (h2 : d = b) (h3 : ∃ m, w' = w.drewN m) : DivP a b w (.returned (.tuple #[.int .u64 c, .int .u64 d])) w' := by
  subst h1 h2; exact ⟨rfl, h3⟩

theorem u64_mul47 (lo : Int) : IntKind.u64.wrap (lo * 140737488355328) = lo % 131072 * 140737488355328 := by
  rw [IntKind.wrap_u64]; omega

theorem un21 (U A1 : Int) (a2 : 0 ≤ A1) (a3 : A1 < 4294967296) :
    IntKind.u64.wrap (IntKind.u64.wrap (IntKind.u64.wrap (U * 4294967296) + A1) - IntKind.u64.wrap (U / 2147483648 * 9223372036854775808)) = U % 2147483648 * 4294967296 + A1 := by
  simp only [IntKind.wrap_u64]; omega

set_option maxHeartbeats 1000000 in
theorem div_big (hi lo : Int) (w : World) (h0 : 1 ≤ hi) (h1 : hi < 65536) (h2 : 0 ≤ lo) (h3 : lo ≤ 18446744073709551615) :
    Calls Tryz.prog 91 #[.int .u64 hi, .int .u64 lo, .int .u64 65536] w (DivP (hi * 281474976710656 + lo / 65536) (lo % 65536) w) := by
  have t0 : (hi == 0) = false := by simp; omega
  have hand : bits .and .u64 9223372036854775808 4294967295 = 0 := and_lo _ (by omega) (by omega)
  have hor := or_u hi (lo / 131072) (by omega) h1 (by omega) (by omega)
  have hmu := u64_mul47 lo
  have ha2 := and_lo (lo % 131072 * 140737488355328) (by omega) (by omega)
  obtain ⟨q, hq⟩ : ∃ q, hi * 281474976710656 + lo / 65536 = q := ⟨_, rfl⟩
  obtain ⟨r, hr⟩ : ∃ r, lo % 65536 = r := ⟨_, rfl⟩
  rw [hq, hr]
  obtain ⟨U, hU⟩ : ∃ U, hi * 140737488355328 + lo / 131072 = U := ⟨_, rfl⟩
  obtain ⟨A, hA⟩ : ∃ A, lo % 131072 * 140737488355328 = A := ⟨_, rfl⟩
  rw [hU] at hor
  rw [hA] at hmu ha2
  obtain ⟨A1, hA1⟩ : ∃ A1, A / 4294967296 = A1 := ⟨_, rfl⟩
  have hA0 : A % 4294967296 = 0 := by omega
  rw [hA0] at ha2
  obtain ⟨Q1, hQ1⟩ : ∃ Q1, U / 2147483648 = Q1 := ⟨_, rfl⟩
  obtain ⟨R1, hR1⟩ : ∃ R1, U - Q1 * 2147483648 = R1 := ⟨_, rfl⟩
  have a0 : 0 ≤ A := by omega
  have a1 : A ≤ 18446744073709551615 := by omega
  have a2 : 0 ≤ A1 := by omega
  have a3 : A1 < 4294967296 := by omega
  have b0 : 0 ≤ U := by omega
  have b1 : U < 9223372036854775808 := by omega
  have c0 : 0 ≤ Q1 := by omega
  have c1 : Q1 < 4294967296 := by omega
  have d0 : 0 ≤ R1 := by omega
  have d1 : R1 < 2147483648 := by omega
  have HQ := Lib.hid hq
  have HR := Lib.hid hr
  have HU := Lib.hid hU
  have HA := Lib.hid hA
  clear hq hr hU hA hA0
  go_enter Tryz.func91, Tryz.ntmps91
  go_wp2_with fail
  refine (lz_one _).mono ?_
  rintro e w1 ⟨rfl, rfl⟩
  go_wp2_with fail
  clear hor hand hmu ha2
  have HA1 := Lib.hid hA1
  have HQ1 := Lib.hid hQ1
  have HR1 := Lib.hid hR1
  clear hA1 hQ1 hR1
  refine wp_loop_rounds 1 ?_
  rw [rounds_succ]
  have t1 : decide (4294967296 ≤ Q1) = false := by simp; omega
  have t2 : decide (4294967296 * R1 + A1 < 0) = false := by simp; omega
  have hV := un21 U A1 a2 a3
  obtain ⟨V, hV'⟩ : ∃ V, U % 2147483648 * 4294967296 + A1 = V := ⟨_, rfl⟩
  rw [hV'] at hV
  have v0 : 0 ≤ V := by omega
  have v1 : V < 9223372036854775808 := by omega
  have HV := Lib.hid hV'
  clear hV'
  go_wp2_with fail
  clear hV
  refine wp_loop_rounds 1 ?_
  rw [rounds_succ]
  have t3 : decide (4294967296 ≤ V / 2147483648) = false := by simp; omega
  go_wp2
  go_ret2
  have e1 := HQ.out; have e2 := HR.out; have e3 := HU.out; have e4 := HA.out; have e5 := HA1.out; have e6 := HV.out
  refine divP_mk ?_ ?_ ⟨0, rfl⟩
  · omega
  · simp only [IntKind.wrap_u64]; omega

set_option maxHeartbeats 1000000 in
theorem div_zero (lo : Int) (w : World) (h2 : 0 ≤ lo) (h3 : lo ≤ 18446744073709551615) :
    Calls Tryz.prog 91 #[.int .u64 0, .int .u64 lo, .int .u64 65536] w (DivP (lo / 65536) (lo % 65536) w) := by
  go_enter Tryz.func91, Tryz.ntmps91
  go_wp2_with fail
  go_quiet (fail)
  go_wp2
  go_ret2
  exact divP_mk rfl rfl ⟨_, rfl⟩

theorem div_any (hi lo : Int) (w : World) (h0 : 0 ≤ hi) (h1 : hi < 65536) (h2 : 0 ≤ lo) (h3 : lo ≤ 18446744073709551615) :
    Calls Tryz.prog 91 #[.int .u64 hi, .int .u64 lo, .int .u64 65536] w (DivP (hi * 281474976710656 + lo / 65536) (lo % 65536) w) := by
  rcases (show hi = 0 ∨ 1 ≤ hi by omega) with rfl | h
  · have := div_zero lo w h2 h3
    simpa using this
  · exact div_big hi lo w h h1 h2 h3
end Go.Proofs.En
