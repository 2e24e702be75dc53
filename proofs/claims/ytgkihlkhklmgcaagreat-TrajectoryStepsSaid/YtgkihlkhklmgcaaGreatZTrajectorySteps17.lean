/-
  Texts put together: Dx Dy Ga Gb.
-/
import Derived.Test.YtgkihlkhklmgcaaGreatZTrajectorySteps13
import Derived.Test.YtgkihlkhklmgcaaGreatZTrajectorySteps16
import Derived.BigQuiet
import Derived.Outline
import Derived.Deep.QuietTactic
import Derived.Deep.LoopGhost
import Derived.Test.YtgkihlkhklmgcaaGreatZTrajectorySteps15
set_option linter.unusedVariables false
section
/-
  Walks: the quotient of 128 bits by 64 bits.
-/
namespace Go.Proofs.En
open Go.RowKit Go.Proofs.Dv
def DivP (q r : Nat) (w : World) (e : Ending) (w' : World) : Prop := e = .returned (.tuple #[.int .u64 (q : Nat), .int .u64 (r : Nat)]) ∧ ∃ m, w' = w.drewN m
theorem divP_mk {a b : Nat} {c d : Int} {w w' : World} (h1 : c = (a : Nat)) (h2 : d = (b : Nat)) (h3 : ∃ m, w' = w.drewN m) : DivP a b w (.returned (.tuple #[.int .u64 c, .int .u64 d])) w' := by
 subst h1 h2; exact ⟨rfl, h3⟩
theorem tdiv_nat (a b : Nat) : ((a : Int).tdiv (b : Int)) = ((a / b : Nat) : Int) := rfl
/-- What a digit begins with. -/
structure DigS (Y1 U Q M R : Nat) : Prop where
 hQ : IntKind.u64.wrap ((U : Int).tdiv (Y1 : Int)) = (Q : Nat)
 hQ' : IntKind.u64.wrap ((U : Int) / (Y1 : Int)) = (Q : Nat)
 hM : IntKind.u64.wrap ((Q : Int) * (Y1 : Int)) = (M : Nat)
 hR : (U : Int) - (M : Int) = (R : Nat)
 hR' : IntKind.u64.wrap ((U : Int) - (M : Int)) = (R : Nat)
 ml : M ≤ U
 rl : R < Y1
theorem digS_of (Y1 Y0 U u1 : Nat) (h1 : 2147483648 ≤ Y1) (hu : U < 18446744073709551616) (hu1 : u1 < 4294967296) : ∃ Q M R, DigS Y1 U Q M R ∧ Dig Y1 Y0 U u1 Q R := by
 have hl := Nat.div_mul_le_self U Y1
 have hd := Nat.div_le_self U Y1
 have hm := Nat.div_add_mod U Y1
 have hlt := Nat.mod_lt U (show 0 < Y1 by omega)
 rw [Nat.mul_comm] at hm
 refine ⟨U / Y1, U / Y1 * Y1, U - U / Y1 * Y1, ⟨?_, ?_, ?_, ?_, ?_, hl, ?_⟩, dig_start (by omega) hu1⟩
 ·rw [tdiv_nat]; exact wrap_nat _ (by omega)
 ·rw [← Int.natCast_ediv]; exact wrap_nat _ (by omega)
 ·rw [← Int.natCast_mul]; exact wrap_nat _ (by omega)
 ·omega
 ·generalize U / Y1 * Y1 = M at hl
  rw [IntKind.wrap_u64]; omega
 ·omega
theorem rest_wrap (U A1 D Y V : Nat) (hV : D * Y + V = U * 4294967296 + A1) (hv : V < 18446744073709551616) :
  IntKind.u64.wrap (IntKind.u64.wrap (IntKind.u64.wrap ((U : Int) * 4294967296) + (A1 : Int)) - IntKind.u64.wrap ((D : Int) * (Y : Int))) = (V : Nat) := by
 rw [← Int.natCast_mul]
 generalize D * Y = Z at hV
 simp only [IntKind.wrap_u64]
 omega
theorem two32 (U A1 A0 : Nat) : (U * 4294967296 + A1) * 4294967296 + A0 = U * 18446744073709551616 + (A1 * 4294967296 + A0) := by omega
theorem prod_lt {Q Y : Nat} (h1 : Q < 4294967296) (h2 : Y < 4294967296) : Q * Y < 18446744073709551616 := by
 have := Nat.mul_le_mul (show Q ≤ 4294967295 by omega) (show Y ≤ 4294967295 by omega)
 omega
set_option maxRecDepth 100000 in
set_option maxHeartbeats 4000000 in
theorem div_big (hi lo y : Nat) (w : World) (h0 : 0 < hi) (h1 : hi < y) (hy : y < 18446744073709551616) (hl : lo < 18446744073709551616) :
  Calls Tryz.prog 69 #[.int .u64 (hi : Nat), .int .u64 (lo : Nat), .int .u64 (y : Nat)] w (DivP ((hi * 18446744073709551616 + lo) / y) ((hi * 18446744073709551616 + lo) % y) w) := by
 obtain ⟨s, Y, U, A, hN⟩ := norm_of hi lo y h1 hy hl
 obtain ⟨Y1, eY1⟩ : ∃ n, n = Y / 4294967296 := ⟨_, rfl⟩
 obtain ⟨Y0, eY0⟩ : ∃ n, n = Y % 4294967296 := ⟨_, rfl⟩
 obtain ⟨A1, eA1⟩ : ∃ n, n = A / 4294967296 := ⟨_, rfl⟩
 obtain ⟨A0, eA0⟩ : ∃ n, n = A % 4294967296 := ⟨_, rfl⟩
 have b1 := hN.Y1
 have b2 := hN.Y2
 have b3 := hN.lt
 have b4 := hN.A2
 have c1 : 2147483648 ≤ Y1 := by omega
 have c2 : Y1 < 4294967296 := by omega
 have c3 : Y0 < 4294967296 := by omega
 have c4 : A1 < 4294967296 := by omega
 have c5 : A0 < 4294967296 := by omega
 have eY : Y1 * 4294967296 + Y0 = Y := by omega
 have eA : A1 * 4294967296 + A0 = A := by rw [eA1, eA0]; exact Nat.div_add_mod' A 4294967296
 obtain ⟨q, hq⟩ : ∃ q, (hi * 18446744073709551616 + lo) / y = q := ⟨_, rfl⟩
 obtain ⟨r, hr⟩ : ∃ r, (hi * 18446744073709551616 + lo) % y = r := ⟨_, rfl⟩
 rw [hq, hr]
 obtain ⟨Q0, M0, R0, hS, hD⟩ := digS_of Y1 Y0 U A1 c1 (by omega) c4
 obtain ⟨D1, eD1⟩ : ∃ n, n = (U * 4294967296 + A1) / (Y1 * 4294967296 + Y0) := ⟨_, rfl⟩
 obtain ⟨V, eV⟩ : ∃ n, n = (U * 4294967296 + A1) % (Y1 * 4294967296 + Y0) := ⟨_, rfl⟩
 have hV1 : D1 * Y + V = U * 4294967296 + A1 := by
  rw [← eY, eD1, eV, Nat.mul_comm]; exact Nat.div_add_mod _ _
 have hV2 : V < Y := by rw [← eY, eV]; exact Nat.mod_lt _ (by omega)
 have hD1 : D1 < 4294967296 := by rw [eD1]; exact digit_lt (by omega) c4
 obtain ⟨Q2, M2, R2, hS2, hE⟩ := digS_of Y1 Y0 V A0 c1 (by omega) c5
 obtain ⟨D0, eD0⟩ : ∃ n, n = (V * 4294967296 + A0) / (Y1 * 4294967296 + Y0) := ⟨_, rfl⟩
 obtain ⟨Z, eZ⟩ : ∃ n, n = (V * 4294967296 + A0) % (Y1 * 4294967296 + Y0) := ⟨_, rfl⟩
 have hZ1 : D0 * Y + Z = V * 4294967296 + A0 := by
  rw [← eY, eD0, eZ, Nat.mul_comm]; exact Nat.div_add_mod _ _
 have hZ2 : Z < Y := by rw [← eY, eZ]; exact Nat.mod_lt _ (by omega)
 have hD0 : D0 < 4294967296 := by rw [eD0]; exact digit_lt (by omega) c5
 have hfin : q = D1 * 4294967296 + D0 ∧ r = Z / 2 ^ s := by
  have hs := shifted (hi * 18446744073709551616 + lo) y s
  have h2 := two_digits (y := Y1 * 4294967296 + Y0) (u := U) (u1 := A1) (u0 := A0) (by omega)
  have e : (U * 4294967296 + A1) * 4294967296 + A0 = (hi * 18446744073709551616 + lo) * 2 ^ s := by rw [← hN.eN, ← eA]; exact two32 U A1 A0
  rw [e, ← eD1, ← eV, ← eD0, ← eZ, eY, hN.eY] at h2
  rw [← hq, ← hr, hs.1, hs.2, h2.1, h2.2]
  exact ⟨rfl, rfl⟩
 have HF := Lib.hid hfin
 have HV := Lib.hid (rest_wrap U A1 D1 Y V hV1 (by omega))
 have HZ := Lib.hid (rest_wrap V A0 D0 Y Z hZ1 (by omega))
 have HS2 := Lib.hid hS2
 have HE := Lib.hid hE
 have HD := Lib.hid hD
 have HD1 := Lib.hid eD1
 have HD0 := Lib.hid eD0
 have HUY := Lib.hid (show U < Y1 * 4294967296 + Y0 by omega)
 have HVY := Lib.hid (show V < Y1 * 4294967296 + Y0 by omega)
 have t0 : ((hi : Int) == 0) = false := by simp; omega
 have t1 : ((y : Int) == 0) = false := by simp; omega
 have t2 : decide ((y : Int) ≤ (hi : Int)) = false := by simp; omega
 have t3 : ((Y1 : Int) == 0) = false := by simp; omega
 have k1 := hN.hY
 have k2 : bits .and .u64 (Y : Int) 4294967295 = (Y0 : Nat) := by rw [and_lo _ (by omega) (by omega)]; omega
 have k3 : (Y : Int) / 4294967296 = (Y1 : Nat) := by omega
 have k4 := hN.hU
 have k5 := hN.hA
 have k6 : bits .and .u64 (A : Int) 4294967295 = (A0 : Nat) := by rw [and_lo _ (by omega) (by omega)]; omega
 have k7 : (A : Int) / 4294967296 = (A1 : Nat) := by omega
 have k8 := hS.hQ'
 have k9 := hS.hM
 have k10 := hS.hR
 have k11 := hS.hR'
 have hlen := hN.len
 have hs63 := hN.sle
 have r0 : R0 < 4294967296 := by have := hS.rl; omega
 have hml := hS.ml
 have HQB := Lib.hid (show Q0 < 18446744073709551616 from by have h := hS.hQ; rw [IntKind.wrap_u64] at h; omega)
 clear hfin hS hS2 hE hD eD1 eD0 hV1 hZ1 eV eZ eY eA eY1 eY0 eA1 eA0 hN hq hr
 go_enter Tryz.func69, Tryz.ntmps69
 go_wp2_with fail
 refine (Tryz.bits_LeadingZeros64 (y : Nat) _ (by omega) (by omega)).mono ?_
 rintro e w1 ⟨rfl, rfl⟩
 rw [Int.toNat_natCast, hlen]
 clear hlen
 go_wp2_with fail
 clear k1 k2 k3 k4 k5 k6 k7 k8 k9 k10 k11
 clear t0 t1 t2 hml b1 b2 b3 b4 h0 h1 hy hl
 go_loopg [15, 16] Q0 (fun gk q r W => ∃ Q R : Nat, q = .int .u64 (Q : Nat) ∧ r = .int .u64 (R : Nat) ∧ Dig Y1 Y0 U A1 Q R ∧ R < 4294967296 ∧ Q ≤ gk ∧ Q < 18446744073709551616 ∧ W = w1)
 case atStart => exact ⟨Q0, R0, rfl, rfl, HD.out, r0, Nat.le_refl _, (by have := HQB.out; omega), rfl⟩
 case round =>
  obtain ⟨Q, R, rfl, rfl, hd, hr, hq, hq64, rfl⟩ := hrel
  have HQ64 := Lib.hid hq64
  obtain ⟨S, hS⟩ : ∃ S, R + Y1 = S := ⟨_, rfl⟩
  have s1 : (R : Int) + (Y1 : Int) = (S : Nat) := by omega
  have s2 : IntKind.u64.wrap ((R : Int) + (Y1 : Int)) = (S : Nat) := by rw [s1]; exact wrap_nat _ (by omega)
  have s3 : IntKind.u64.wrap (S : Int) = (S : Nat) := wrap_nat _ (by omega)
  have HSS := Lib.hid hS
  have HR := Lib.hid hr
  have HQ := Lib.hid hq
  have body : 4294967296 ≤ Q ∨ 4294967296 * R + A1 < Q * Y0 → ∃ P : Nat, P + 1 = Q ∧ Dig Y1 Y0 U A1 P S ∧ (4294967296 ≤ S → P = D1) := fun h => by
   obtain ⟨hp, hn⟩ := dig_next hd HUY.out c4 h
   rw [hS] at hn
   exact ⟨Q - 1, by omega, hn, fun h => by rw [HD1.out]; exact dig_break hn (by omega) HUY.out c3 h⟩
  rcases Nat.lt_or_ge Q 4294967296 with hq1 | hq1
  ·have m1 : Q * Y0 < 18446744073709551616 := prod_lt hq1 c3
   have m2 : IntKind.u64.wrap ((Q : Int) * (Y0 : Int)) = ((Q * Y0 : Nat) : Int) := by rw [← Int.natCast_mul]; exact wrap_nat _ m1
   have q0 : decide (4294967296 ≤ (Q : Int)) = false := by simp; omega
   obtain ⟨N, hN⟩ : ∃ N, 4294967296 * R + A1 = N := ⟨_, rfl⟩
   obtain ⟨X, hX⟩ : ∃ X, 4294967296 * R = X := ⟨_, rfl⟩
   have n0 : IntKind.u64.wrap (4294967296 * (R : Int)) = (X : Nat) := by rw [IntKind.wrap_u64]; omega
   have n1 : (X : Int) + (A1 : Int) = (N : Nat) := by omega
   have n2 : IntKind.u64.wrap (N : Int) = (N : Nat) := wrap_nat _ (by omega)
   by_cases hm : N < Q * Y0
   ·obtain ⟨P, hP1, hPd, hPb⟩ := body (.inr (by omega))
    have q1 : decide ((N : Int) < ((Q * Y0 : Nat) : Int)) = true := by simp only [decide_eq_true_eq]; omega
    have q1n : decide (N < Q * Y0) = true := by simp only [decide_eq_true_eq]; omega
    generalize Q * Y0 = M at m2 q1 q1n
    have p1 : (Q : Int) - 1 = (P : Nat) := by omega
    have p2 : IntKind.u64.wrap (P : Int) = (P : Nat) := wrap_nat _ (by omega)
    have HPD := Lib.hid hPd
    have HP1 := Lib.hid hP1
    rcases Nat.lt_or_ge S 4294967296 with hr1 | hr1
    ·have q2 : decide (4294967296 ≤ (S : Int)) = false := by simp; omega
     have HR1 := Lib.hid hr1
     clear hPd hPb hd hm m1 body hS hr hq hq1 hP1 hN hr1 hq64 hX
     go_wp2_with fail
     go_roundg (gk - 1)
     case rel => exact ⟨P, S, rfl, rfl, HPD.out, HR1.out, by have := HQ.out; have := HP1.out; omega, by have := HQ64.out; have := HP1.out; omega, rfl⟩
     case measure => have := HQ.out; have := HP1.out; omega
    ·have q2 : decide (4294967296 ≤ (S : Int)) = true := by simp; omega
     have hP : P = D1 := hPb hr1
     clear hPd hPb hd hm m1 body hS hr hq hq1 hP1 hN hr1 hq64 hX
     subst hP
     have v0 := HV.out
     have v1 := HS2.out.hQ
     have v2 := HS2.out.hQ'
     have v3 := HS2.out.hM
     have v4 := HS2.out.hR
     have v5 := HS2.out.hR'
     have v7 : IntKind.u64.wrap (R2 : Int) = (R2 : Nat) := wrap_nat _ (by have := HS2.out.rl; omega)
     go_wp2_with fail
     clear v0 v1 v2 v3 v4 v5 v7 t3
     clear s1 s2 s3 q0 HSS HR HQ HQ64 HQB
     obtain ⟨w1, rfl⟩ : ∃ X, X = wr := ⟨_, rfl⟩
     have v6 : R2 < 4294967296 := by have := HS2.out.rl; omega
     have HV6 := Lib.hid (show Q2 < 18446744073709551616 from by have h := HS2.out.hQ; rw [IntKind.wrap_u64] at h; omega)
     go_loopg [18, 16] Q2 (fun gk q r W => ∃ Q R : Nat, q = .int .u64 (Q : Nat) ∧ r = .int .u64 (R : Nat) ∧ Dig Y1 Y0 V A0 Q R ∧ R < 4294967296 ∧ Q ≤ gk ∧ Q < 18446744073709551616 ∧ W = w1)
     case atStart => exact ⟨Q2, R2, rfl, rfl, HE.out, v6, Nat.le_refl _, HV6.out, rfl⟩
     case round =>
      obtain ⟨Q, R, rfl, rfl, hd, hr, hq, hq64, rfl⟩ := hrel
      have HQ64 := Lib.hid hq64
      obtain ⟨S, hS⟩ : ∃ S, R + Y1 = S := ⟨_, rfl⟩
      have s1 : (R : Int) + (Y1 : Int) = (S : Nat) := by omega
      have s2 : IntKind.u64.wrap ((R : Int) + (Y1 : Int)) = (S : Nat) := by rw [s1]; exact wrap_nat _ (by omega)
      have s3 : IntKind.u64.wrap (S : Int) = (S : Nat) := wrap_nat _ (by omega)
      have HSS := Lib.hid hS
      have HR := Lib.hid hr
      have HQ := Lib.hid hq
      have body : 4294967296 ≤ Q ∨ 4294967296 * R + A0 < Q * Y0 → ∃ P : Nat, P + 1 = Q ∧ Dig Y1 Y0 V A0 P S ∧ (4294967296 ≤ S → P = D0) := fun h => by
       obtain ⟨hp, hn⟩ := dig_next hd HVY.out c5 h
       rw [hS] at hn
       exact ⟨Q - 1, by omega, hn, fun h => by rw [HD0.out]; exact dig_break hn (by omega) HVY.out c3 h⟩
      rcases Nat.lt_or_ge Q 4294967296 with hq1 | hq1
      ·have m1 : Q * Y0 < 18446744073709551616 := prod_lt hq1 c3
       have m2 : IntKind.u64.wrap ((Q : Int) * (Y0 : Int)) = ((Q * Y0 : Nat) : Int) := by rw [← Int.natCast_mul]; exact wrap_nat _ m1
       have q0 : decide (4294967296 ≤ (Q : Int)) = false := by simp; omega
       obtain ⟨N, hN⟩ : ∃ N, 4294967296 * R + A0 = N := ⟨_, rfl⟩
       obtain ⟨X, hX⟩ : ∃ X, 4294967296 * R = X := ⟨_, rfl⟩
       have n0 : IntKind.u64.wrap (4294967296 * (R : Int)) = (X : Nat) := by rw [IntKind.wrap_u64]; omega
       have n1 : (X : Int) + (A0 : Int) = (N : Nat) := by omega
       have n2 : IntKind.u64.wrap (N : Int) = (N : Nat) := wrap_nat _ (by omega)
       by_cases hm : N < Q * Y0
       ·obtain ⟨P, hP1, hPd, hPb⟩ := body (.inr (by omega))
        have q1 : decide ((N : Int) < ((Q * Y0 : Nat) : Int)) = true := by simp only [decide_eq_true_eq]; omega
        have q1n : decide (N < Q * Y0) = true := by simp only [decide_eq_true_eq]; omega
        generalize Q * Y0 = M at m2 q1 q1n
        have p1 : (Q : Int) - 1 = (P : Nat) := by omega
        have p2 : IntKind.u64.wrap (P : Int) = (P : Nat) := wrap_nat _ (by omega)
        have HPD := Lib.hid hPd
        have HP1 := Lib.hid hP1
        rcases Nat.lt_or_ge S 4294967296 with hr1 | hr1
        ·have q2 : decide (4294967296 ≤ (S : Int)) = false := by simp; omega
         have HR1 := Lib.hid hr1
         clear hPd hPb hd hm m1 body hS hr hq hq1 hP1 hN hr1 hq64 hX
         go_wp2_with fail
         go_roundg (gk - 1)
         case rel => exact ⟨P, S, rfl, rfl, HPD.out, HR1.out, by have := HQ.out; have := HP1.out; omega, by have := HQ64.out; have := HP1.out; omega, rfl⟩
         case measure => have := HQ.out; have := HP1.out; omega
        ·have q2 : decide (4294967296 ≤ (S : Int)) = true := by simp; omega
         have hP : P = D0 := hPb hr1
         clear hPd hPb hd hm m1 body hS hr hq hq1 hP1 hN hr1 hq64 hX
         subst hP
         have z0 := HZ.out
         go_wp2_with fail
         go_ret2
         exact divP_mk (by have h := HF.out.1; omega) (by rw [HF.out.2]; norm_cast) ⟨0, rfl⟩
       ·have hP : Q = D0 := by rw [HD0.out]; exact dig_done hd (by omega) (by omega)
        have q1 : decide ((N : Int) < ((Q * Y0 : Nat) : Int)) = false := by simp only [decide_eq_false_iff_not]; omega
        have q1n : decide (N < Q * Y0) = false := by simp only [decide_eq_false_iff_not]; omega
        generalize Q * Y0 = M at m2 q1 q1n
        clear hd hm m1 body hS hr hq hq1 hN hq64 hX
        subst hP
        have z0 := HZ.out
        go_wp2_with fail
        go_ret2
        exact divP_mk (by have h := HF.out.1; omega) (by rw [HF.out.2]; norm_cast) ⟨0, rfl⟩
      ·have q0 : decide (4294967296 ≤ (Q : Int)) = true := by simp; omega
       obtain ⟨P, hP1, hPd, hPb⟩ := body (.inl hq1)
       have p1 : (Q : Int) - 1 = (P : Nat) := by omega
       have p2 : IntKind.u64.wrap (P : Int) = (P : Nat) := wrap_nat _ (by omega)
       have m1 := hq1
       have hm := hq1
       have hN := hq1
       have hX := hq1
       have HPD := Lib.hid hPd
       have HP1 := Lib.hid hP1
       rcases Nat.lt_or_ge S 4294967296 with hr1 | hr1
       ·have q2 : decide (4294967296 ≤ (S : Int)) = false := by simp; omega
        have HR1 := Lib.hid hr1
        clear hPd hPb hd hm m1 body hS hr hq hq1 hP1 hN hr1 hq64 hX
        go_wp2_with fail
        go_roundg (gk - 1)
        case rel => exact ⟨P, S, rfl, rfl, HPD.out, HR1.out, by have := HQ.out; have := HP1.out; omega, by have := HQ64.out; have := HP1.out; omega, rfl⟩
        case measure => have := HQ.out; have := HP1.out; omega
       ·have q2 : decide (4294967296 ≤ (S : Int)) = true := by simp; omega
        have hP : P = D0 := hPb hr1
        clear hPd hPb hd hm m1 body hS hr hq hq1 hP1 hN hr1 hq64 hX
        subst hP
        have z0 := HZ.out
        go_wp2_with fail
        go_ret2
        exact divP_mk (by have h := HF.out.1; omega) (by rw [HF.out.2]; norm_cast) ⟨0, rfl⟩
   ·have hP : Q = D1 := by rw [HD1.out]; exact dig_done hd (by omega) (by omega)
    have q1 : decide ((N : Int) < ((Q * Y0 : Nat) : Int)) = false := by simp only [decide_eq_false_iff_not]; omega
    have q1n : decide (N < Q * Y0) = false := by simp only [decide_eq_false_iff_not]; omega
    generalize Q * Y0 = M at m2 q1 q1n
    clear hd hm m1 body hS hr hq hq1 hN hq64 hX
    subst hP
    have v0 := HV.out
    have v1 := HS2.out.hQ
    have v2 := HS2.out.hQ'
    have v3 := HS2.out.hM
    have v4 := HS2.out.hR
    have v5 := HS2.out.hR'
    have v7 : IntKind.u64.wrap (R2 : Int) = (R2 : Nat) := wrap_nat _ (by have := HS2.out.rl; omega)
    go_wp2_with fail
    clear v0 v1 v2 v3 v4 v5 v7 t3
    clear s1 s2 s3 q0 HSS HR HQ HQ64 HQB
    obtain ⟨w1, rfl⟩ : ∃ X, X = wr := ⟨_, rfl⟩
    have v6 : R2 < 4294967296 := by have := HS2.out.rl; omega
    have HV6 := Lib.hid (show Q2 < 18446744073709551616 from by have h := HS2.out.hQ; rw [IntKind.wrap_u64] at h; omega)
    go_loopg [18, 16] Q2 (fun gk q r W => ∃ Q R : Nat, q = .int .u64 (Q : Nat) ∧ r = .int .u64 (R : Nat) ∧ Dig Y1 Y0 V A0 Q R ∧ R < 4294967296 ∧ Q ≤ gk ∧ Q < 18446744073709551616 ∧ W = w1)
    case atStart => exact ⟨Q2, R2, rfl, rfl, HE.out, v6, Nat.le_refl _, HV6.out, rfl⟩
    case round =>
     obtain ⟨Q, R, rfl, rfl, hd, hr, hq, hq64, rfl⟩ := hrel
     have HQ64 := Lib.hid hq64
     obtain ⟨S, hS⟩ : ∃ S, R + Y1 = S := ⟨_, rfl⟩
     have s1 : (R : Int) + (Y1 : Int) = (S : Nat) := by omega
     have s2 : IntKind.u64.wrap ((R : Int) + (Y1 : Int)) = (S : Nat) := by rw [s1]; exact wrap_nat _ (by omega)
     have s3 : IntKind.u64.wrap (S : Int) = (S : Nat) := wrap_nat _ (by omega)
     have HSS := Lib.hid hS
     have HR := Lib.hid hr
     have HQ := Lib.hid hq
     have body : 4294967296 ≤ Q ∨ 4294967296 * R + A0 < Q * Y0 → ∃ P : Nat, P + 1 = Q ∧ Dig Y1 Y0 V A0 P S ∧ (4294967296 ≤ S → P = D0) := fun h => by
      obtain ⟨hp, hn⟩ := dig_next hd HVY.out c5 h
      rw [hS] at hn
      exact ⟨Q - 1, by omega, hn, fun h => by rw [HD0.out]; exact dig_break hn (by omega) HVY.out c3 h⟩
     rcases Nat.lt_or_ge Q 4294967296 with hq1 | hq1
     ·have m1 : Q * Y0 < 18446744073709551616 := prod_lt hq1 c3
      have m2 : IntKind.u64.wrap ((Q : Int) * (Y0 : Int)) = ((Q * Y0 : Nat) : Int) := by rw [← Int.natCast_mul]; exact wrap_nat _ m1
      have q0 : decide (4294967296 ≤ (Q : Int)) = false := by simp; omega
      obtain ⟨N, hN⟩ : ∃ N, 4294967296 * R + A0 = N := ⟨_, rfl⟩
      obtain ⟨X, hX⟩ : ∃ X, 4294967296 * R = X := ⟨_, rfl⟩
      have n0 : IntKind.u64.wrap (4294967296 * (R : Int)) = (X : Nat) := by rw [IntKind.wrap_u64]; omega
      have n1 : (X : Int) + (A0 : Int) = (N : Nat) := by omega
      have n2 : IntKind.u64.wrap (N : Int) = (N : Nat) := wrap_nat _ (by omega)
      by_cases hm : N < Q * Y0
      ·obtain ⟨P, hP1, hPd, hPb⟩ := body (.inr (by omega))
       have q1 : decide ((N : Int) < ((Q * Y0 : Nat) : Int)) = true := by simp only [decide_eq_true_eq]; omega
       have q1n : decide (N < Q * Y0) = true := by simp only [decide_eq_true_eq]; omega
       generalize Q * Y0 = M at m2 q1 q1n
       have p1 : (Q : Int) - 1 = (P : Nat) := by omega
       have p2 : IntKind.u64.wrap (P : Int) = (P : Nat) := wrap_nat _ (by omega)
       have HPD := Lib.hid hPd
       have HP1 := Lib.hid hP1
       rcases Nat.lt_or_ge S 4294967296 with hr1 | hr1
       ·have q2 : decide (4294967296 ≤ (S : Int)) = false := by simp; omega
        have HR1 := Lib.hid hr1
        clear hPd hPb hd hm m1 body hS hr hq hq1 hP1 hN hr1 hq64 hX
        go_wp2_with fail
        go_roundg (gk - 1)
        case rel => exact ⟨P, S, rfl, rfl, HPD.out, HR1.out, by have := HQ.out; have := HP1.out; omega, by have := HQ64.out; have := HP1.out; omega, rfl⟩
        case measure => have := HQ.out; have := HP1.out; omega
       ·have q2 : decide (4294967296 ≤ (S : Int)) = true := by simp; omega
        have hP : P = D0 := hPb hr1
        clear hPd hPb hd hm m1 body hS hr hq hq1 hP1 hN hr1 hq64 hX
        subst hP
        have z0 := HZ.out
        go_wp2_with fail
        go_ret2
        exact divP_mk (by have h := HF.out.1; omega) (by rw [HF.out.2]; norm_cast) ⟨0, rfl⟩
      ·have hP : Q = D0 := by rw [HD0.out]; exact dig_done hd (by omega) (by omega)
       have q1 : decide ((N : Int) < ((Q * Y0 : Nat) : Int)) = false := by simp only [decide_eq_false_iff_not]; omega
       have q1n : decide (N < Q * Y0) = false := by simp only [decide_eq_false_iff_not]; omega
       generalize Q * Y0 = M at m2 q1 q1n
       clear hd hm m1 body hS hr hq hq1 hN hq64 hX
       subst hP
       have z0 := HZ.out
       go_wp2_with fail
       go_ret2
       exact divP_mk (by have h := HF.out.1; omega) (by rw [HF.out.2]; norm_cast) ⟨0, rfl⟩
     ·have q0 : decide (4294967296 ≤ (Q : Int)) = true := by simp; omega
      obtain ⟨P, hP1, hPd, hPb⟩ := body (.inl hq1)
      have p1 : (Q : Int) - 1 = (P : Nat) := by omega
      have p2 : IntKind.u64.wrap (P : Int) = (P : Nat) := wrap_nat _ (by omega)
      have m1 := hq1
      have hm := hq1
      have hN := hq1
      have hX := hq1
      have HPD := Lib.hid hPd
      have HP1 := Lib.hid hP1
      rcases Nat.lt_or_ge S 4294967296 with hr1 | hr1
      ·have q2 : decide (4294967296 ≤ (S : Int)) = false := by simp; omega
       have HR1 := Lib.hid hr1
       clear hPd hPb hd hm m1 body hS hr hq hq1 hP1 hN hr1 hq64 hX
       go_wp2_with fail
       go_roundg (gk - 1)
       case rel => exact ⟨P, S, rfl, rfl, HPD.out, HR1.out, by have := HQ.out; have := HP1.out; omega, by have := HQ64.out; have := HP1.out; omega, rfl⟩
       case measure => have := HQ.out; have := HP1.out; omega
      ·have q2 : decide (4294967296 ≤ (S : Int)) = true := by simp; omega
       have hP : P = D0 := hPb hr1
       clear hPd hPb hd hm m1 body hS hr hq hq1 hP1 hN hr1 hq64 hX
       subst hP
       have z0 := HZ.out
       go_wp2_with fail
       go_ret2
       exact divP_mk (by have h := HF.out.1; omega) (by rw [HF.out.2]; norm_cast) ⟨0, rfl⟩
  ·have q0 : decide (4294967296 ≤ (Q : Int)) = true := by simp; omega
   obtain ⟨P, hP1, hPd, hPb⟩ := body (.inl hq1)
   have p1 : (Q : Int) - 1 = (P : Nat) := by omega
   have p2 : IntKind.u64.wrap (P : Int) = (P : Nat) := wrap_nat _ (by omega)
   have m1 := hq1
   have hm := hq1
   have hN := hq1
   have hX := hq1
   have HPD := Lib.hid hPd
   have HP1 := Lib.hid hP1
   rcases Nat.lt_or_ge S 4294967296 with hr1 | hr1
   ·have q2 : decide (4294967296 ≤ (S : Int)) = false := by simp; omega
    have HR1 := Lib.hid hr1
    clear hPd hPb hd hm m1 body hS hr hq hq1 hP1 hN hr1 hq64 hX
    go_wp2_with fail
    go_roundg (gk - 1)
    case rel => exact ⟨P, S, rfl, rfl, HPD.out, HR1.out, by have := HQ.out; have := HP1.out; omega, by have := HQ64.out; have := HP1.out; omega, rfl⟩
    case measure => have := HQ.out; have := HP1.out; omega
   ·have q2 : decide (4294967296 ≤ (S : Int)) = true := by simp; omega
    have hP : P = D1 := hPb hr1
    clear hPd hPb hd hm m1 body hS hr hq hq1 hP1 hN hr1 hq64 hX
    subst hP
    have v0 := HV.out
    have v1 := HS2.out.hQ
    have v2 := HS2.out.hQ'
    have v3 := HS2.out.hM
    have v4 := HS2.out.hR
    have v5 := HS2.out.hR'
    have v7 : IntKind.u64.wrap (R2 : Int) = (R2 : Nat) := wrap_nat _ (by have := HS2.out.rl; omega)
    go_wp2_with fail
    clear v0 v1 v2 v3 v4 v5 v7 t3
    clear s1 s2 s3 q0 HSS HR HQ HQ64 HQB
    obtain ⟨w1, rfl⟩ : ∃ X, X = wr := ⟨_, rfl⟩
    have v6 : R2 < 4294967296 := by have := HS2.out.rl; omega
    have HV6 := Lib.hid (show Q2 < 18446744073709551616 from by have h := HS2.out.hQ; rw [IntKind.wrap_u64] at h; omega)
    go_loopg [18, 16] Q2 (fun gk q r W => ∃ Q R : Nat, q = .int .u64 (Q : Nat) ∧ r = .int .u64 (R : Nat) ∧ Dig Y1 Y0 V A0 Q R ∧ R < 4294967296 ∧ Q ≤ gk ∧ Q < 18446744073709551616 ∧ W = w1)
    case atStart => exact ⟨Q2, R2, rfl, rfl, HE.out, v6, Nat.le_refl _, HV6.out, rfl⟩
    case round =>
     obtain ⟨Q, R, rfl, rfl, hd, hr, hq, hq64, rfl⟩ := hrel
     have HQ64 := Lib.hid hq64
     obtain ⟨S, hS⟩ : ∃ S, R + Y1 = S := ⟨_, rfl⟩
     have s1 : (R : Int) + (Y1 : Int) = (S : Nat) := by omega
     have s2 : IntKind.u64.wrap ((R : Int) + (Y1 : Int)) = (S : Nat) := by rw [s1]; exact wrap_nat _ (by omega)
     have s3 : IntKind.u64.wrap (S : Int) = (S : Nat) := wrap_nat _ (by omega)
     have HSS := Lib.hid hS
     have HR := Lib.hid hr
     have HQ := Lib.hid hq
     have body : 4294967296 ≤ Q ∨ 4294967296 * R + A0 < Q * Y0 → ∃ P : Nat, P + 1 = Q ∧ Dig Y1 Y0 V A0 P S ∧ (4294967296 ≤ S → P = D0) := fun h => by
      obtain ⟨hp, hn⟩ := dig_next hd HVY.out c5 h
      rw [hS] at hn
      exact ⟨Q - 1, by omega, hn, fun h => by rw [HD0.out]; exact dig_break hn (by omega) HVY.out c3 h⟩
     rcases Nat.lt_or_ge Q 4294967296 with hq1 | hq1
     ·have m1 : Q * Y0 < 18446744073709551616 := prod_lt hq1 c3
      have m2 : IntKind.u64.wrap ((Q : Int) * (Y0 : Int)) = ((Q * Y0 : Nat) : Int) := by rw [← Int.natCast_mul]; exact wrap_nat _ m1
      have q0 : decide (4294967296 ≤ (Q : Int)) = false := by simp; omega
      obtain ⟨N, hN⟩ : ∃ N, 4294967296 * R + A0 = N := ⟨_, rfl⟩
      obtain ⟨X, hX⟩ : ∃ X, 4294967296 * R = X := ⟨_, rfl⟩
      have n0 : IntKind.u64.wrap (4294967296 * (R : Int)) = (X : Nat) := by rw [IntKind.wrap_u64]; omega
      have n1 : (X : Int) + (A0 : Int) = (N : Nat) := by omega
      have n2 : IntKind.u64.wrap (N : Int) = (N : Nat) := wrap_nat _ (by omega)
      by_cases hm : N < Q * Y0
      ·obtain ⟨P, hP1, hPd, hPb⟩ := body (.inr (by omega))
       have q1 : decide ((N : Int) < ((Q * Y0 : Nat) : Int)) = true := by simp only [decide_eq_true_eq]; omega
       have q1n : decide (N < Q * Y0) = true := by simp only [decide_eq_true_eq]; omega
       generalize Q * Y0 = M at m2 q1 q1n
       have p1 : (Q : Int) - 1 = (P : Nat) := by omega
       have p2 : IntKind.u64.wrap (P : Int) = (P : Nat) := wrap_nat _ (by omega)
       have HPD := Lib.hid hPd
       have HP1 := Lib.hid hP1
       rcases Nat.lt_or_ge S 4294967296 with hr1 | hr1
       ·have q2 : decide (4294967296 ≤ (S : Int)) = false := by simp; omega
        have HR1 := Lib.hid hr1
        clear hPd hPb hd hm m1 body hS hr hq hq1 hP1 hN hr1 hq64 hX
        go_wp2_with fail
        go_roundg (gk - 1)
        case rel => exact ⟨P, S, rfl, rfl, HPD.out, HR1.out, by have := HQ.out; have := HP1.out; omega, by have := HQ64.out; have := HP1.out; omega, rfl⟩
        case measure => have := HQ.out; have := HP1.out; omega
       ·have q2 : decide (4294967296 ≤ (S : Int)) = true := by simp; omega
        have hP : P = D0 := hPb hr1
        clear hPd hPb hd hm m1 body hS hr hq hq1 hP1 hN hr1 hq64 hX
        subst hP
        have z0 := HZ.out
        go_wp2_with fail
        go_ret2
        exact divP_mk (by have h := HF.out.1; omega) (by rw [HF.out.2]; norm_cast) ⟨0, rfl⟩
      ·have hP : Q = D0 := by rw [HD0.out]; exact dig_done hd (by omega) (by omega)
       have q1 : decide ((N : Int) < ((Q * Y0 : Nat) : Int)) = false := by simp only [decide_eq_false_iff_not]; omega
       have q1n : decide (N < Q * Y0) = false := by simp only [decide_eq_false_iff_not]; omega
       generalize Q * Y0 = M at m2 q1 q1n
       clear hd hm m1 body hS hr hq hq1 hN hq64 hX
       subst hP
       have z0 := HZ.out
       go_wp2_with fail
       go_ret2
       exact divP_mk (by have h := HF.out.1; omega) (by rw [HF.out.2]; norm_cast) ⟨0, rfl⟩
     ·have q0 : decide (4294967296 ≤ (Q : Int)) = true := by simp; omega
      obtain ⟨P, hP1, hPd, hPb⟩ := body (.inl hq1)
      have p1 : (Q : Int) - 1 = (P : Nat) := by omega
      have p2 : IntKind.u64.wrap (P : Int) = (P : Nat) := wrap_nat _ (by omega)
      have m1 := hq1
      have hm := hq1
      have hN := hq1
      have hX := hq1
      have HPD := Lib.hid hPd
      have HP1 := Lib.hid hP1
      rcases Nat.lt_or_ge S 4294967296 with hr1 | hr1
      ·have q2 : decide (4294967296 ≤ (S : Int)) = false := by simp; omega
       have HR1 := Lib.hid hr1
       clear hPd hPb hd hm m1 body hS hr hq hq1 hP1 hN hr1 hq64 hX
       go_wp2_with fail
       go_roundg (gk - 1)
       case rel => exact ⟨P, S, rfl, rfl, HPD.out, HR1.out, by have := HQ.out; have := HP1.out; omega, by have := HQ64.out; have := HP1.out; omega, rfl⟩
       case measure => have := HQ.out; have := HP1.out; omega
      ·have q2 : decide (4294967296 ≤ (S : Int)) = true := by simp; omega
       have hP : P = D0 := hPb hr1
       clear hPd hPb hd hm m1 body hS hr hq hq1 hP1 hN hr1 hq64 hX
       subst hP
       have z0 := HZ.out
       go_wp2_with fail
       go_ret2
       exact divP_mk (by have h := HF.out.1; omega) (by rw [HF.out.2]; norm_cast) ⟨0, rfl⟩
set_option maxHeartbeats 1000000 in
theorem div_zero (lo y : Nat) (w : World) (h0 : 0 < y) (hy : y < 18446744073709551616) (hl : lo < 18446744073709551616) :
  Calls Tryz.prog 69 #[.int .u64 0, .int .u64 (lo : Nat), .int .u64 (y : Nat)] w (DivP (lo / y) (lo % y) w) := by
 have t0 : ((0 : Int) == (0 : Int)) = true := rfl
 have t1 : ((y : Int) == 0) = false := by simp; omega
 have t2 : decide ((y : Int) ≤ (0 : Int)) = false := by simp; omega
 have d1 := Nat.div_le_self lo y
 have d2 := Nat.mod_lt lo h0
 obtain ⟨q, hq⟩ : ∃ q, lo / y = q := ⟨_, rfl⟩
 obtain ⟨r, hr⟩ : ∃ r, lo % y = r := ⟨_, rfl⟩
 have e1 : ((lo : Int).tdiv (y : Int)) = (q : Nat) := by rw [tdiv_nat, hq]
 have e2 : ((lo : Int) / (y : Int)) = (q : Nat) := by rw [← Int.natCast_ediv, hq]
 have e3 : ((lo : Int).tmod (y : Int)) = (r : Nat) := by rw [show ((lo : Int).tmod (y : Int)) = ((lo % y : Nat) : Int) from rfl, hr]
 have e4 : ((lo : Int) % (y : Int)) = (r : Nat) := by rw [← Int.natCast_emod, hr]
 rw [hq, hr]
 rw [hq] at d1
 rw [hr] at d2
 clear hq hr
 go_enter Tryz.func69, Tryz.ntmps69
 go_wp2_with fail
 go_quiet (fail)
 go_wp2
 go_ret2
 exact divP_mk (by first | rfl | simp) (by first | rfl | simp) ⟨_, rfl⟩
theorem div64 (hi lo y : Nat) (w : World) (h1 : hi < y) (hy : y < 18446744073709551616) (hl : lo < 18446744073709551616) :
  Calls Tryz.prog 69 #[.int .u64 (hi : Nat), .int .u64 (lo : Nat), .int .u64 (y : Nat)] w (DivP ((hi * 18446744073709551616 + lo) / y) ((hi * 18446744073709551616 + lo) % y) w) := by
 cases hi with
 | zero =>
  have := div_zero lo y w (by omega) hy hl
  rw [Nat.zero_mul, Nat.zero_add]
  exact this
 | succ n => exact div_big (n + 1) lo y w (Nat.succ_pos n) h1 hy hl
end Go.Proofs.En
end

section
/-
  Walks: wide numbers that are not negative, and the fraction of a motion.
-/
namespace Go.Proofs.En
open Go.RowKit Go.Proofs.Dv
theorem mag_pos (a : Nat) (w : World) (h1 : a < 9223372036854775808) :
  Calls Tryz.prog 68 #[.int .i64 (a : Nat)] w fun e w' => e = .returned (.int .u64 (a : Nat)) ∧ w = w' := by
 have t0 : decide ((a : Int) < 0) = false := by simp
 go_enter Tryz.func68, Tryz.ntmps68
 go_wp2
 go_ret
 exact ⟨rfl, rfl⟩
/-- A wide number that is not negative. -/
def WideP (n : Nat) (w : World) (e : Ending) (w' : World) : Prop := e = .returned (.agg #[.bool false, .int .u64 ((n / 18446744073709551616 : Nat) : Int), .int .u64 ((n % 18446744073709551616 : Nat) : Int)]) ∧ Below w.heap.size w w'
theorem wideP_mk {n : Nat} {a b : Int} {c : Bool} {w w' : World} (h0 : c = false) (h1 : a = ((n / 18446744073709551616 : Nat) : Int)) (h2 : b = ((n % 18446744073709551616 : Nat) : Int)) (hb : Below w.heap.size w w') : WideP n w (.returned (.agg #[.bool c, .int .u64 a, .int .u64 b])) w' := by
 subst h0 h1 h2; exact ⟨rfl, hb⟩
set_option maxHeartbeats 1000000 in
theorem times_pos (a b : Nat) (w : World) (h1 : a < 9223372036854775808) (h2 : b < 9223372036854775808) :
  Calls Tryz.prog 37 #[.int .i64 (a : Nat), .int .i64 (b : Nat)] w (WideP (a * b) w) := by
 have t0 : decide ((a : Int) < 0) = false := by simp
 have t1 : decide ((b : Int) < 0) = false := by simp
 have hm := fun w => Tryz.bits_Mul64 a b (by omega) (by omega) w
 obtain ⟨H, hH⟩ : ∃ H, a * b / 18446744073709551616 = H := ⟨_, rfl⟩
 obtain ⟨L, hL⟩ : ∃ L, a * b % 18446744073709551616 = L := ⟨_, rfl⟩
 simp only [hH, hL] at hm
 have HH := Lib.hid hH
 have HL := Lib.hid hL
 have HM := Lib.hid hm
 clear hH hL hm
 go_enter Tryz.func37, Tryz.ntmps37
 go_wp2_with fail
 refine (mag_pos a _ h1).mono ?_
 rintro e w1 ⟨rfl, rfl⟩
 go_wp2_with fail
 refine (mag_pos b _ h2).mono ?_
 rintro e w1 ⟨rfl, rfl⟩
 go_wp2_with fail
 refine (HM.out _).mono ?_
 rintro e w1 ⟨rfl, rfl⟩
 go_wp2
 refine bodyPost_ret (v := .agg #[.bool false, .int .u64 (H : Nat), .int .u64 (L : Nat)]) (by simp [results, Tryz.results37, go_sem]) rfl (wideP_mk rfl (by rw [HH.out]) (by rw [HL.out]) ((Below.refl _ _).alloc (Nat.le_refl _) _))
theorem boxes3 (w : World) (x y z x' y' z' : Value) (t : TypeId) (n : Nat) :
  Row (((w.alloc (.cells #[x, y, z] t)).alloc (.cells #[x', y', z'] t)).drewN n) w.heap.size [x, y, z] ∧ Row (((w.alloc (.cells #[x, y, z] t)).alloc (.cells #[x', y', z'] t)).drewN n) (w.heap.size + 1) [x', y', z'] ∧
  (∀ o, (((w.alloc (.cells #[x, y, z] t)).alloc (.cells #[x', y', z'] t)).drewN n).frozen? ⟨w.heap.size + 1, o, none⟩ = false) ∧ Below w.heap.size w (((w.alloc (.cells #[x, y, z] t)).alloc (.cells #[x', y', z'] t)).drewN n) := by
 have hd : Below ((w.alloc (.cells #[x, y, z] t)).alloc (.cells #[x', y', z'] t)).heap.size ((w.alloc (.cells #[x, y, z] t)).alloc (.cells #[x', y', z'] t)) (((w.alloc (.cells #[x, y, z] t)).alloc (.cells #[x', y', z'] t)).drewN n) := ⟨rfl, rfl, rfl, Nat.le_refl _, fun _ _ => rfl⟩
 have e : (w.alloc (.cells #[x, y, z] t)).heap.size = w.heap.size + 1 := by simp
 have r2 := (Row.new (w.alloc (.cells #[x, y, z] t)) [x', y', z'] t).keep hd
 rw [e] at r2
 refine ⟨((Row.new w [x, y, z] t).al _).keep hd, r2, fun o => ?_, below_call (((Below.refl _ _).alloc (Nat.le_refl _) _).alloc (by simp) _) hd⟩
 have hh : (((w.alloc (.cells #[x, y, z] t)).alloc (.cells #[x', y', z'] t)).drewN n).heap[w.heap.size + 1]? = some (.cells #[x', y', z'] t) := by
  show ((w.alloc (.cells #[x, y, z] t)).heap.push (.cells #[x', y', z'] t))[w.heap.size + 1]? = _
  rw [← e]; exact Array.getElem?_push_size
 simp only [World.frozen?, hh]
 simp
theorem over_parts (n d : Nat) (hd : 0 < d) : n / d / 18446744073709551616 = n / 18446744073709551616 / d ∧ n / d % 18446744073709551616 = (n / 18446744073709551616 % d * 18446744073709551616 + n % 18446744073709551616) / d := by
 have e : n = (n / 18446744073709551616 % d * 18446744073709551616 + n % 18446744073709551616) + d * (n / 18446744073709551616 / d * 18446744073709551616) := by
  have h1 := Nat.div_add_mod n 18446744073709551616
  have h2 := Nat.div_add_mod (n / 18446744073709551616) d
  rw [← Nat.mul_assoc]
  generalize n / 18446744073709551616 = H at *
  generalize n % 18446744073709551616 = L at *
  generalize H % d = m at *
  generalize d * (H / d) = k at *
  omega
 have hlt : (n / 18446744073709551616 % d * 18446744073709551616 + n % 18446744073709551616) / d < 18446744073709551616 := by
  rw [Nat.div_lt_iff_lt_mul hd]
  have h1 := Nat.mod_lt (n / 18446744073709551616) hd
  have h2 := Nat.mod_lt n (show 0 < 18446744073709551616 by decide)
  have h3 := Nat.mul_le_mul_right 18446744073709551616 (Nat.succ_le_of_lt h1)
  rw [Nat.succ_mul, Nat.mul_comm d] at h3
  omega
 have hq : n / d = n / 18446744073709551616 / d * 18446744073709551616 + (n / 18446744073709551616 % d * 18446744073709551616 + n % 18446744073709551616) / d := by
  conv => lhs; rw [e]
  rw [Nat.add_mul_div_left _ _ hd]; exact Nat.add_comm _ _
 generalize (n / 18446744073709551616 % d * 18446744073709551616 + n % 18446744073709551616) / d = x at *
 generalize n / 18446744073709551616 / d = y at *
 generalize n / d = z at *
 omega
set_option maxHeartbeats 4000000 in
theorem over_pos (n d : Nat) (w : World) (hn : n < 340282366920938463463374607431768211456) (hd : 0 < d) (hd2 : d < 18446744073709551616) :
  Calls Tryz.prog 38 #[.agg #[.bool false, .int .u64 ((n / 18446744073709551616 : Nat) : Int), .int .u64 ((n % 18446744073709551616 : Nat) : Int)], .int .u64 (d : Nat), .bool false] w (WideP (n / d) w) := by
 obtain ⟨p1, p2⟩ := over_parts n d hd
 obtain ⟨H, hH⟩ : ∃ H, n / 18446744073709551616 = H := ⟨_, rfl⟩
 obtain ⟨L, hL⟩ : ∃ L, n % 18446744073709551616 = L := ⟨_, rfl⟩
 have hH2 : H < 18446744073709551616 := by rw [← hH, Nat.div_lt_iff_lt_mul (by decide)]; exact hn
 have hL2 : L < 18446744073709551616 := by rw [← hL]; exact Nat.mod_lt _ (by decide)
 rw [hH] at p1 p2 ⊢
 rw [hL] at p2 ⊢
 generalize n / d = g at p1 p2 ⊢
 obtain ⟨h, hh⟩ : ∃ h, H / d = h := ⟨_, rfl⟩
 obtain ⟨m, hm⟩ : ∃ m, H % d = m := ⟨_, rfl⟩
 have hdv := fun w => div64 m L d w (by rw [← hm]; exact Nat.mod_lt _ hd) hd2 hL2
 rw [hh] at p1
 rw [hm] at p2
 obtain ⟨q, hq⟩ : ∃ q, (m * 18446744073709551616 + L) / d = q := ⟨_, rfl⟩
 obtain ⟨r, hr⟩ : ∃ r, (m * 18446744073709551616 + L) % d = r := ⟨_, rfl⟩
 rw [hq] at p2
 rw [hq, hr] at hdv
 have hh2 : h < 18446744073709551616 := by rw [← hh]; exact Nat.lt_of_le_of_lt (Nat.div_le_self _ _) hH2
 have k1 : IntKind.u64.wrap ((H : Int) / (d : Int)) = (h : Nat) := by rw [← Int.natCast_ediv, hh]; exact wrap_nat _ hh2
 have k2 : IntKind.u64.wrap ((H : Int).tdiv (d : Int)) = (h : Nat) := by rw [tdiv_nat, hh]; exact wrap_nat _ hh2
 have k3 : (H : Int) % (d : Int) = (m : Nat) := by rw [← Int.natCast_emod, hm]
 have k4 : (H : Int).tmod (d : Int) = (m : Nat) := by rw [show ((H : Int).tmod (d : Int)) = ((H % d : Nat) : Int) from rfl, hm]
 have k5 : ((d : Int) == 0) = false := by simp; omega
 have P1 := Lib.hid p1
 have P2 := Lib.hid p2
 have HD := Lib.hid hdv
 have hk := fun nq => boxes3 w (.bool false) (.int .u64 (H : Nat)) (.int .u64 (L : Nat)) (.bool false) (.int .u64 0) (.int .u64 0) 98 nq
 have hV : ∀ nq, ∃ V, V = (((w.alloc (.cells #[.bool false, .int .u64 (H : Nat), .int .u64 (L : Nat)] 98)).alloc (.cells #[.bool false, .int .u64 0, .int .u64 0] 98)).drewN nq) := fun nq => ⟨_, rfl⟩
 have HK := Lib.hid hk
 have HV := Lib.hid hV
 clear hV hk p1 p2 hdv hq hr hH hL hh hm hn hH2 hL2 hh2 hd2
 cases hr0 : decide (0 < (r : Int))
 all_goals
  have hr1 : decide (0 < r) = decide (0 < (r : Int)) := by simp
  rw [hr0] at hr1
  go_enter Tryz.func38, Tryz.ntmps38
  go_wp2_with fail
  go_quiet ((go_at_call 69; exact Calls.quiet_of (HD.out _)))
  obtain ⟨k1', k2', k3', k4'⟩ := HK.out nq
  obtain ⟨V, hV⟩ := HV.out nq
  rw [← hV] at k1' k2' k3' k4' ⊢
  clear hV
  have v0 := k1'.c 0 _ rfl
  have v1 := k1'.c 1 _ rfl
  have v2 := k1'.c 2 _ rfl
  have w0 := k2'.c 0 _ rfl
  have w1 := k2'.c 1 _ rfl
  have w2 := k2'.c 2 _ rfl
  go_wp2
  refine bodyPost_ret (v := .agg #[.bool false, .int .u64 (h : Nat), .int .u64 (q : Nat)]) (by simp [results, Tryz.results38, go_sem, w0, w1, w2]) rfl (wideP_mk rfl (by rw [P1.out]) (by rw [P2.out]) ?_)
  exact ((k4'.setCell (p := ⟨w.heap.size + 1, 0, none⟩) (by simp) _).setCell (p := ⟨w.heap.size + 1, 1, none⟩) (by simp) _).setCell (p := ⟨w.heap.size + 1, 2, none⟩) (by simp) _
/-- What Int answers of a wide number that is not negative. -/
def IntP (n : Nat) (w : World) (e : Ending) (w' : World) : Prop := e = .returned (.tuple #[.int .i64 (if n ≤ 4611686018427387904 then (n : Int) else 0), .bool (decide (n ≤ 4611686018427387904))]) ∧ Below w.heap.size w w'
theorem intP_mk {n : Nat} {a : Int} {b : Bool} {w w' : World} (h1 : a = if n ≤ 4611686018427387904 then (n : Int) else 0) (h2 : b = decide (n ≤ 4611686018427387904)) (hb : Below w.heap.size w w') : IntP n w (.returned (.tuple #[.int .i64 a, .bool b])) w' := by
 subst h1 h2; exact ⟨rfl, hb⟩
set_option maxHeartbeats 1000000 in
theorem int_pos (n : Nat) (w : World) (hn : n < 340282366920938463463374607431768211456) :
  Calls Tryz.prog 39 #[.agg #[.bool false, .int .u64 ((n / 18446744073709551616 : Nat) : Int), .int .u64 ((n % 18446744073709551616 : Nat) : Int)]] w (IntP n w) := by
 obtain ⟨H, hH⟩ : ∃ H, n / 18446744073709551616 = H := ⟨_, rfl⟩
 obtain ⟨L, hL⟩ : ∃ L, n % 18446744073709551616 = L := ⟨_, rfl⟩
 have hL2 : L < 18446744073709551616 := by rw [← hL]; exact Nat.mod_lt _ (by decide)
 rw [hH, hL]
 have HB := Lib.hid ((Below.refl w.heap.size w).alloc (Nat.le_refl _) (.cells #[.bool false, .int .u64 (H : Nat), .int .u64 (L : Nat)] 98))
 by_cases h0 : 0 < H
 ·have t0 : decide (0 < (H : Int)) = true := by simp; exact h0
  have t0n : decide (0 < H) = true := by simp; exact h0
  have hb : ¬ n ≤ 4611686018427387904 := by omega
  have HBB := Lib.hid hb
  clear hH hL hb h0
  go_enter Tryz.func39, Tryz.ntmps39
  go_wp2
  go_ret2
  exact intP_mk (by rw [if_neg HBB.out]) (by rw [decide_eq_false HBB.out]) HB.out
 ·have t0 : decide (0 < (H : Int)) = false := by simp; omega
  have t0n : decide (0 < H) = false := by simp; omega
  have he : L = n := by omega
  by_cases h1 : 4611686018427387904 < L
  ·have t1 : decide (4611686018427387904 < (L : Int)) = true := by simp; omega
   have hb : ¬ n ≤ 4611686018427387904 := by omega
   have HBB := Lib.hid hb
   clear hH hL hb h0 he h1
   go_enter Tryz.func39, Tryz.ntmps39
   go_wp2
   go_ret2
   exact intP_mk (by rw [if_neg HBB.out]) (by rw [decide_eq_false HBB.out]) HB.out
  ·have t1 : decide (4611686018427387904 < (L : Int)) = false := by simp; omega
   have hb : L ≤ 4611686018427387904 := by omega
   have HE := Lib.hid he
   clear hH hL h0 he h1
   go_enter Tryz.func39, Tryz.ntmps39
   go_wp2
   go_ret2
   have hb2 : n ≤ 4611686018427387904 := by rw [← HE.out]; exact hb
   exact intP_mk (by rw [if_pos hb2, HE.out]) (by rw [decide_eq_true hb2]) HB.out
end Go.Proofs.En
end

section
/-
  Walks: the code's unit of a motion: quotient, growth, unitOf.
-/
namespace Go.Proofs.En
open Go.RowKit Go.Proofs.Dv
theorem below_drewN {b : Nat} {w W : World} (h : Below b w W) (n : Nat) : Below b w (W.drewN n) := ⟨h.os, h.tape, h.output, h.size, h.block⟩
def QuoP (n d : Nat) (w : World) (e : Ending) (w' : World) : Prop := e = .returned (.tuple #[.int .u64 ((n / d / 18446744073709551616 : Nat) : Int), .int .u64 ((n / d % 18446744073709551616 : Nat) : Int), .int .u64 ((n % d : Nat) : Int)]) ∧ ∃ m, w' = w.drewN m
theorem quoP_mk {n d : Nat} {a b c : Int} {w w' : World} (h1 : a = ((n / d / 18446744073709551616 : Nat) : Int)) (h2 : b = ((n / d % 18446744073709551616 : Nat) : Int)) (h3 : c = ((n % d : Nat) : Int)) (hm : ∃ m, w' = w.drewN m) : QuoP n d w (.returned (.tuple #[.int .u64 a, .int .u64 b, .int .u64 c])) w' := by
 subst h1 h2 h3; exact ⟨rfl, hm⟩
theorem rem_parts (n d : Nat) : (n / 18446744073709551616 % d * 18446744073709551616 + n % 18446744073709551616) % d = n % d := by
 have h1 := Nat.div_add_mod n 18446744073709551616
 conv => rhs; rw [← h1]
 rw [Nat.add_mod, Nat.mul_mod, Nat.mod_mod, ← Nat.mul_mod, Nat.mul_comm, ← Nat.add_mod]
set_option maxHeartbeats 1000000 in
theorem quotient67 (n d : Nat) (w : World) (hn : n < 340282366920938463463374607431768211456) (hd : 0 < d) (hd2 : d < 18446744073709551616) :
  Calls Tryz.prog 67 #[.int .u64 ((n / 18446744073709551616 : Nat) : Int), .int .u64 ((n % 18446744073709551616 : Nat) : Int), .int .u64 (d : Nat)] w (QuoP n d w) := by
 obtain ⟨p1, p2⟩ := over_parts n d hd
 have p3 := rem_parts n d
 obtain ⟨H, hH⟩ : ∃ H, n / 18446744073709551616 = H := ⟨_, rfl⟩
 obtain ⟨L, hL⟩ : ∃ L, n % 18446744073709551616 = L := ⟨_, rfl⟩
 have hH2 : H < 18446744073709551616 := by rw [← hH, Nat.div_lt_iff_lt_mul (by decide)]; exact hn
 have hL2 : L < 18446744073709551616 := by rw [← hL]; exact Nat.mod_lt _ (by decide)
 rw [hH] at p1 p2 p3 ⊢
 rw [hL] at p2 p3 ⊢
 obtain ⟨h, hh⟩ : ∃ h, H / d = h := ⟨_, rfl⟩
 obtain ⟨m, hm⟩ : ∃ m, H % d = m := ⟨_, rfl⟩
 have hdv := fun w => div64 m L d w (by rw [← hm]; exact Nat.mod_lt _ hd) hd2 hL2
 rw [hh] at p1
 rw [hm] at p2 p3
 obtain ⟨q, hq⟩ : ∃ q, (m * 18446744073709551616 + L) / d = q := ⟨_, rfl⟩
 obtain ⟨r, hr⟩ : ∃ r, (m * 18446744073709551616 + L) % d = r := ⟨_, rfl⟩
 rw [hq] at p2
 rw [hr] at p3
 rw [hq, hr] at hdv
 have hh2 : h < 18446744073709551616 := by rw [← hh]; exact Nat.lt_of_le_of_lt (Nat.div_le_self _ _) hH2
 have k1 : IntKind.u64.wrap ((H : Int) / (d : Int)) = (h : Nat) := by rw [← Int.natCast_ediv, hh]; exact wrap_nat _ hh2
 have k2 : IntKind.u64.wrap ((H : Int).tdiv (d : Int)) = (h : Nat) := by rw [tdiv_nat, hh]; exact wrap_nat _ hh2
 have k3 : (H : Int) % (d : Int) = (m : Nat) := by rw [← Int.natCast_emod, hm]
 have k4 : (H : Int).tmod (d : Int) = (m : Nat) := by rw [show ((H : Int).tmod (d : Int)) = ((H % d : Nat) : Int) from rfl, hm]
 have k5 : ((d : Int) == 0) = false := by simp; omega
 have P1 := Lib.hid p1
 have P2 := Lib.hid p2
 have P3 := Lib.hid p3
 have HD := Lib.hid hdv
 clear p1 p2 p3 hdv hq hr hH hL hh hm hn hH2 hL2 hh2 hd2
 go_enter Tryz.func67, Tryz.ntmps67
 go_wp2_with fail
 refine (HD.out _).mono ?_
 rintro e w1 ⟨rfl, nn, rfl⟩
 go_wp2
 exact bodyPost_ret (v := .tuple #[.int .u64 (h : Nat), .int .u64 (q : Nat), .int .u64 (r : Nat)]) (by simp [results, Tryz.results67, go_sem]) rfl (quoP_mk (by rw [P1.out]) (by rw [P2.out]) (by rw [P3.out]) ⟨nn, rfl⟩)
def UnitP (a b : Nat) (w : World) (e : Ending) (w' : World) : Prop := e = .returned (.agg #[.int .u64 (a : Nat), .int .u64 (b : Nat)]) ∧ Below w.heap.size w w'
theorem unitP_mk {a b : Nat} {x y : Int} {w w' : World} (h1 : x = (a : Nat)) (h2 : y = (b : Nat)) (hb : Below w.heap.size w w') : UnitP a b w (.returned (.agg #[.int .u64 x, .int .u64 y])) w' := by subst h1 h2; exact ⟨rfl, hb⟩
set_option maxHeartbeats 1000000 in
theorem unit35 (d s : Nat) (w : World) (hd : d ≤ 8388608) (hs : s ≤ 1048576) : Calls Tryz.prog 35 #[.int .i64 (d : Nat), .int .i64 (s : Nat)] w (UnitP (s * s) (d * d * 4096) w) := by
 have m1 : s * s ≤ 1099511627776 := Nat.mul_le_mul hs hs
 have m2 : d * d ≤ 70368744177664 := Nat.mul_le_mul hd hd
 have e1 : (s : Int) * (s : Int) = ((s * s : Nat) : Int) := (Int.natCast_mul _ _).symm
 have e2 : (d : Int) * (d : Int) = ((d * d : Nat) : Int) := (Int.natCast_mul _ _).symm
 have HM := Lib.hid m1
 generalize s * s = S at m1 e1 HM
 generalize d * d = D at m2 e2
 have e3 : IntKind.i64.wrap ((s : Int) * (s : Int)) = (S : Nat) := by rw [e1, IntKind.wrap_i64]; omega
 have e4 : IntKind.i64.wrap ((d : Int) * (d : Int)) = (D : Nat) := by rw [e2, IntKind.wrap_i64]; omega
 have HB := Lib.hid ((Below.refl w.heap.size w).alloc (Nat.le_refl _) (.cells #[.int .u64 0, .int .u64 0] 94))
 clear e1 e2 HM
 go_enter Tryz.func35, Tryz.ntmps35
 go_wp2
 exact bodyPost_ret (v := .agg #[.int .u64 (S : Nat), .int .u64 ((D : Int) * 4096)]) (by simp [results, Tryz.results35, go_sem]) rfl (unitP_mk rfl (by omega) ((Below.refl w.heap.size w).alloc (Nat.le_refl _) _))
/-- The greatest growth of a level. -/
def growN (num den a b : Nat) : Nat := min 4096 (a * den / num / b)
set_option maxHeartbeats 4000000 in
theorem growth36 (num den a b : Nat) (w : World) (h1 : 0 < num) (h2 : num ≤ 1099511627776) (h3 : den < 9223372036854775808) (h4 : a ≤ 2097152) (h5 : 0 < b) (h6 : b < 9223372036854775808) :
  Calls Tryz.prog 36 #[.agg #[.int .u64 (num : Nat), .int .u64 (den : Nat)], .int .i64 (a : Nat), .int .i64 (b : Nat)] w (fun e w' => e = .returned (.int .i64 (growN num den a b : Nat)) ∧ Below w.heap.size w w') := by
 have hm := fun w => Tryz.bits_Mul64 a den (by omega) (by omega) w
 have hX : a * den < 340282366920938463463374607431768211456 := by
  have := Nat.mul_le_mul h4 (Nat.le_of_lt h3)
  omega
 obtain ⟨g, hg⟩ : ∃ g, growN num den a b = g := ⟨_, rfl⟩
 rw [hg]
 unfold growN at hg
 have hY : a * den / num < 340282366920938463463374607431768211456 := Nat.lt_of_le_of_lt (Nat.div_le_self _ _) hX
 have hq1 := fun w => quotient67 (a * den) num w hX h1 (by omega)
 have hq2 := fun w => quotient67 (a * den / num) b w hY h5 (by omega)
 unfold QuoP at hq1 hq2
 generalize a * den / num = Y at hg hY hq1 hq2
 generalize a * den = X at hX hm hq1
 obtain ⟨xh, hxh⟩ : ∃ n, X / 18446744073709551616 = n := ⟨_, rfl⟩
 obtain ⟨xl, hxl⟩ : ∃ n, X % 18446744073709551616 = n := ⟨_, rfl⟩
 obtain ⟨yh, hyh⟩ : ∃ n, Y / 18446744073709551616 = n := ⟨_, rfl⟩
 obtain ⟨yl, hyl⟩ : ∃ n, Y % 18446744073709551616 = n := ⟨_, rfl⟩
 obtain ⟨r1, hr1⟩ : ∃ n, X % num = n := ⟨_, rfl⟩
 obtain ⟨r2, hr2⟩ : ∃ n, Y % b = n := ⟨_, rfl⟩
 simp only [hxh, hxl, hyh, hyl, hr1, hr2] at hm hq1 hq2
 clear hxh hxl hyh hyl hr1 hr2
 obtain ⟨Z, hZ⟩ : ∃ Z, Y / b = Z := ⟨_, rfl⟩
 rw [hZ] at hg
 simp only [hZ] at hq2
 have hZ2 : Z < 340282366920938463463374607431768211456 := by rw [← hZ]; exact Nat.lt_of_le_of_lt (Nat.div_le_self _ _) hY
 obtain ⟨zh, hzh⟩ : ∃ n, Z / 18446744073709551616 = n := ⟨_, rfl⟩
 obtain ⟨zl, hzl⟩ : ∃ n, Z % 18446744073709551616 = n := ⟨_, rfl⟩
 have hzl2 : zl < 18446744073709551616 := by omega
 simp only [hzh, hzl] at hq2
 have ea : IntKind.u64.wrap (a : Int) = (a : Nat) := wrap_nat _ (by omega)
 have eb : IntKind.u64.wrap (b : Int) = (b : Nat) := wrap_nat _ (by omega)
 have HM := Lib.hid hm
 have HQ1 := Lib.hid hq1
 have HQ2 := Lib.hid hq2
 have HB := Lib.hid ((Below.refl w.heap.size w).alloc (Nat.le_refl _) (.cells #[.int .u64 (num : Nat), .int .u64 (den : Nat)] 94))
 have HG := Lib.hid (show 0 < zh ∨ 4096 < zl → g = 4096 from fun h => by rw [← hg]; omega)
 have HG2 := Lib.hid (show ¬ (0 < zh ∨ 4096 < zl) → g = zl from fun h => by rw [← hg]; omega)
 clear hm hq1 hq2 hg hzh hzl hZ hZ2 hX hY
 by_cases h0 : 0 < zh
 ·have t0 : decide (0 < (zh : Int)) = true := by simp; exact h0
  have t0n : decide (0 < zh) = true := by simp; exact h0
  have hgg := HG.out (.inl h0)
  subst hgg
  clear HG HG2 h0
  go_enter Tryz.func36, Tryz.ntmps36
  go_wp2_with fail
  refine (HM.out _).mono ?_
  rintro e w1 ⟨rfl, hw1⟩
  obtain ⟨W, hW⟩ : ∃ W, W = (w.alloc (.cells #[.int .u64 (num : Nat), .int .u64 (den : Nat)] 94)) := ⟨_, rfl⟩
  have hr := Row.new w [.int .u64 (num : Nat), .int .u64 (den : Nat)] 94
  have hbW := HB.out
  have hlW : w.heap.size < W.heap.size := by rw [hW]; simp
  change Row (w.alloc (.cells #[.int .u64 (num : Nat), .int .u64 (den : Nat)] 94)) _ _ at hr
  rw [← hW] at hr hbW hw1
  subst hw1
  have HBW0 := Lib.hid hbW
  clear hbW HB
  have v0 := hr.c 0 _ rfl
  have v1 := hr.c 1 _ rfl
  clear hr hW
  go_wp2_with fail
  refine (HQ1.out _).mono ?_
  rintro e w1 ⟨rfl, n1, rfl⟩
  go_wp2_with fail
  refine (HQ2.out _).mono ?_
  rintro e w1 ⟨rfl, n2, rfl⟩
  have HBW := Lib.hid (below_drewN HBW0.out (n1 + n2))
  go_wp2
  go_ret
  exact ⟨rfl, HBW.out⟩
 ·have t0 : decide (0 < (zh : Int)) = false := by simp; omega
  have t0n : decide (0 < zh) = false := by simp; omega
  by_cases h1' : 4096 < zl
  ·have t1 : decide (4096 < (zl : Int)) = true := by simp; omega
   have hgg := HG.out (.inr h1')
   subst hgg
   clear HG HG2 h0 h1'
   go_enter Tryz.func36, Tryz.ntmps36
   go_wp2_with fail
   refine (HM.out _).mono ?_
   rintro e w1 ⟨rfl, hw1⟩
   obtain ⟨W, hW⟩ : ∃ W, W = (w.alloc (.cells #[.int .u64 (num : Nat), .int .u64 (den : Nat)] 94)) := ⟨_, rfl⟩
   have hr := Row.new w [.int .u64 (num : Nat), .int .u64 (den : Nat)] 94
   have hbW := HB.out
   have hlW : w.heap.size < W.heap.size := by rw [hW]; simp
   change Row (w.alloc (.cells #[.int .u64 (num : Nat), .int .u64 (den : Nat)] 94)) _ _ at hr
   rw [← hW] at hr hbW hw1
   subst hw1
   have HBW0 := Lib.hid hbW
   clear hbW HB
   have v0 := hr.c 0 _ rfl
   have v1 := hr.c 1 _ rfl
   clear hr hW
   go_wp2_with fail
   refine (HQ1.out _).mono ?_
   rintro e w1 ⟨rfl, n1, rfl⟩
   go_wp2_with fail
   refine (HQ2.out _).mono ?_
   rintro e w1 ⟨rfl, n2, rfl⟩
   have HBW := Lib.hid (below_drewN HBW0.out (n1 + n2))
   go_wp2
   go_ret
   exact ⟨rfl, HBW.out⟩
  ·have t1 : decide (4096 < (zl : Int)) = false := by simp; omega
   have hgg := HG2.out (by omega)
   subst hgg
   have hg4 : g ≤ 4096 := by omega
   clear HG HG2 h0 h1'
   go_enter Tryz.func36, Tryz.ntmps36
   go_wp2_with fail
   refine (HM.out _).mono ?_
   rintro e w1 ⟨rfl, hw1⟩
   obtain ⟨W, hW⟩ : ∃ W, W = (w.alloc (.cells #[.int .u64 (num : Nat), .int .u64 (den : Nat)] 94)) := ⟨_, rfl⟩
   have hr := Row.new w [.int .u64 (num : Nat), .int .u64 (den : Nat)] 94
   have hbW := HB.out
   have hlW : w.heap.size < W.heap.size := by rw [hW]; simp
   change Row (w.alloc (.cells #[.int .u64 (num : Nat), .int .u64 (den : Nat)] 94)) _ _ at hr
   rw [← hW] at hr hbW hw1
   subst hw1
   have HBW0 := Lib.hid hbW
   clear hbW HB
   have v0 := hr.c 0 _ rfl
   have v1 := hr.c 1 _ rfl
   clear hr hW
   go_wp2_with fail
   refine (HQ1.out _).mono ?_
   rintro e w1 ⟨rfl, n1, rfl⟩
   go_wp2_with fail
   refine (HQ2.out _).mono ?_
   rintro e w1 ⟨rfl, n2, rfl⟩
   have HBW := Lib.hid (below_drewN HBW0.out (n1 + n2))
   go_wp2
   go_ret
   exact ⟨rfl, HBW.out⟩
end Go.Proofs.En
end

section
/-
  Walks: by how much a joint moves, in the code and in the reference.
-/
namespace Go.Proofs.En
open Go.RowKit
/-- By how much a joint moves. -/
def dd (p q : Int) : Int := max (q - p) (p - q)
theorem dd_nn (p q : Int) : 0 ≤ dd p q := by unfold dd; omega
theorem dd_bd {p q : Int} (hp : -4194304 ≤ p ∧ p ≤ 4194304) (hq : -4194304 ≤ q ∧ q ≤ 4194304) : dd p q ≤ 8388608 := by unfold dd; omega
def DistP (d : Int) (w : World) (e : Ending) (w' : World) : Prop := e = .returned (.int .i64 d) ∧ ∃ m, w' = w.drewN m
theorem distP_mk {d x : Int} {w w' : World} (h : x = d) (hm : ∃ m, w' = w.drewN m) : DistP d w (.returned (.int .i64 x)) w' := by subst h; exact ⟨rfl, hm⟩
set_option maxHeartbeats 2000000 in
theorem dist28 (op oq : Option Addr) (pcap qcap k : Nat) (ps qs : List Int) (p q : Int) (w : World) (hP : Sl w op 1 (pvals ps)) (hQ : Sl w oq 1 (pvals qs)) (hp : ps[k]? = some p) (hq : qs[k]? = some q) (bp : -4194304 ≤ p ∧ p ≤ 4194304) (bq : -4194304 ≤ q ∧ q ≤ 4194304) (hl : ps.length ≤ 100) (hl2 : qs.length ≤ 100) :
  Calls Tryz.prog 28 #[.slice op ps.length pcap, .slice oq qs.length qcap, .int .i64 (k : Nat)] w (DistP (dd p q) w) := by
 have kp := (List.getElem?_eq_some_iff.1 hp).1
 have kq := (List.getElem?_eq_some_iff.1 hq).1
 obtain ⟨bP, oP, rfl, rP⟩ := hP (pvals_ne kp)
 obtain ⟨bQ, oQ, rfl, rQ⟩ := hQ (pvals_ne kq)
 have c1 : w.cell? ⟨bP, oP + k, none⟩ = some (.int .i64 p) := by have := rP.c k _ (pvals_get hp) 0 _ rfl; simpa using this
 have c2 : w.cell? ⟨bQ, oQ + k, none⟩ = some (.int .i64 q) := by have := rQ.c k _ (pvals_get hq) 0 _ rfl; simpa using this
 have e1 : IntKind.i64.wrap (q - p) = q - p := by rw [IntKind.wrap_i64]; omega
 have e2 : IntKind.i64.wrap (p - q) = p - q := by rw [IntKind.wrap_i64]; omega
 generalize hn : ps.length = n at *
 generalize hm : qs.length = m at *
 have H1 := Lib.hid hn
 have H2 := Lib.hid hm
 clear hn hm hP hQ rP rQ hp hq
 unfold dd
 go_enter Tryz.func28, Tryz.ntmps28
 go_wp2_with fail
 go_quiet (fail)
 go_wp2
 go_ret
 exact distP_mk rfl ⟨_, rfl⟩
set_option maxHeartbeats 2000000 in
theorem dist34 (op oq : Option Addr) (pcap qcap k : Nat) (ps qs : List Int) (p q : Int) (w : World) (hP : Sl w op 1 (pvals ps)) (hQ : Sl w oq 1 (pvals qs)) (hp : ps[k]? = some p) (hq : qs[k]? = some q) (bp : -4194304 ≤ p ∧ p ≤ 4194304) (bq : -4194304 ≤ q ∧ q ≤ 4194304) (hl : ps.length ≤ 100) (hl2 : qs.length ≤ 100) :
  Calls Tryz.prog 34 #[.slice op ps.length pcap, .slice oq qs.length qcap, .int .i64 (k : Nat)] w (DistP (dd p q) w) := by
 have kp := (List.getElem?_eq_some_iff.1 hp).1
 have kq := (List.getElem?_eq_some_iff.1 hq).1
 obtain ⟨bP, oP, rfl, rP⟩ := hP (pvals_ne kp)
 obtain ⟨bQ, oQ, rfl, rQ⟩ := hQ (pvals_ne kq)
 have c1 : w.cell? ⟨bP, oP + k, none⟩ = some (.int .i64 p) := by have := rP.c k _ (pvals_get hp) 0 _ rfl; simpa using this
 have c2 : w.cell? ⟨bQ, oQ + k, none⟩ = some (.int .i64 q) := by have := rQ.c k _ (pvals_get hq) 0 _ rfl; simpa using this
 have e1 : IntKind.i64.wrap (q - p) = q - p := by rw [IntKind.wrap_i64]; omega
 have e2 : IntKind.i64.wrap (p - q) = p - q := by rw [IntKind.wrap_i64]; omega
 generalize hn : ps.length = n at *
 generalize hm : qs.length = m at *
 have H1 := Lib.hid hn
 have H2 := Lib.hid hm
 clear hn hm hP hQ rP rQ hp hq
 unfold dd
 go_enter Tryz.func34, Tryz.ntmps34
 go_wp2_with fail
 go_quiet (fail)
 go_wp2
 go_ret
 exact distP_mk rfl ⟨_, rfl⟩
end Go.Proofs.En
end

