/-
  DynamicsSliders: the conditions of the run hold; the law's walk.
-/
import Derived.Test.YthbfmjlcnfgnbaaGreatYh
import Derived.Test.YthbfmjlcnfgnbaaGreatEh
namespace Go.Proofs
open Go.Sm Go.RowKit

def Ev (E : Env) (v : Value) (n : Int) : Prop := ∃ d, evS E d v = some (num n)
def EvB (E : Env) (v : Value) (b : Bool) : Prop := ∃ d, evS E d v = some (.bool b)
section
variable {E : Env} {x y : Value} {a b c : Int}
theorem ev_lit (n : Int) : Ev E (.int .i64 n) n := ⟨1, rfl⟩
theorem ev_eq {v : Value} {n k : Int} (h : Ev E v n) (e : n = k) : Ev E v k := e ▸ h
theorem evB_eq {v : Value} {n k : Bool} (h : EvB E v n) (e : n = k) : EvB E v k := e ▸ h
theorem ev2 {k : Nat} {r : Value} {tag : Value} (ht : (∃ k n, tag = .int k n) ∨ ∃ b, tag = .bool b) (hx : Ev E x a) (hy : Ev E y b) (h : apS E k [tag, num a, num b] = some r) : ∃ d, evS E d (mk k tag [x, y]) = some r := by
  obtain ⟨d, hd⟩ := hx
  obtain ⟨d', hd'⟩ := hy
  exact evS_mk2 ht hd hd' h
theorem evAdd (hx : Ev E x a) (hy : Ev E y b) (h1 : -9223372036854775808 ≤ a + b) (h2 : a + b ≤ 9223372036854775807) : Ev E (mk 2 (.int .i64 0) [x, y]) (a + b) :=
  ev2 (intTag .i64 0) hx hy (by have := IntWalk.i64_in (a + b) (by omega); simp [apS, num, this])
theorem evSub (hx : Ev E x a) (hy : Ev E y b) (h1 : -9223372036854775808 ≤ a - b) (h2 : a - b ≤ 9223372036854775807) : Ev E (mk 3 (.int .i64 0) [x, y]) (a - b) :=
  ev2 (intTag .i64 0) hx hy (by have := IntWalk.i64_in (a - b) (by omega); simp [apS, num, this])
theorem evMul (hx : Ev E x a) (hy : Ev E y b) (h1 : -9223372036854775808 ≤ a * b) (h2 : a * b ≤ 9223372036854775807) : Ev E (mk 4 (.int .i64 0) [x, y]) (a * b) :=
  ev2 (intTag .i64 0) hx hy (by have := IntWalk.i64_in (a * b) (by omega); simp [apS, num, this])
theorem evNeg (hx : Ev E x a) (h1 : -9223372036854775807 ≤ a) (h2 : a ≤ 9223372036854775807) : Ev E (mk 14 (.int .i64 0) [x]) (-a) := by
  obtain ⟨d, hd⟩ := hx
  exact evS_mk1 (intTag .i64 0) hd (by have := IntWalk.i64_in (-a) (by omega); simp [apS, num, this])
theorem evDiv (hx : Ev E x a) (hy : Ev E y b) (h1 : -9223372036854775808 ≤ a.tdiv b) (h2 : a.tdiv b ≤ 9223372036854775807) : Ev E (mk 5 (.int .i64 0) [x, y]) (a.tdiv b) :=
  ev2 (intTag .i64 0) hx hy (by have := IntWalk.i64_in (a.tdiv b) (by omega); simp [apS, num, this])
theorem evShr4 (hx : Ev E x a) : Ev E (mk 11 (.int .i64 0) [x, .int .i64 4]) (a / 16) :=
  ev2 (intTag .i64 0) hx (ev_lit 4) (by
    have e : (2 : Int) ^ (min (Int.toNat 4) IntKind.i64.bits) = 16 := by decide
    have : a.fdiv 16 = a / 16 := Int.fdiv_eq_ediv_of_nonneg _ (by omega)
    simp only [apS, num, if_true]
    rw [e, this])
theorem evMin (hx : Ev E x a) (hy : Ev E y b) : Ev E (mk 12 (.int .i64 0) [x, y]) (mn a b) := ev2 (intTag .i64 0) hx hy (by simp [apS, num, mn])
theorem evMax (hx : Ev E x a) (hy : Ev E y b) : Ev E (mk 13 (.int .i64 0) [x, y]) (mx a b) := ev2 (intTag .i64 0) hx hy (by simp [apS, num, mx])
theorem evLt (hx : Ev E x a) (hy : Ev E y b) : EvB E (mk 20 (.bool true) [x, y]) (decide (a < b)) := ev2 (boolTag true) hx hy (by simp [apS, num])
theorem evLe (hx : Ev E x a) (hy : Ev E y b) : EvB E (mk 21 (.bool true) [x, y]) (decide (a ≤ b)) := ev2 (boolTag true) hx hy (by simp [apS, num])
theorem evGt (hx : Ev E x a) (hy : Ev E y b) : EvB E (mk 22 (.bool true) [x, y]) (decide (b < a)) := ev2 (boolTag true) hx hy (by simp [apS, num])
theorem evEq (hx : Ev E x a) (hy : Ev E y b) : EvB E (mk 24 (.bool true) [x, y]) (a == b) := ev2 (boolTag true) hx hy (by simp [apS, num])
theorem map2 (hx : Ev E x a) (hy : Ev E y b) : ∃ d, mapS (evS E d) [x, y] = some ([a, b].map num) := by
  obtain ⟨d, hd⟩ := hx
  obtain ⟨d', hd'⟩ := hy
  exact ⟨max d d', by simp only [mapS, evS_le E (Nat.le_max_left d d') hd, evS_le E (Nat.le_max_right d d') hd']; rfl⟩
theorem map4 {z u : Value} {e : Int} (hx : Ev E x a) (hy : Ev E y b) (hz : Ev E z c) (hu : Ev E u e) : ∃ d, mapS (evS E d) [x, y, z, u] = some ([a, b, c, e].map num) := by
  obtain ⟨d, hd⟩ := map2 hx hy
  obtain ⟨d', hd'⟩ := map2 hz hu
  exact ⟨max d d', mapS_append [x, y] [z, u] _ _ (mapS_le (Nat.le_max_left d d') hd) (mapS_le (Nat.le_max_right d d') hd')⟩
theorem ev4 (j : Nat) {z u : Value} {e : Int} (hx : Ev E x a) (hy : Ev E y b) (hz : Ev E z c) (hu : Ev E u e) : Ev E (mk (1000 + j) (.int .i64 0) [x, y, z, u]) (E.fn j [a, b, c, e]) := by
  obtain ⟨d, hd⟩ := map4 hx hy hz hu
  exact evS_app (intTag .i64 0) hd (apS_fn E j _)
theorem evB4 (j : Nat) {z u : Value} {e : Int} (hx : Ev E x a) (hy : Ev E y b) (hz : Ev E z c) (hu : Ev E u e) : EvB E (mk (1000 + j) (.bool true) [x, y, z, u]) (E.fnB j [a, b, c, e]) := by
  obtain ⟨d, hd⟩ := map4 hx hy hz hu
  exact evS_app (boolTag true) hd (apS_fnB E j _)
theorem evB2 (j : Nat) (hx : Ev E x a) (hy : Ev E y b) : EvB E (mk (1000 + j) (.bool true) [x, y]) (E.fnB j [a, b]) := by
  obtain ⟨d, hd⟩ := map2 hx hy
  exact evS_app (boolTag true) hd (apS_fnB E j _)
theorem sat_i {u v : Value} {n : Int} (h : Ev E u n) (k : Ev E v n) : ∃ d x, evS E d u = some x ∧ evS E d v = some x := by
  obtain ⟨d, hd⟩ := h
  obtain ⟨d', hd'⟩ := k
  exact ⟨max d d', _, evS_le E (Nat.le_max_left d d') hd, evS_le E (Nat.le_max_right d d') hd'⟩
theorem sat_b {u : Value} {n : Bool} (h : EvB E u n) : ∃ d x, evS E d u = some x ∧ evS E d (.bool n) = some x := by
  obtain ⟨d, hd⟩ := h
  exact ⟨d + 1, _, evS_le E (Nat.le_succ d) hd, rfl⟩
end

theorem mul_one (x : Int) (h1 : -1152921504606846976 ≤ x) (h2 : x ≤ 1152921504606846976) : s_dMul_0 65536 65536 x x = x ∧ s_dMul_1 65536 65536 x x = x ∧ s_dMul_2 65536 65536 x x = true := by
  have e1 : 65536 * x / 65536 = x := by omega
  have e2 : (65536 * x + 65535) / 65536 = x := by omega
  have ok : En.mulOkAll 65536 65536 x x = true := by
    simp only [En.mulOkAll, En.mulOk, En.mulL_pt, En.mulG_pt, e1, e2, En.smallB, En.okB, Bool.and_eq_true, decide_eq_true_eq]
    omega
  simp only [s_dMul_0, s_dMul_1, s_dMul_2, ok, cond_true, En.mulL_pt, En.mulG_pt, e1, e2, and_self]
theorem mul_zero (x y : Int) (h1 : -1152921504606846976 ≤ x) (h2 : x ≤ y) (h3 : y ≤ 1152921504606846976) : s_dMul_0 0 0 x y = 0 ∧ s_dMul_1 0 0 x y = 0 ∧ s_dMul_2 0 0 x y = true := by
  have e1 : En.mulL 0 0 x y = 0 := by simp [En.mulL, En.mnF]
  have e2 : En.mulG 0 0 x y = 0 := by simp [En.mulG, En.mxF]
  have ok : En.mulOkAll 0 0 x y = true := by
    simp only [En.mulOkAll, En.mulOk, e1, e2, En.smallB, En.okB, Bool.and_eq_true, decide_eq_true_eq]
    omega
  simp only [s_dMul_0, s_dMul_1, s_dMul_2, ok, cond_true, e1, e2]
  decide
theorem wr_in (x : Int) (h1 : -9223372036854775808 ≤ x) (h2 : x ≤ 9223372036854775807) : wr x = x := IntWalk.i64_in x (by omega)
theorem small_t {x y : Int} (h1 : -1152921504606846976 ≤ x) (h2 : x ≤ y) (h3 : y ≤ 1152921504606846976) : s_dSmall x y = true := by
  simp only [s_dSmall, decide_eq_true h1, decide_eq_true h2, decide_eq_true h3, cond_true]
theorem add_zl (x : Int) (h1 : -1152921504606846976 ≤ x) (h2 : x ≤ 1152921504606846976) : s_dAdd_0 0 0 x x = x ∧ s_dAdd_1 0 0 x x = x ∧ s_dAdd_2 0 0 x x = true := by
  have e : wr (0 + x) = x := by rw [Int.zero_add]; exact wr_in x (by omega) (by omega)
  simp only [s_dAdd_0, s_dAdd_1, s_dAdd_2, e, small_t (x := 0) (y := 0) (by omega) (by omega) (by omega), small_t h1 (Int.le_refl x) h2, cond_true, and_self]
theorem add_zr (x : Int) (h1 : -1152921504606846976 ≤ x) (h2 : x ≤ 1152921504606846976) : s_dAdd_0 x x 0 0 = x ∧ s_dAdd_1 x x 0 0 = x ∧ s_dAdd_2 x x 0 0 = true := by
  have e : wr (x + 0) = x := by rw [Int.add_zero]; exact wr_in x (by omega) (by omega)
  simp only [s_dAdd_0, s_dAdd_1, s_dAdd_2, e, small_t (x := 0) (y := 0) (by omega) (by omega) (by omega), small_t h1 (Int.le_refl x) h2, cond_true, and_self]
theorem mn_le (a b : Int) : mn a b ≤ a ∧ mn a b ≤ b ∧ (mn a b = a ∨ mn a b = b) := by unfold mn; split <;> omega
theorem mx_ge (a b : Int) : a ≤ mx a b ∧ b ≤ mx a b ∧ (mx a b = a ∨ mx a b = b) := by unfold mx; split <;> omega
theorem box_in (P Q : Int) (h1 : 0 ≤ P) (h2 : P < 1048576) (h3 : 0 ≤ Q) (h4 : Q < 1048576) : s_iWithin (P + mn (5 * (Q - P)) (6 * (Q - P)) / 16) (P - -mx (5 * (Q - P)) (6 * (Q - P)) / 16) 0 1048576 = true := by
  have a := mn_le (5 * (Q - P)) (6 * (Q - P))
  have b := mx_ge (5 * (Q - P)) (6 * (Q - P))
  generalize mn (5 * (Q - P)) (6 * (Q - P)) = u at a ⊢
  generalize mx (5 * (Q - P)) (6 * (Q - P)) = v at b ⊢
  simp only [s_iWithin, s_valid2, s_Valid, decide_eq_true (show (-2147483648 : Int) ≤ P + u / 16 by omega), decide_eq_true (show P + u / 16 ≤ P - -v / 16 by omega), decide_eq_true (show P - -v / 16 ≤ 2147483648 by omega), decide_eq_true (show (0 : Int) ≤ P + u / 16 by omega), decide_eq_true (show P - -v / 16 ≤ 1048576 by omega), cond_true]
  decide
theorem box_valid (P Q : Int) (h1 : 0 ≤ P) (h2 : P < 1048576) (h3 : 0 ≤ Q) (h4 : Q < 1048576) : s_Valid (P + mn (5 * (Q - P)) (6 * (Q - P)) / 16) (P - -mx (5 * (Q - P)) (6 * (Q - P)) / 16) = true := by
  have a := mn_le (5 * (Q - P)) (6 * (Q - P))
  have b := mx_ge (5 * (Q - P)) (6 * (Q - P))
  generalize mn (5 * (Q - P)) (6 * (Q - P)) = u at a ⊢
  generalize mx (5 * (Q - P)) (6 * (Q - P)) = v at b ⊢
  simp only [s_Valid, decide_eq_true (show (-2147483648 : Int) ≤ P + u / 16 by omega), decide_eq_true (show P + u / 16 ≤ P - -v / 16 by omega), decide_eq_true (show P - -v / 16 ≤ 2147483648 by omega), cond_true]
theorem sq_nn (D B : Int) (h0 : 0 ≤ D) (h2 : D ≤ B) : 0 ≤ D * D ∧ D * D ≤ B * B := ⟨Int.mul_nonneg h0 h0, Int.mul_le_mul h2 h2 h0 (by omega)⟩
theorem sq_bd (D : Int) (h1 : -1048576 ≤ D) (h2 : D ≤ 1048576) : 0 ≤ D * D ∧ D * D ≤ 1099511627776 := by
  rcases Int.le_total 0 D with h | h
  · exact sq_nn D 1048576 h h2
  · have := sq_nn (-D) 1048576 (by omega) (by omega)
    rw [Int.neg_mul_neg] at this
    exact this
theorem sq_all (D : Int) (h1 : -1048576 ≤ D) (h2 : D ≤ 1048576) : s_dMul_2 D D D D = true ∧ 0 ≤ s_dMul_0 D D D D ∧ s_dMul_0 D D D D ≤ s_dMul_1 D D D D ∧ s_dMul_1 D D D D ≤ 1099511627776 := by
  have b := sq_bd D h1 h2
  have ok : En.mulOkAll D D D D = true := by
    simp only [En.mulOkAll, En.mulOk, En.mulL_pt, En.mulG_pt, En.smallB, En.okB, Bool.and_eq_true, decide_eq_true_eq]
    omega
  simp only [s_dMul_0, s_dMul_1, s_dMul_2, ok, cond_true, En.mulL_pt, En.mulG_pt, true_and]
  omega
theorem prod_bd (D K : Int) (h1 : -1048576 ≤ D) (h2 : D ≤ 1048576) (h3 : 0 ≤ K) (h4 : K ≤ 65536) : -68719476736 ≤ D * K ∧ D * K ≤ 68719476736 := by
  have a := Int.mul_le_mul_of_nonneg_right h1 h3
  have b := Int.mul_le_mul_of_nonneg_right h2 h3
  omega

def ER (rho : Nat → Int) : Env := ⟨rho, fun _ => false, FN, FB⟩
set_option maxRecDepth 100000 in
set_option maxHeartbeats 2000000 in
theorem satR (rho : Nat → Int) (P Q M G : Int) (hp1 : 0 ≤ P) (hp2 : P < 1048576) (hq1 : 0 ≤ Q) (hq2 : Q < 1048576) (hm1 : 0 ≤ M) (hm2 : M < 60000) (hg1 : 0 ≤ G) (hg2 : G < 1048576)
    (hP : Ev (ER rho) nP P) (hQ : Ev (ER rho) nQ Q) (hM : Ev (ER rho) nM M) (hG : Ev (ER rho) nG G) : Sat (ER rho) gamSl := by
  have hK : Ev (ER rho) nK (1 + M) := evAdd (ev_lit 1) hM (by omega) (by omega)
  have hH : Ev (ER rho) nH (G - 524288) := evSub hG (ev_lit 524288) (by omega) (by omega)
  have hD : Ev (ER rho) nD (Q - P) := evSub hQ hP (by omega) (by omega)
  have pX := prod_bd (Q - P) (1 + M) (by omega) (by omega) (by omega) (by omega)
  have pY := prod_bd (G - 524288) (1 + M) (by omega) (by omega) (by omega) (by omega)
  have cX : (1 + M) * (Q - P) = (Q - P) * (1 + M) := Int.mul_comm _ _
  have cY : -(1 + M) * (G - 524288) = -((G - 524288) * (1 + M)) := by rw [Int.neg_mul, Int.mul_comm]
  have hmn := mn_le (5 * (Q - P)) (6 * (Q - P))
  have hmx := mx_ge (5 * (Q - P)) (6 * (Q - P))
  have hX : Ev (ER rho) nX ((Q - P) * (1 + M)) := evMul hD hK (by omega) (by omega)
  have hY : Ev (ER rho) nY ((G - 524288) * (1 + M)) := evMul hH hK (by omega) (by omega)
  have hNY : Ev (ER rho) nNY (-((G - 524288) * (1 + M))) := evNeg hY (by omega) (by omega)
  have hNK : Ev (ER rho) nNK (-(1 + M)) := evNeg hK (by omega) (by omega)
  have hE0 : Ev (ER rho) nE0 (s_dMul_0 (Q - P) (Q - P) (Q - P) (Q - P)) := ev_eq (ev4 246 hD hD hD hD) (show FN 246 [Q - P, Q - P, Q - P, Q - P] = s_dMul_0 (Q - P) (Q - P) (Q - P) (Q - P) by kernel_rfl)
  have hE1 : Ev (ER rho) nE1 (s_dMul_1 (Q - P) (Q - P) (Q - P) (Q - P)) := ev_eq (ev4 247 hD hD hD hD) (show FN 247 [Q - P, Q - P, Q - P, Q - P] = s_dMul_1 (Q - P) (Q - P) (Q - P) (Q - P) by kernel_rfl)
  obtain ⟨hDD, q1, q2, q3⟩ := sq_all (Q - P) (by omega) (by omega)
  have hz : (1152921504606846976 : Int).tdiv (1 + M) = 1152921504606846976 / (1 + M) := Int.tdiv_eq_ediv_of_nonneg (by omega)
  have z1 : 16777216 ≤ (1152921504606846976 : Int) / (1 + M) := (Int.le_ediv_iff_mul_le (by omega)).2 (by omega)
  have z2 : (1152921504606846976 : Int) / (1 + M) ≤ 1152921504606846976 := Int.ediv_le_self _ (by omega)
  have hZ := evDiv (ev_lit 1152921504606846976) hK (by omega) (by omega)
  rw [hz] at hZ
  generalize (1152921504606846976 : Int) / (1 + M) = Z at hZ z1 z2
  have b0 : Ev (ER rho) g0 (Q - P) := ev_eq (ev_eq (ev4 246 (ev_lit (65536)) (ev_lit (65536)) hD hD) (show FN 246 [(65536), (65536), (Q - P), (Q - P)] = s_dMul_0 (65536) (65536) (Q - P) (Q - P) by kernel_rfl)) (show (s_dMul_0 (65536) (65536) (Q - P) (Q - P)) = (Q - P) by exact (mul_one _ (by omega) (by omega)).1)
  have r0 : Ev (ER rho) (nD) (Q - P) := hD
  have b1 : Ev (ER rho) g1 (Q - P) := ev_eq (ev_eq (ev4 247 (ev_lit (65536)) (ev_lit (65536)) hD hD) (show FN 247 [(65536), (65536), (Q - P), (Q - P)] = s_dMul_1 (65536) (65536) (Q - P) (Q - P) by kernel_rfl)) (show (s_dMul_1 (65536) (65536) (Q - P) (Q - P)) = (Q - P) by exact (mul_one _ (by omega) (by omega)).2.1)
  have r1 : Ev (ER rho) (nD) (Q - P) := hD
  have b2 : Ev (ER rho) g2 (0) := ev_eq (ev_eq (ev4 246 (ev_lit (0)) (ev_lit (0)) hD hD) (show FN 246 [(0), (0), (Q - P), (Q - P)] = s_dMul_0 (0) (0) (Q - P) (Q - P) by kernel_rfl)) (show (s_dMul_0 (0) (0) (Q - P) (Q - P)) = (0) by exact (mul_zero _ _ (by omega) (by omega) (by omega)).1)
  have r2 : Ev (ER rho) (.int .i64 (0)) (0) := (ev_lit (0))
  have b3 : Ev (ER rho) g3 (0) := ev_eq (ev_eq (ev4 247 (ev_lit (0)) (ev_lit (0)) hD hD) (show FN 247 [(0), (0), (Q - P), (Q - P)] = s_dMul_1 (0) (0) (Q - P) (Q - P) by kernel_rfl)) (show (s_dMul_1 (0) (0) (Q - P) (Q - P)) = (0) by exact (mul_zero _ _ (by omega) (by omega) (by omega)).2.1)
  have r3 : Ev (ER rho) (.int .i64 (0)) (0) := (ev_lit (0))
  have b4 : Ev (ER rho) g4 (Q - P) := ev_eq (ev_eq (ev4 243 (ev_lit (0)) (ev_lit (0)) hD hD) (show FN 243 [(0), (0), (Q - P), (Q - P)] = s_dAdd_0 (0) (0) (Q - P) (Q - P) by kernel_rfl)) (show (s_dAdd_0 (0) (0) (Q - P) (Q - P)) = (Q - P) by exact (add_zl _ (by omega) (by omega)).1)
  have r4 : Ev (ER rho) (nD) (Q - P) := hD
  have b5 : Ev (ER rho) g5 (Q - P) := ev_eq (ev_eq (ev4 244 (ev_lit (0)) (ev_lit (0)) hD hD) (show FN 244 [(0), (0), (Q - P), (Q - P)] = s_dAdd_1 (0) (0) (Q - P) (Q - P) by kernel_rfl)) (show (s_dAdd_1 (0) (0) (Q - P) (Q - P)) = (Q - P) by exact (add_zl _ (by omega) (by omega)).2.1)
  have r5 : Ev (ER rho) (nD) (Q - P) := hD
  have b6 : Ev (ER rho) g6 (0) := ev_eq (ev_eq (ev4 246 (ev_lit (0)) (ev_lit (0)) hE0 hE1) (show FN 246 [(0), (0), (s_dMul_0 (Q - P) (Q - P) (Q - P) (Q - P)), (s_dMul_1 (Q - P) (Q - P) (Q - P) (Q - P))] = s_dMul_0 (0) (0) (s_dMul_0 (Q - P) (Q - P) (Q - P) (Q - P)) (s_dMul_1 (Q - P) (Q - P) (Q - P) (Q - P)) by kernel_rfl)) (show (s_dMul_0 (0) (0) (s_dMul_0 (Q - P) (Q - P) (Q - P) (Q - P)) (s_dMul_1 (Q - P) (Q - P) (Q - P) (Q - P))) = (0) by exact (mul_zero _ _ (by omega) (by omega) (by omega)).1)
  have r6 : Ev (ER rho) (.int .i64 (0)) (0) := (ev_lit (0))
  have b7 : Ev (ER rho) g7 (0) := ev_eq (ev_eq (ev4 247 (ev_lit (0)) (ev_lit (0)) hE0 hE1) (show FN 247 [(0), (0), (s_dMul_0 (Q - P) (Q - P) (Q - P) (Q - P)), (s_dMul_1 (Q - P) (Q - P) (Q - P) (Q - P))] = s_dMul_1 (0) (0) (s_dMul_0 (Q - P) (Q - P) (Q - P) (Q - P)) (s_dMul_1 (Q - P) (Q - P) (Q - P) (Q - P)) by kernel_rfl)) (show (s_dMul_1 (0) (0) (s_dMul_0 (Q - P) (Q - P) (Q - P) (Q - P)) (s_dMul_1 (Q - P) (Q - P) (Q - P) (Q - P))) = (0) by exact (mul_zero _ _ (by omega) (by omega) (by omega)).2.1)
  have r7 : Ev (ER rho) (.int .i64 (0)) (0) := (ev_lit (0))
  have b8 : Ev (ER rho) g8 (Q - P) := ev_eq (ev_eq (ev4 243 hD hD (ev_lit (0)) (ev_lit (0))) (show FN 243 [(Q - P), (Q - P), (0), (0)] = s_dAdd_0 (Q - P) (Q - P) (0) (0) by kernel_rfl)) (show (s_dAdd_0 (Q - P) (Q - P) (0) (0)) = (Q - P) by exact (add_zr _ (by omega) (by omega)).1)
  have r8 : Ev (ER rho) (nD) (Q - P) := hD
  have b9 : Ev (ER rho) g9 (Q - P) := ev_eq (ev_eq (ev4 244 hD hD (ev_lit (0)) (ev_lit (0))) (show FN 244 [(Q - P), (Q - P), (0), (0)] = s_dAdd_1 (Q - P) (Q - P) (0) (0) by kernel_rfl)) (show (s_dAdd_1 (Q - P) (Q - P) (0) (0)) = (Q - P) by exact (add_zr _ (by omega) (by omega)).2.1)
  have r9 : Ev (ER rho) (nD) (Q - P) := hD
  have b10 : Ev (ER rho) g10 ((Q - P) * (1 + M)) := ev_eq (ev_eq (ev4 243 (ev_lit (0)) (ev_lit (0)) hX hX) (show FN 243 [(0), (0), ((Q - P) * (1 + M)), ((Q - P) * (1 + M))] = s_dAdd_0 (0) (0) ((Q - P) * (1 + M)) ((Q - P) * (1 + M)) by kernel_rfl)) (show (s_dAdd_0 (0) (0) ((Q - P) * (1 + M)) ((Q - P) * (1 + M))) = ((Q - P) * (1 + M)) by exact (add_zl _ (by omega) (by omega)).1)
  have r10 : Ev (ER rho) (nX) ((Q - P) * (1 + M)) := hX
  have b11 : Ev (ER rho) g11 ((Q - P) * (1 + M)) := ev_eq (ev_eq (ev4 244 (ev_lit (0)) (ev_lit (0)) hX hX) (show FN 244 [(0), (0), ((Q - P) * (1 + M)), ((Q - P) * (1 + M))] = s_dAdd_1 (0) (0) ((Q - P) * (1 + M)) ((Q - P) * (1 + M)) by kernel_rfl)) (show (s_dAdd_1 (0) (0) ((Q - P) * (1 + M)) ((Q - P) * (1 + M))) = ((Q - P) * (1 + M)) by exact (add_zl _ (by omega) (by omega)).2.1)
  have r11 : Ev (ER rho) (nX) ((Q - P) * (1 + M)) := hX
  have b12 : Ev (ER rho) g12 (G - 524288) := ev_eq (ev_eq (ev4 246 (ev_lit (65536)) (ev_lit (65536)) hH hH) (show FN 246 [(65536), (65536), (G - 524288), (G - 524288)] = s_dMul_0 (65536) (65536) (G - 524288) (G - 524288) by kernel_rfl)) (show (s_dMul_0 (65536) (65536) (G - 524288) (G - 524288)) = (G - 524288) by exact (mul_one _ (by omega) (by omega)).1)
  have r12 : Ev (ER rho) (nH) (G - 524288) := hH
  have b13 : Ev (ER rho) g13 (G - 524288) := ev_eq (ev_eq (ev4 247 (ev_lit (65536)) (ev_lit (65536)) hH hH) (show FN 247 [(65536), (65536), (G - 524288), (G - 524288)] = s_dMul_1 (65536) (65536) (G - 524288) (G - 524288) by kernel_rfl)) (show (s_dMul_1 (65536) (65536) (G - 524288) (G - 524288)) = (G - 524288) by exact (mul_one _ (by omega) (by omega)).2.1)
  have r13 : Ev (ER rho) (nH) (G - 524288) := hH
  have b14 : Ev (ER rho) g14 (G - 524288) := ev_eq (ev_eq (ev4 243 hH hH (ev_lit (0)) (ev_lit (0))) (show FN 243 [(G - 524288), (G - 524288), (0), (0)] = s_dAdd_0 (G - 524288) (G - 524288) (0) (0) by kernel_rfl)) (show (s_dAdd_0 (G - 524288) (G - 524288) (0) (0)) = (G - 524288) by exact (add_zr _ (by omega) (by omega)).1)
  have r14 : Ev (ER rho) (nH) (G - 524288) := hH
  have b15 : Ev (ER rho) g15 (G - 524288) := ev_eq (ev_eq (ev4 244 hH hH (ev_lit (0)) (ev_lit (0))) (show FN 244 [(G - 524288), (G - 524288), (0), (0)] = s_dAdd_1 (G - 524288) (G - 524288) (0) (0) by kernel_rfl)) (show (s_dAdd_1 (G - 524288) (G - 524288) (0) (0)) = (G - 524288) by exact (add_zr _ (by omega) (by omega)).2.1)
  have r15 : Ev (ER rho) (nH) (G - 524288) := hH
  have b16 : Ev (ER rho) g16 ((G - 524288) * (1 + M)) := ev_eq (ev_eq (ev4 243 (ev_lit (0)) (ev_lit (0)) hY hY) (show FN 243 [(0), (0), ((G - 524288) * (1 + M)), ((G - 524288) * (1 + M))] = s_dAdd_0 (0) (0) ((G - 524288) * (1 + M)) ((G - 524288) * (1 + M)) by kernel_rfl)) (show (s_dAdd_0 (0) (0) ((G - 524288) * (1 + M)) ((G - 524288) * (1 + M))) = ((G - 524288) * (1 + M)) by exact (add_zl _ (by omega) (by omega)).1)
  have r16 : Ev (ER rho) (nY) ((G - 524288) * (1 + M)) := hY
  have b17 : Ev (ER rho) g17 ((G - 524288) * (1 + M)) := ev_eq (ev_eq (ev4 244 (ev_lit (0)) (ev_lit (0)) hY hY) (show FN 244 [(0), (0), ((G - 524288) * (1 + M)), ((G - 524288) * (1 + M))] = s_dAdd_1 (0) (0) ((G - 524288) * (1 + M)) ((G - 524288) * (1 + M)) by kernel_rfl)) (show (s_dAdd_1 (0) (0) ((G - 524288) * (1 + M)) ((G - 524288) * (1 + M))) = ((G - 524288) * (1 + M)) by exact (add_zl _ (by omega) (by omega)).2.1)
  have r17 : Ev (ER rho) (nY) ((G - 524288) * (1 + M)) := hY
  have b18 : Ev (ER rho) g18 (0) := ev_eq (evMul (ev_lit (0)) hK (by omega) (by omega)) (show ((0) * (1 + M)) = (0) by omega)
  have r18 : Ev (ER rho) (.int .i64 (0)) (0) := (ev_lit (0))
  have b19 : Ev (ER rho) g19 ((Q - P) * (1 + M)) := ev_eq (evMul hK hD (by omega) (by omega)) (show ((1 + M) * (Q - P)) = ((Q - P) * (1 + M)) by exact Int.mul_comm _ _)
  have r19 : Ev (ER rho) (nX) ((Q - P) * (1 + M)) := hX
  have b20 : Ev (ER rho) g20 (-((G - 524288) * (1 + M))) := ev_eq (evMul hNK hH (by omega) (by omega)) (show ((-(1 + M)) * (G - 524288)) = (-((G - 524288) * (1 + M))) by rw [Int.neg_mul, Int.mul_comm])
  have r20 : Ev (ER rho) (nNY) (-((G - 524288) * (1 + M))) := hNY
  have b21 : EvB (ER rho) g21 false := evB_eq (evLt hP (ev_lit (-2147483648))) (show decide (P < (-2147483648)) = false by exact decide_eq_false (by omega))
  have b22 : EvB (ER rho) g22 false := evB_eq (evGt hP (ev_lit (2147483648))) (show decide ((2147483648) < P) = false by exact decide_eq_false (by omega))
  have b23 : EvB (ER rho) g23 false := evB_eq (evLt hQ (ev_lit (-2147483648))) (show decide (Q < (-2147483648)) = false by exact decide_eq_false (by omega))
  have b24 : EvB (ER rho) g24 false := evB_eq (evGt hQ (ev_lit (2147483648))) (show decide ((2147483648) < Q) = false by exact decide_eq_false (by omega))
  have b25 : EvB (ER rho) g25 true := evB_eq (evLe (ev_lit (1)) hK) (show decide ((1) ≤ (1 + M)) = true by exact decide_eq_true (by omega))
  have b26 : EvB (ER rho) g26 true := evB_eq (evLe hK (ev_lit (65536))) (show decide ((1 + M) ≤ (65536)) = true by exact decide_eq_true (by omega))
  have b27 : EvB (ER rho) g27 true := evB_eq (evLe (ev_lit (0)) hP) (show decide ((0) ≤ P) = true by exact decide_eq_true (by omega))
  have b28 : EvB (ER rho) g28 true := evB_eq (evLe hP (ev_lit (1048576))) (show decide (P ≤ (1048576)) = true by exact decide_eq_true (by omega))
  have b29 : EvB (ER rho) g29 true := evB_eq (evLe (ev_lit (0)) hQ) (show decide ((0) ≤ Q) = true by exact decide_eq_true (by omega))
  have b30 : EvB (ER rho) g30 true := evB_eq (evLe hQ (ev_lit (1048576))) (show decide (Q ≤ (1048576)) = true by exact decide_eq_true (by omega))
  have b31 : EvB (ER rho) g31 false := evB_eq (evLt hH (ev_lit (-16777216))) (show decide ((G - 524288) < (-16777216)) = false by exact decide_eq_false (by omega))
  have b32 : EvB (ER rho) g32 false := evB_eq (evGt hH (ev_lit (16777216))) (show decide ((16777216) < (G - 524288)) = false by exact decide_eq_false (by omega))
  have b33 : EvB (ER rho) g33 true := evB_eq (evB4 20 (evAdd hP (evShr4 (evMin (evMul (ev_lit (5)) hD (by omega) (by omega)) (evMul (ev_lit (6)) hD (by omega) (by omega)))) (by omega) (by omega)) (evSub hP (evShr4 (evNeg (evMax (evMul (ev_lit (5)) hD (by omega) (by omega)) (evMul (ev_lit (6)) hD (by omega) (by omega))) (by omega) (by omega))) (by omega) (by omega)) (ev_lit (0)) (ev_lit (1048576))) ((show FB 20 [(P + ((mn ((5) * (Q - P)) ((6) * (Q - P))) / 16)), (P - ((-(mx ((5) * (Q - P)) ((6) * (Q - P)))) / 16)), (0), (1048576)] = s_iWithin (P + ((mn ((5) * (Q - P)) ((6) * (Q - P))) / 16)) (P - ((-(mx ((5) * (Q - P)) ((6) * (Q - P)))) / 16)) (0) (1048576) by kernel_rfl).trans (show s_iWithin (P + ((mn ((5) * (Q - P)) ((6) * (Q - P))) / 16)) (P - ((-(mx ((5) * (Q - P)) ((6) * (Q - P)))) / 16)) (0) (1048576) = true by exact box_in P Q hp1 hp2 hq1 hq2))
  have b34 : EvB (ER rho) g34 true := evB_eq (evB2 3 (evAdd hP (evShr4 (evMin (evMul (ev_lit (5)) hD (by omega) (by omega)) (evMul (ev_lit (6)) hD (by omega) (by omega)))) (by omega) (by omega)) (evSub hP (evShr4 (evNeg (evMax (evMul (ev_lit (5)) hD (by omega) (by omega)) (evMul (ev_lit (6)) hD (by omega) (by omega))) (by omega) (by omega))) (by omega) (by omega))) ((show FB 3 [(P + ((mn ((5) * (Q - P)) ((6) * (Q - P))) / 16)), (P - ((-(mx ((5) * (Q - P)) ((6) * (Q - P)))) / 16))] = s_Valid (P + ((mn ((5) * (Q - P)) ((6) * (Q - P))) / 16)) (P - ((-(mx ((5) * (Q - P)) ((6) * (Q - P)))) / 16)) by kernel_rfl).trans (show s_Valid (P + ((mn ((5) * (Q - P)) ((6) * (Q - P))) / 16)) (P - ((-(mx ((5) * (Q - P)) ((6) * (Q - P)))) / 16)) = true by exact box_valid P Q hp1 hp2 hq1 hq2))
  have b35 : EvB (ER rho) g35 true := evB_eq (evB4 248 (ev_lit (65536)) (ev_lit (65536)) hD hD) ((show FB 248 [(65536), (65536), (Q - P), (Q - P)] = s_dMul_2 (65536) (65536) (Q - P) (Q - P) by kernel_rfl).trans (show s_dMul_2 (65536) (65536) (Q - P) (Q - P) = true by exact (mul_one _ (by omega) (by omega)).2.2))
  have b36 : EvB (ER rho) g36 true := evB_eq (evB4 248 (ev_lit (0)) (ev_lit (0)) hD hD) ((show FB 248 [(0), (0), (Q - P), (Q - P)] = s_dMul_2 (0) (0) (Q - P) (Q - P) by kernel_rfl).trans (show s_dMul_2 (0) (0) (Q - P) (Q - P) = true by exact (mul_zero _ _ (by omega) (by omega) (by omega)).2.2))
  have b37 : EvB (ER rho) g37 true := evB_eq (evB4 245 (ev_lit (0)) (ev_lit (0)) hD hD) ((show FB 245 [(0), (0), (Q - P), (Q - P)] = s_dAdd_2 (0) (0) (Q - P) (Q - P) by kernel_rfl).trans (show s_dAdd_2 (0) (0) (Q - P) (Q - P) = true by exact (add_zl _ (by omega) (by omega)).2.2))
  have b38 : EvB (ER rho) g38 true := evB_eq (evB4 248 hD hD hD hD) ((show FB 248 [(Q - P), (Q - P), (Q - P), (Q - P)] = s_dMul_2 (Q - P) (Q - P) (Q - P) (Q - P) by kernel_rfl).trans (show s_dMul_2 (Q - P) (Q - P) (Q - P) (Q - P) = true by exact hDD))
  have b39 : EvB (ER rho) g39 true := evB_eq (evB4 248 (ev_lit (0)) (ev_lit (0)) hE0 hE1) ((show FB 248 [(0), (0), (s_dMul_0 (Q - P) (Q - P) (Q - P) (Q - P)), (s_dMul_1 (Q - P) (Q - P) (Q - P) (Q - P))] = s_dMul_2 (0) (0) (s_dMul_0 (Q - P) (Q - P) (Q - P) (Q - P)) (s_dMul_1 (Q - P) (Q - P) (Q - P) (Q - P)) by kernel_rfl).trans (show s_dMul_2 (0) (0) (s_dMul_0 (Q - P) (Q - P) (Q - P) (Q - P)) (s_dMul_1 (Q - P) (Q - P) (Q - P) (Q - P)) = true by exact (mul_zero _ _ (by omega) (by omega) (by omega)).2.2))
  have b40 : EvB (ER rho) g40 true := evB_eq (evB4 245 hD hD (ev_lit (0)) (ev_lit (0))) ((show FB 245 [(Q - P), (Q - P), (0), (0)] = s_dAdd_2 (Q - P) (Q - P) (0) (0) by kernel_rfl).trans (show s_dAdd_2 (Q - P) (Q - P) (0) (0) = true by exact (add_zr _ (by omega) (by omega)).2.2))
  have b41 : EvB (ER rho) g41 false := evB_eq (evLt hD (evNeg hZ (by omega) (by omega))) (show decide ((Q - P) < (-Z)) = false by exact decide_eq_false (by omega))
  have b42 : EvB (ER rho) g42 false := evB_eq (evGt hD hZ) (show decide (Z < (Q - P)) = false by exact decide_eq_false (by omega))
  have b43 : EvB (ER rho) g43 true := evB_eq (evB4 245 (ev_lit (0)) (ev_lit (0)) hX hX) ((show FB 245 [(0), (0), ((Q - P) * (1 + M)), ((Q - P) * (1 + M))] = s_dAdd_2 (0) (0) ((Q - P) * (1 + M)) ((Q - P) * (1 + M)) by kernel_rfl).trans (show s_dAdd_2 (0) (0) ((Q - P) * (1 + M)) ((Q - P) * (1 + M)) = true by exact (add_zl _ (by omega) (by omega)).2.2))
  have b44 : EvB (ER rho) g44 false := evB_eq (evLt (ev_lit (0)) (evNeg hZ (by omega) (by omega))) (show decide ((0) < (-Z)) = false by exact decide_eq_false (by omega))
  have b45 : EvB (ER rho) g45 false := evB_eq (evGt (ev_lit (0)) hZ) (show decide (Z < (0)) = false by exact decide_eq_false (by omega))
  have b46 : EvB (ER rho) g46 true := evB_eq (evB4 248 (ev_lit (65536)) (ev_lit (65536)) hH hH) ((show FB 248 [(65536), (65536), (G - 524288), (G - 524288)] = s_dMul_2 (65536) (65536) (G - 524288) (G - 524288) by kernel_rfl).trans (show s_dMul_2 (65536) (65536) (G - 524288) (G - 524288) = true by exact (mul_one _ (by omega) (by omega)).2.2))
  have b47 : EvB (ER rho) g47 true := evB_eq (evB4 245 hH hH (ev_lit (0)) (ev_lit (0))) ((show FB 245 [(G - 524288), (G - 524288), (0), (0)] = s_dAdd_2 (G - 524288) (G - 524288) (0) (0) by kernel_rfl).trans (show s_dAdd_2 (G - 524288) (G - 524288) (0) (0) = true by exact (add_zr _ (by omega) (by omega)).2.2))
  have b48 : EvB (ER rho) g48 false := evB_eq (evLt hH (evNeg hZ (by omega) (by omega))) (show decide ((G - 524288) < (-Z)) = false by exact decide_eq_false (by omega))
  have b49 : EvB (ER rho) g49 false := evB_eq (evGt hH hZ) (show decide (Z < (G - 524288)) = false by exact decide_eq_false (by omega))
  have b50 : EvB (ER rho) g50 true := evB_eq (evB4 245 (ev_lit (0)) (ev_lit (0)) hY hY) ((show FB 245 [(0), (0), ((G - 524288) * (1 + M)), ((G - 524288) * (1 + M))] = s_dAdd_2 (0) (0) ((G - 524288) * (1 + M)) ((G - 524288) * (1 + M)) by kernel_rfl).trans (show s_dAdd_2 (0) (0) ((G - 524288) * (1 + M)) ((G - 524288) * (1 + M)) = true by exact (add_zl _ (by omega) (by omega)).2.2))
  have b51 : EvB (ER rho) g51 true := evB_eq (evEq hX hX) (show (((Q - P) * (1 + M)) == ((Q - P) * (1 + M))) = true by exact beq_self_eq_true _)
  have b52 : EvB (ER rho) g52 true := evB_eq (evEq hNY hNY) (show ((-((G - 524288) * (1 + M))) == (-((G - 524288) * (1 + M)))) = true by exact beq_self_eq_true _)
  have b53 : EvB (ER rho) g53 false := evB_eq (evLt hP (ev_lit (0))) (show decide (P < (0)) = false by exact decide_eq_false (by omega))
  have b54 : EvB (ER rho) g54 false := evB_eq (evGt hP (ev_lit (1048576))) (show decide ((1048576) < P) = false by exact decide_eq_false (by omega))
  exact sat_cons (sat_i b0 r0) (sat_cons (sat_i b1 r1) (sat_cons (sat_i b2 r2) (sat_cons (sat_i b3 r3) (sat_cons (sat_i b4 r4) (sat_cons (sat_i b5 r5) (sat_cons (sat_i b6 r6) (sat_cons (sat_i b7 r7) (sat_cons (sat_i b8 r8) (sat_cons (sat_i b9 r9) (sat_cons (sat_i b10 r10) (sat_cons (sat_i b11 r11) (sat_cons (sat_i b12 r12) (sat_cons (sat_i b13 r13) (sat_cons (sat_i b14 r14) (sat_cons (sat_i b15 r15) (sat_cons (sat_i b16 r16) (sat_cons (sat_i b17 r17) (sat_cons (sat_i b18 r18) (sat_cons (sat_i b19 r19) (sat_cons (sat_i b20 r20) (sat_cons (sat_b b21) (sat_cons (sat_b b22) (sat_cons (sat_b b23) (sat_cons (sat_b b24) (sat_cons (sat_b b25) (sat_cons (sat_b b26) (sat_cons (sat_b b27) (sat_cons (sat_b b28) (sat_cons (sat_b b29) (sat_cons (sat_b b30) (sat_cons (sat_b b31) (sat_cons (sat_b b32) (sat_cons (sat_b b33) (sat_cons (sat_b b34) (sat_cons (sat_b b35) (sat_cons (sat_b b36) (sat_cons (sat_b b37) (sat_cons (sat_b b38) (sat_cons (sat_b b39) (sat_cons (sat_b b40) (sat_cons (sat_b b41) (sat_cons (sat_b b42) (sat_cons (sat_b b43) (sat_cons (sat_b b44) (sat_cons (sat_b b45) (sat_cons (sat_b b46) (sat_cons (sat_b b47) (sat_cons (sat_b b48) (sat_cons (sat_b b49) (sat_cons (sat_b b50) (sat_cons (sat_b b51) (sat_cons (sat_b b52) (sat_cons (sat_b b53) (sat_cons (sat_b b54) (sat_nil _)))))))))))))))))))))))))))))))))))))))))))))))))))))))
theorem satSl (a b m g : Int) : Sat (envOf [a, b, m, g]) gamSl :=
  satR (fun i => [a, b, m, g].getD i 0) (a % 1048576) (b % 1048576) (m % 60000) (g % 1048576) (by omega) (by omega) (by omega) (by omega) (by omega) (by omega) (by omega) (by omega) ⟨300, by kernel_rfl⟩ ⟨300, by kernel_rfl⟩ ⟨300, by kernel_rfl⟩ ⟨300, by kernel_rfl⟩

theorem esSl_ok (L : List Int) : ∀ e ∈ esSl, EntOk Tryz.prog (envOf L) e := by
  intro e he
  simp only [esSl, List.mem_cons, List.not_mem_nil, or_false] at he
  rcases he with rfl | rfl | rfl | rfl | rfl | rfl | rfl | rfl | rfl | rfl | rfl | rfl | rfl | rfl | rfl | rfl | rfl | rfl | rfl
  · exact entOk_env rfl rfl ok_mComp
  · exact entOk_env rfl rfl ok_ShDown
  · exact entOk_env rfl rfl ok_ShUp
  · exact entOk_env rfl rfl ok_Clamp
  · exact entOk_env rfl rfl ok_Of
  · exact entOk_env rfl rfl ok_mPoint
  · exact entOk_env rfl rfl ok_lim
  · exact entOk_env rfl rfl ok_Valid
  · exact entOk_env rfl rfl ok_valid2
  · exact entOk_env rfl rfl ok_scaled
  · exact entOk_env rfl rfl ok_iAdd
  · exact entOk_env rfl rfl ok_iMul
  · exact entOk_env rfl rfl ok_iNeg
  · exact entOk_env rfl rfl ok_iHull
  · exact entOk_env rfl rfl ok_iHas
  · exact entOk_env rfl rfl ok_iWithin
  · exact entOk_env rfl rfl ok_dSmall
  · exact entOk_env rfl rfl ok_dAdd
  · exact entOk_env rfl rfl ok_dMul
theorem round_lit (L : List Int) (x k : Int) (w : World) (h1 : 1 ≤ k) (h2 : k ≤ 1099511627776) : Calls Tryz.prog 14 #[num x, num k] w fun e w' => e = .returned (num ((envOf L).fn 258 [x, k])) ∧ Below w.heap.size w w' := by
  have e : (envOf L).fn 258 [x, k] = x % k := by kernel_rfl
  rw [e]
  refine (En.round_any x k w (by omega) (by omega)).mono ?_
  rintro r w' ⟨rfl, rfl⟩
  exact ⟨rfl, Below.refl _ _⟩
/-- The law of sliding joints returns true. -/
theorem slidersLaw (a b m g : Int) (w : World) : Calls Tryz.prog 7 #[.int .i64 a, .int .i64 b, .int .i64 m, .int .i64 g] w fun e w' => e = .returned (.bool true) ∧ Below w.heap.size w w' := by
  obtain ⟨H', md, h⟩ := okS_some (runSl [a, b, m, g])
  exact symCall (X := xtOf [a, b, m, g] gamSl) Tryz.mixed Tryz.namedS (xtOf_good _ _ (satSl a b m g)) (esc := Tryz.esc) (fuel := 200) (n := 16) (S := oracle (xtOf [a, b, m, g] gamSl))
    (litS_good (round_lit _) (closedS_good Tryz.awake (sumS_good (satSl a b m g) _ (esSl_ok _)))) (litS_pure (closedS_pure (sumS_pure _ _))) (f := 7) (xs := [var 0, var 1, var 2, var 3]) h (ys := [num a, num b, num m, num g]) (u := .bool true) (by kernel_rfl) (by kernel_rfl) w
end Go.Proofs
