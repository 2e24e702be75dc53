/-
  Walks: a wide number over 65536.
-/
import Derived.Test.YthbfmjlcnfgnbaaGreatRc
import Derived.Test.YthbfmjlcnfgnbaaGreatCe
namespace Go.Proofs.En
open Go.RowKit

theorem cells3 (w : World) (x y z x' y' z' : Value) (t : TypeId) (n : Nat) :
    Row (((w.alloc (.cells #[x, y, z] t)).alloc (.cells #[x', y', z'] t)).drewN n) w.heap.size [x, y, z] ∧ Row (((w.alloc (.cells #[x, y, z] t)).alloc (.cells #[x', y', z'] t)).drewN n) (w.heap.size + 1) [x', y', z'] ∧
    (∀ o, (((w.alloc (.cells #[x, y, z] t)).alloc (.cells #[x', y', z'] t)).drewN n).frozen? ⟨w.heap.size + 1, o, none⟩ = false) ∧ Below w.heap.size w (((w.alloc (.cells #[x, y, z] t)).alloc (.cells #[x', y', z'] t)).drewN n) := by
  have hd : Below ((w.alloc (.cells #[x, y, z] t)).alloc (.cells #[x', y', z'] t)).heap.size ((w.alloc (.cells #[x, y, z] t)).alloc (.cells #[x', y', z'] t)) (((w.alloc (.cells #[x, y, z] t)).alloc (.cells #[x', y', z'] t)).drewN n) := ⟨rfl, rfl, rfl, Nat.le_refl _, fun _ _ => rfl⟩
  have e : (w.alloc (.cells #[x, y, z] t)).heap.size = w.heap.size + 1 := by simp
  have r2 := (Row.new (w.alloc (.cells #[x, y, z] t)) [x', y', z'] t).keep hd
  rw [e] at r2
  refine ⟨((Row.new w [x, y, z] t).al _).keep hd, r2, fun o => ?_, below_call (((Below.refl _ _).alloc (Nat.le_refl _) _).alloc (by simp) _) hd⟩
  have hh : (((w.alloc (.cells #[x, y, z] t)).alloc (.cells #[x', y', z'] t)).drewN n).heap[w.heap.size + 1]? = some (.cells #[x', y', z'] t) := by
    show ((w.alloc (.cells #[x, y, z] t)).heap.push (.cells #[x', y', z'] t))[w.heap.size + 1]? = _
    rw [← e]; exact Array.getElem?_push_size
  simp only [World.frozen?, hh]
  simp

/-- The quotient, rounded down or up. -/
def overV (p : Int) (up : Bool) : Int := if up then (p + 65535) / 65536 else p / 65536

set_option maxHeartbeats 1000000 in
theorem over_dpr (p : Int) (w : World) (hp : absI p < 340282366920938463463374607431768211456) (hs : 0 ≤ p) (hr : 0 < absI p % 65536) :
    Calls Tryz.prog 56 #[.agg #[.bool (decide (p < 0)), .int .u64 (absI p / 18446744073709551616), .int .u64 (absI p % 18446744073709551616)], .int .u64 65536, .bool false] w (WideP (overV p false) w) := by
  have dn : decide (p < 0) = false := by simp; omega
  rw [dn]
  have hM : absI p = p := absI_pos hs
  generalize hg : overV p false = g
  unfold overV at hg
  simp only [Bool.false_eq_true, if_false] at hg
  generalize hH : absI p / 18446744073709551616 = H
  generalize hL : absI p % 18446744073709551616 = L
  have l0 : 0 ≤ L := by omega
  have l1 : L ≤ 18446744073709551615 := by omega
  have k0 : 0 ≤ H := by omega
  have k1 : H ≤ 18446744073709551615 := by omega
  obtain ⟨h, hh⟩ : ∃ h, H / 65536 = h := ⟨_, rfl⟩
  obtain ⟨m, hm⟩ : ∃ m, H % 65536 = m := ⟨_, rfl⟩
  obtain ⟨q, hq⟩ : ∃ q, m * 281474976710656 + L / 65536 = q := ⟨_, rfl⟩
  obtain ⟨r, hr'⟩ : ∃ r, L % 65536 = r := ⟨_, rfl⟩
  have m0 : 0 ≤ m := by omega
  have m1 : m < 65536 := by omega
  have q0 : 0 ≤ q := by omega
  have q1 : q ≤ 18446744073709551615 := by omega
  have h0 : 0 ≤ h := by omega
  have h1 : h ≤ 281474976710655 := by omega
  have r0 : 0 < r := by omega
  have hdv : ∀ w, Calls Tryz.prog 91 #[.int .u64 m, .int .u64 L, .int .u64 65536] w fun e w' => e = .returned (.tuple #[.int .u64 q, .int .u64 r]) ∧ ∃ n, w' = w.drewN n := fun w => by
    rw [← hq, ← hr']; exact div_any m L w m0 m1 l0 l1
  have hgx : h = absI g / 18446744073709551616 ∧ q = absI g % 18446744073709551616 := by
    have : absI g = g := (by unfold absI; split <;> omega)
    omega
  have hzg : false = decide (g < 0) := by symm; simp; omega
  have HG := Lib.hid hgx
  have HZ := Lib.hid hzg
  have HD := Lib.hid hdv
  clear hgx hzg hdv hg hH hL hM hq hr' dn hp hs hr
  go_enter Tryz.func56, Tryz.ntmps56
  go_wp2_with fail
  go_quiet ((go_at_call 91; exact Calls.quiet_of (HD.out _)))
  obtain ⟨k1', k2', k3', k4'⟩ := cells3 w (.bool false) (.int .u64 H) (.int .u64 L) (.bool false) (.int .u64 0) (.int .u64 0) 110 nq
  generalize ((w.alloc (.cells #[.bool false, .int .u64 H, .int .u64 L] 110)).alloc (.cells #[.bool false, .int .u64 0, .int .u64 0] 110)).drewN nq = V at k1' k2' k3' k4' ⊢
  have v0 := k1'.c 0 _ rfl
  have v1 := k1'.c 1 _ rfl
  have v2 := k1'.c 2 _ rfl
  have w0 := k2'.c 0 _ rfl
  have w1 := k2'.c 1 _ rfl
  have w2 := k2'.c 2 _ rfl
  go_wp2
  refine bodyPost_ret (v := .agg #[.bool false, .int .u64 h, .int .u64 q]) (by simp [results, Tryz.results56, go_sem, w0, w1, w2]) rfl (wideP_mk HZ.out HG.out.1 HG.out.2 ?_)
  exact ((k4'.setCell (p := ⟨w.heap.size + 1, 0, none⟩) (by simp) _).setCell (p := ⟨w.heap.size + 1, 1, none⟩) (by simp) _).setCell (p := ⟨w.heap.size + 1, 2, none⟩) (by simp) _

set_option maxHeartbeats 1000000 in
theorem over_dpz (p : Int) (w : World) (hp : absI p < 340282366920938463463374607431768211456) (hs : 0 ≤ p) (hr : absI p % 65536 = 0) :
    Calls Tryz.prog 56 #[.agg #[.bool (decide (p < 0)), .int .u64 (absI p / 18446744073709551616), .int .u64 (absI p % 18446744073709551616)], .int .u64 65536, .bool false] w (WideP (overV p false) w) := by
  have dn : decide (p < 0) = false := by simp; omega
  rw [dn]
  have hM : absI p = p := absI_pos hs
  generalize hg : overV p false = g
  unfold overV at hg
  simp only [Bool.false_eq_true, if_false] at hg
  generalize hH : absI p / 18446744073709551616 = H
  generalize hL : absI p % 18446744073709551616 = L
  have l0 : 0 ≤ L := by omega
  have l1 : L ≤ 18446744073709551615 := by omega
  have k0 : 0 ≤ H := by omega
  have k1 : H ≤ 18446744073709551615 := by omega
  obtain ⟨h, hh⟩ : ∃ h, H / 65536 = h := ⟨_, rfl⟩
  obtain ⟨m, hm⟩ : ∃ m, H % 65536 = m := ⟨_, rfl⟩
  obtain ⟨q, hq⟩ : ∃ q, m * 281474976710656 + L / 65536 = q := ⟨_, rfl⟩
  obtain ⟨r, hr'⟩ : ∃ r, L % 65536 = r := ⟨_, rfl⟩
  have m0 : 0 ≤ m := by omega
  have m1 : m < 65536 := by omega
  have q0 : 0 ≤ q := by omega
  have q1 : q ≤ 18446744073709551615 := by omega
  have h0 : 0 ≤ h := by omega
  have h1 : h ≤ 281474976710655 := by omega
  have r0 : r = 0 := by omega
  have hdv : ∀ w, Calls Tryz.prog 91 #[.int .u64 m, .int .u64 L, .int .u64 65536] w fun e w' => e = .returned (.tuple #[.int .u64 q, .int .u64 r]) ∧ ∃ n, w' = w.drewN n := fun w => by
    rw [← hq, ← hr']; exact div_any m L w m0 m1 l0 l1
  have hgx : h = absI g / 18446744073709551616 ∧ q = absI g % 18446744073709551616 := by
    have : absI g = g := (by unfold absI; split <;> omega)
    omega
  have hzg : false = decide (g < 0) := by symm; simp; omega
  have HG := Lib.hid hgx
  have HZ := Lib.hid hzg
  have HD := Lib.hid hdv
  subst r0
  clear hgx hzg hdv hg hH hL hM hq hr' dn hp hs hr
  go_enter Tryz.func56, Tryz.ntmps56
  go_wp2_with fail
  go_quiet ((go_at_call 91; exact Calls.quiet_of (HD.out _)))
  obtain ⟨k1', k2', k3', k4'⟩ := cells3 w (.bool false) (.int .u64 H) (.int .u64 L) (.bool false) (.int .u64 0) (.int .u64 0) 110 nq
  generalize ((w.alloc (.cells #[.bool false, .int .u64 H, .int .u64 L] 110)).alloc (.cells #[.bool false, .int .u64 0, .int .u64 0] 110)).drewN nq = V at k1' k2' k3' k4' ⊢
  have v0 := k1'.c 0 _ rfl
  have v1 := k1'.c 1 _ rfl
  have v2 := k1'.c 2 _ rfl
  have w0 := k2'.c 0 _ rfl
  have w1 := k2'.c 1 _ rfl
  have w2 := k2'.c 2 _ rfl
  go_wp2
  refine bodyPost_ret (v := .agg #[.bool false, .int .u64 h, .int .u64 q]) (by simp [results, Tryz.results56, go_sem, w0, w1, w2]) rfl (wideP_mk HZ.out HG.out.1 HG.out.2 ?_)
  exact ((k4'.setCell (p := ⟨w.heap.size + 1, 0, none⟩) (by simp) _).setCell (p := ⟨w.heap.size + 1, 1, none⟩) (by simp) _).setCell (p := ⟨w.heap.size + 1, 2, none⟩) (by simp) _

set_option maxHeartbeats 1000000 in
theorem over_dnr (p : Int) (w : World) (hp : absI p < 340282366920938463463374607431768211456) (hs : p < 0) (hr : 0 < absI p % 65536) :
    Calls Tryz.prog 56 #[.agg #[.bool (decide (p < 0)), .int .u64 (absI p / 18446744073709551616), .int .u64 (absI p % 18446744073709551616)], .int .u64 65536, .bool false] w (WideP (overV p false) w) := by
  have dn : decide (p < 0) = true := by simp; omega
  rw [dn]
  have hM : absI p = -p := absI_neg hs
  generalize hg : overV p false = g
  unfold overV at hg
  simp only [Bool.false_eq_true, if_false] at hg
  generalize hH : absI p / 18446744073709551616 = H
  generalize hL : absI p % 18446744073709551616 = L
  have l0 : 0 ≤ L := by omega
  have l1 : L ≤ 18446744073709551615 := by omega
  have k0 : 0 ≤ H := by omega
  have k1 : H ≤ 18446744073709551615 := by omega
  obtain ⟨h, hh⟩ : ∃ h, H / 65536 = h := ⟨_, rfl⟩
  obtain ⟨m, hm⟩ : ∃ m, H % 65536 = m := ⟨_, rfl⟩
  obtain ⟨q, hq⟩ : ∃ q, m * 281474976710656 + L / 65536 = q := ⟨_, rfl⟩
  obtain ⟨r, hr'⟩ : ∃ r, L % 65536 = r := ⟨_, rfl⟩
  have m0 : 0 ≤ m := by omega
  have m1 : m < 65536 := by omega
  have q0 : 0 ≤ q := by omega
  have q1 : q ≤ 18446744073709551615 := by omega
  have h0 : 0 ≤ h := by omega
  have h1 : h ≤ 281474976710655 := by omega
  have r0 : 0 < r := by omega
  have hdv : ∀ w, Calls Tryz.prog 91 #[.int .u64 m, .int .u64 L, .int .u64 65536] w fun e w' => e = .returned (.tuple #[.int .u64 q, .int .u64 r]) ∧ ∃ n, w' = w.drewN n := fun w => by
    rw [← hq, ← hr']; exact div_any m L w m0 m1 l0 l1
  have had := fun w => add64_run q 1 q0 (by omega) w
  obtain ⟨X, hX⟩ : ∃ X, (q + 1) % 18446744073709551616 = X := ⟨_, rfl⟩
  obtain ⟨C, hC⟩ : ∃ C, (q + 1) / 18446744073709551616 = C := ⟨_, rfl⟩
  rw [hX, hC] at had
  have x0 : 0 ≤ X := by omega
  have x1 : X ≤ 18446744073709551615 := by omega
  have y0 : 0 ≤ C := by omega
  have y1 : C ≤ 1 := by omega
  have hor := or_pos (h + C) X (by omega) (by omega) x0 x1
  obtain ⟨z, hz⟩ : ∃ z, decide (0 < (h + C) + X) = z := ⟨_, rfl⟩
  rw [hz] at hor
  have hzg : z = decide (g < 0) := by rw [← hz, Bool.eq_iff_iff]; simp only [decide_eq_true_eq]; omega
  have hgx : (h + C) = absI g / 18446744073709551616 ∧ X = absI g % 18446744073709551616 := by
    have : absI g = -g := (by unfold absI; split <;> omega)
    omega
  have HG := Lib.hid hgx
  have HZ := Lib.hid hzg
  have HD := Lib.hid hdv
  clear hgx hzg hdv hg hH hL hM hq hr' dn hp hs hr hz hX hC
  go_enter Tryz.func56, Tryz.ntmps56
  go_wp2_with fail
  go_quiet ((go_at_call 91; exact Calls.quiet_of (HD.out _)))
  obtain ⟨k1', k2', k3', k4'⟩ := cells3 w (.bool true) (.int .u64 H) (.int .u64 L) (.bool false) (.int .u64 0) (.int .u64 0) 110 nq
  generalize ((w.alloc (.cells #[.bool true, .int .u64 H, .int .u64 L] 110)).alloc (.cells #[.bool false, .int .u64 0, .int .u64 0] 110)).drewN nq = V at k1' k2' k3' k4' ⊢
  have v0 := k1'.c 0 _ rfl
  have v1 := k1'.c 1 _ rfl
  have v2 := k1'.c 2 _ rfl
  have w0 := k2'.c 0 _ rfl
  have w1 := k2'.c 1 _ rfl
  have w2 := k2'.c 2 _ rfl
  go_wp2
  refine bodyPost_ret (v := .agg #[.bool z, .int .u64 (h + C), .int .u64 X]) (by simp [results, Tryz.results56, go_sem, w0, w1, w2]) rfl (wideP_mk HZ.out HG.out.1 HG.out.2 ?_)
  exact ((k4'.setCell (p := ⟨w.heap.size + 1, 0, none⟩) (by simp) _).setCell (p := ⟨w.heap.size + 1, 1, none⟩) (by simp) _).setCell (p := ⟨w.heap.size + 1, 2, none⟩) (by simp) _

set_option maxHeartbeats 1000000 in
theorem over_dnz (p : Int) (w : World) (hp : absI p < 340282366920938463463374607431768211456) (hs : p < 0) (hr : absI p % 65536 = 0) :
    Calls Tryz.prog 56 #[.agg #[.bool (decide (p < 0)), .int .u64 (absI p / 18446744073709551616), .int .u64 (absI p % 18446744073709551616)], .int .u64 65536, .bool false] w (WideP (overV p false) w) := by
  have dn : decide (p < 0) = true := by simp; omega
  rw [dn]
  have hM : absI p = -p := absI_neg hs
  generalize hg : overV p false = g
  unfold overV at hg
  simp only [Bool.false_eq_true, if_false] at hg
  generalize hH : absI p / 18446744073709551616 = H
  generalize hL : absI p % 18446744073709551616 = L
  have l0 : 0 ≤ L := by omega
  have l1 : L ≤ 18446744073709551615 := by omega
  have k0 : 0 ≤ H := by omega
  have k1 : H ≤ 18446744073709551615 := by omega
  obtain ⟨h, hh⟩ : ∃ h, H / 65536 = h := ⟨_, rfl⟩
  obtain ⟨m, hm⟩ : ∃ m, H % 65536 = m := ⟨_, rfl⟩
  obtain ⟨q, hq⟩ : ∃ q, m * 281474976710656 + L / 65536 = q := ⟨_, rfl⟩
  obtain ⟨r, hr'⟩ : ∃ r, L % 65536 = r := ⟨_, rfl⟩
  have m0 : 0 ≤ m := by omega
  have m1 : m < 65536 := by omega
  have q0 : 0 ≤ q := by omega
  have q1 : q ≤ 18446744073709551615 := by omega
  have h0 : 0 ≤ h := by omega
  have h1 : h ≤ 281474976710655 := by omega
  have r0 : r = 0 := by omega
  have hdv : ∀ w, Calls Tryz.prog 91 #[.int .u64 m, .int .u64 L, .int .u64 65536] w fun e w' => e = .returned (.tuple #[.int .u64 q, .int .u64 r]) ∧ ∃ n, w' = w.drewN n := fun w => by
    rw [← hq, ← hr']; exact div_any m L w m0 m1 l0 l1
  have hor := or_pos h q (by omega) (by omega) q0 q1
  obtain ⟨z, hz⟩ : ∃ z, decide (0 < h + q) = z := ⟨_, rfl⟩
  rw [hz] at hor
  have hzg : z = decide (g < 0) := by rw [← hz, Bool.eq_iff_iff]; simp only [decide_eq_true_eq]; omega
  have hgx : h = absI g / 18446744073709551616 ∧ q = absI g % 18446744073709551616 := by
    have : absI g = -g := (by unfold absI; split <;> omega)
    omega
  have HG := Lib.hid hgx
  have HZ := Lib.hid hzg
  have HD := Lib.hid hdv
  subst r0
  clear hgx hzg hdv hg hH hL hM hq hr' dn hp hs hr hz
  go_enter Tryz.func56, Tryz.ntmps56
  go_wp2_with fail
  go_quiet ((go_at_call 91; exact Calls.quiet_of (HD.out _)))
  obtain ⟨k1', k2', k3', k4'⟩ := cells3 w (.bool true) (.int .u64 H) (.int .u64 L) (.bool false) (.int .u64 0) (.int .u64 0) 110 nq
  generalize ((w.alloc (.cells #[.bool true, .int .u64 H, .int .u64 L] 110)).alloc (.cells #[.bool false, .int .u64 0, .int .u64 0] 110)).drewN nq = V at k1' k2' k3' k4' ⊢
  have v0 := k1'.c 0 _ rfl
  have v1 := k1'.c 1 _ rfl
  have v2 := k1'.c 2 _ rfl
  have w0 := k2'.c 0 _ rfl
  have w1 := k2'.c 1 _ rfl
  have w2 := k2'.c 2 _ rfl
  go_wp2
  refine bodyPost_ret (v := .agg #[.bool z, .int .u64 h, .int .u64 q]) (by simp [results, Tryz.results56, go_sem, w0, w1, w2]) rfl (wideP_mk HZ.out HG.out.1 HG.out.2 ?_)
  exact ((k4'.setCell (p := ⟨w.heap.size + 1, 0, none⟩) (by simp) _).setCell (p := ⟨w.heap.size + 1, 1, none⟩) (by simp) _).setCell (p := ⟨w.heap.size + 1, 2, none⟩) (by simp) _

set_option maxHeartbeats 1000000 in
theorem over_upr (p : Int) (w : World) (hp : absI p < 340282366920938463463374607431768211456) (hs : 0 ≤ p) (hr : 0 < absI p % 65536) :
    Calls Tryz.prog 56 #[.agg #[.bool (decide (p < 0)), .int .u64 (absI p / 18446744073709551616), .int .u64 (absI p % 18446744073709551616)], .int .u64 65536, .bool true] w (WideP (overV p true) w) := by
  have dn : decide (p < 0) = false := by simp; omega
  rw [dn]
  have hM : absI p = p := absI_pos hs
  generalize hg : overV p true = g
  unfold overV at hg
  simp only [if_true] at hg
  generalize hH : absI p / 18446744073709551616 = H
  generalize hL : absI p % 18446744073709551616 = L
  have l0 : 0 ≤ L := by omega
  have l1 : L ≤ 18446744073709551615 := by omega
  have k0 : 0 ≤ H := by omega
  have k1 : H ≤ 18446744073709551615 := by omega
  obtain ⟨h, hh⟩ : ∃ h, H / 65536 = h := ⟨_, rfl⟩
  obtain ⟨m, hm⟩ : ∃ m, H % 65536 = m := ⟨_, rfl⟩
  obtain ⟨q, hq⟩ : ∃ q, m * 281474976710656 + L / 65536 = q := ⟨_, rfl⟩
  obtain ⟨r, hr'⟩ : ∃ r, L % 65536 = r := ⟨_, rfl⟩
  have m0 : 0 ≤ m := by omega
  have m1 : m < 65536 := by omega
  have q0 : 0 ≤ q := by omega
  have q1 : q ≤ 18446744073709551615 := by omega
  have h0 : 0 ≤ h := by omega
  have h1 : h ≤ 281474976710655 := by omega
  have r0 : 0 < r := by omega
  have hdv : ∀ w, Calls Tryz.prog 91 #[.int .u64 m, .int .u64 L, .int .u64 65536] w fun e w' => e = .returned (.tuple #[.int .u64 q, .int .u64 r]) ∧ ∃ n, w' = w.drewN n := fun w => by
    rw [← hq, ← hr']; exact div_any m L w m0 m1 l0 l1
  have had := fun w => add64_run q 1 q0 (by omega) w
  obtain ⟨X, hX⟩ : ∃ X, (q + 1) % 18446744073709551616 = X := ⟨_, rfl⟩
  obtain ⟨C, hC⟩ : ∃ C, (q + 1) / 18446744073709551616 = C := ⟨_, rfl⟩
  rw [hX, hC] at had
  have x0 : 0 ≤ X := by omega
  have x1 : X ≤ 18446744073709551615 := by omega
  have y0 : 0 ≤ C := by omega
  have y1 : C ≤ 1 := by omega
  have hgx : (h + C) = absI g / 18446744073709551616 ∧ X = absI g % 18446744073709551616 := by
    have : absI g = g := (by unfold absI; split <;> omega)
    omega
  have hzg : false = decide (g < 0) := by symm; simp; omega
  have HG := Lib.hid hgx
  have HZ := Lib.hid hzg
  have HD := Lib.hid hdv
  clear hgx hzg hdv hg hH hL hM hq hr' dn hp hs hr hX hC
  go_enter Tryz.func56, Tryz.ntmps56
  go_wp2_with fail
  go_quiet ((go_at_call 91; exact Calls.quiet_of (HD.out _)))
  obtain ⟨k1', k2', k3', k4'⟩ := cells3 w (.bool false) (.int .u64 H) (.int .u64 L) (.bool false) (.int .u64 0) (.int .u64 0) 110 nq
  generalize ((w.alloc (.cells #[.bool false, .int .u64 H, .int .u64 L] 110)).alloc (.cells #[.bool false, .int .u64 0, .int .u64 0] 110)).drewN nq = V at k1' k2' k3' k4' ⊢
  have v0 := k1'.c 0 _ rfl
  have v1 := k1'.c 1 _ rfl
  have v2 := k1'.c 2 _ rfl
  have w0 := k2'.c 0 _ rfl
  have w1 := k2'.c 1 _ rfl
  have w2 := k2'.c 2 _ rfl
  go_wp2
  refine bodyPost_ret (v := .agg #[.bool false, .int .u64 (h + C), .int .u64 X]) (by simp [results, Tryz.results56, go_sem, w0, w1, w2]) rfl (wideP_mk HZ.out HG.out.1 HG.out.2 ?_)
  exact ((k4'.setCell (p := ⟨w.heap.size + 1, 0, none⟩) (by simp) _).setCell (p := ⟨w.heap.size + 1, 1, none⟩) (by simp) _).setCell (p := ⟨w.heap.size + 1, 2, none⟩) (by simp) _

set_option maxHeartbeats 1000000 in
theorem over_upz (p : Int) (w : World) (hp : absI p < 340282366920938463463374607431768211456) (hs : 0 ≤ p) (hr : absI p % 65536 = 0) :
    Calls Tryz.prog 56 #[.agg #[.bool (decide (p < 0)), .int .u64 (absI p / 18446744073709551616), .int .u64 (absI p % 18446744073709551616)], .int .u64 65536, .bool true] w (WideP (overV p true) w) := by
  have dn : decide (p < 0) = false := by simp; omega
  rw [dn]
  have hM : absI p = p := absI_pos hs
  generalize hg : overV p true = g
  unfold overV at hg
  simp only [if_true] at hg
  generalize hH : absI p / 18446744073709551616 = H
  generalize hL : absI p % 18446744073709551616 = L
  have l0 : 0 ≤ L := by omega
  have l1 : L ≤ 18446744073709551615 := by omega
  have k0 : 0 ≤ H := by omega
  have k1 : H ≤ 18446744073709551615 := by omega
  obtain ⟨h, hh⟩ : ∃ h, H / 65536 = h := ⟨_, rfl⟩
  obtain ⟨m, hm⟩ : ∃ m, H % 65536 = m := ⟨_, rfl⟩
  obtain ⟨q, hq⟩ : ∃ q, m * 281474976710656 + L / 65536 = q := ⟨_, rfl⟩
  obtain ⟨r, hr'⟩ : ∃ r, L % 65536 = r := ⟨_, rfl⟩
  have m0 : 0 ≤ m := by omega
  have m1 : m < 65536 := by omega
  have q0 : 0 ≤ q := by omega
  have q1 : q ≤ 18446744073709551615 := by omega
  have h0 : 0 ≤ h := by omega
  have h1 : h ≤ 281474976710655 := by omega
  have r0 : r = 0 := by omega
  have hdv : ∀ w, Calls Tryz.prog 91 #[.int .u64 m, .int .u64 L, .int .u64 65536] w fun e w' => e = .returned (.tuple #[.int .u64 q, .int .u64 r]) ∧ ∃ n, w' = w.drewN n := fun w => by
    rw [← hq, ← hr']; exact div_any m L w m0 m1 l0 l1
  have hgx : h = absI g / 18446744073709551616 ∧ q = absI g % 18446744073709551616 := by
    have : absI g = g := (by unfold absI; split <;> omega)
    omega
  have hzg : false = decide (g < 0) := by symm; simp; omega
  have HG := Lib.hid hgx
  have HZ := Lib.hid hzg
  have HD := Lib.hid hdv
  subst r0
  clear hgx hzg hdv hg hH hL hM hq hr' dn hp hs hr
  go_enter Tryz.func56, Tryz.ntmps56
  go_wp2_with fail
  go_quiet ((go_at_call 91; exact Calls.quiet_of (HD.out _)))
  obtain ⟨k1', k2', k3', k4'⟩ := cells3 w (.bool false) (.int .u64 H) (.int .u64 L) (.bool false) (.int .u64 0) (.int .u64 0) 110 nq
  generalize ((w.alloc (.cells #[.bool false, .int .u64 H, .int .u64 L] 110)).alloc (.cells #[.bool false, .int .u64 0, .int .u64 0] 110)).drewN nq = V at k1' k2' k3' k4' ⊢
  have v0 := k1'.c 0 _ rfl
  have v1 := k1'.c 1 _ rfl
  have v2 := k1'.c 2 _ rfl
  have w0 := k2'.c 0 _ rfl
  have w1 := k2'.c 1 _ rfl
  have w2 := k2'.c 2 _ rfl
  go_wp2
  refine bodyPost_ret (v := .agg #[.bool false, .int .u64 h, .int .u64 q]) (by simp [results, Tryz.results56, go_sem, w0, w1, w2]) rfl (wideP_mk HZ.out HG.out.1 HG.out.2 ?_)
  exact ((k4'.setCell (p := ⟨w.heap.size + 1, 0, none⟩) (by simp) _).setCell (p := ⟨w.heap.size + 1, 1, none⟩) (by simp) _).setCell (p := ⟨w.heap.size + 1, 2, none⟩) (by simp) _

set_option maxHeartbeats 1000000 in
theorem over_unr (p : Int) (w : World) (hp : absI p < 340282366920938463463374607431768211456) (hs : p < 0) (hr : 0 < absI p % 65536) :
    Calls Tryz.prog 56 #[.agg #[.bool (decide (p < 0)), .int .u64 (absI p / 18446744073709551616), .int .u64 (absI p % 18446744073709551616)], .int .u64 65536, .bool true] w (WideP (overV p true) w) := by
  have dn : decide (p < 0) = true := by simp; omega
  rw [dn]
  have hM : absI p = -p := absI_neg hs
  generalize hg : overV p true = g
  unfold overV at hg
  simp only [if_true] at hg
  generalize hH : absI p / 18446744073709551616 = H
  generalize hL : absI p % 18446744073709551616 = L
  have l0 : 0 ≤ L := by omega
  have l1 : L ≤ 18446744073709551615 := by omega
  have k0 : 0 ≤ H := by omega
  have k1 : H ≤ 18446744073709551615 := by omega
  obtain ⟨h, hh⟩ : ∃ h, H / 65536 = h := ⟨_, rfl⟩
  obtain ⟨m, hm⟩ : ∃ m, H % 65536 = m := ⟨_, rfl⟩
  obtain ⟨q, hq⟩ : ∃ q, m * 281474976710656 + L / 65536 = q := ⟨_, rfl⟩
  obtain ⟨r, hr'⟩ : ∃ r, L % 65536 = r := ⟨_, rfl⟩
  have m0 : 0 ≤ m := by omega
  have m1 : m < 65536 := by omega
  have q0 : 0 ≤ q := by omega
  have q1 : q ≤ 18446744073709551615 := by omega
  have h0 : 0 ≤ h := by omega
  have h1 : h ≤ 281474976710655 := by omega
  have r0 : 0 < r := by omega
  have hdv : ∀ w, Calls Tryz.prog 91 #[.int .u64 m, .int .u64 L, .int .u64 65536] w fun e w' => e = .returned (.tuple #[.int .u64 q, .int .u64 r]) ∧ ∃ n, w' = w.drewN n := fun w => by
    rw [← hq, ← hr']; exact div_any m L w m0 m1 l0 l1
  have hor := or_pos h q (by omega) (by omega) q0 q1
  obtain ⟨z, hz⟩ : ∃ z, decide (0 < h + q) = z := ⟨_, rfl⟩
  rw [hz] at hor
  have hzg : z = decide (g < 0) := by rw [← hz, Bool.eq_iff_iff]; simp only [decide_eq_true_eq]; omega
  have hgx : h = absI g / 18446744073709551616 ∧ q = absI g % 18446744073709551616 := by
    have : absI g = -g := (by unfold absI; split <;> omega)
    omega
  have HG := Lib.hid hgx
  have HZ := Lib.hid hzg
  have HD := Lib.hid hdv
  clear hgx hzg hdv hg hH hL hM hq hr' dn hp hs hr hz
  go_enter Tryz.func56, Tryz.ntmps56
  go_wp2_with fail
  go_quiet ((go_at_call 91; exact Calls.quiet_of (HD.out _)))
  obtain ⟨k1', k2', k3', k4'⟩ := cells3 w (.bool true) (.int .u64 H) (.int .u64 L) (.bool false) (.int .u64 0) (.int .u64 0) 110 nq
  generalize ((w.alloc (.cells #[.bool true, .int .u64 H, .int .u64 L] 110)).alloc (.cells #[.bool false, .int .u64 0, .int .u64 0] 110)).drewN nq = V at k1' k2' k3' k4' ⊢
  have v0 := k1'.c 0 _ rfl
  have v1 := k1'.c 1 _ rfl
  have v2 := k1'.c 2 _ rfl
  have w0 := k2'.c 0 _ rfl
  have w1 := k2'.c 1 _ rfl
  have w2 := k2'.c 2 _ rfl
  go_wp2
  refine bodyPost_ret (v := .agg #[.bool z, .int .u64 h, .int .u64 q]) (by simp [results, Tryz.results56, go_sem, w0, w1, w2]) rfl (wideP_mk HZ.out HG.out.1 HG.out.2 ?_)
  exact ((k4'.setCell (p := ⟨w.heap.size + 1, 0, none⟩) (by simp) _).setCell (p := ⟨w.heap.size + 1, 1, none⟩) (by simp) _).setCell (p := ⟨w.heap.size + 1, 2, none⟩) (by simp) _

set_option maxHeartbeats 1000000 in
theorem over_unz (p : Int) (w : World) (hp : absI p < 340282366920938463463374607431768211456) (hs : p < 0) (hr : absI p % 65536 = 0) :
    Calls Tryz.prog 56 #[.agg #[.bool (decide (p < 0)), .int .u64 (absI p / 18446744073709551616), .int .u64 (absI p % 18446744073709551616)], .int .u64 65536, .bool true] w (WideP (overV p true) w) := by
  have dn : decide (p < 0) = true := by simp; omega
  rw [dn]
  have hM : absI p = -p := absI_neg hs
  generalize hg : overV p true = g
  unfold overV at hg
  simp only [if_true] at hg
  generalize hH : absI p / 18446744073709551616 = H
  generalize hL : absI p % 18446744073709551616 = L
  have l0 : 0 ≤ L := by omega
  have l1 : L ≤ 18446744073709551615 := by omega
  have k0 : 0 ≤ H := by omega
  have k1 : H ≤ 18446744073709551615 := by omega
  obtain ⟨h, hh⟩ : ∃ h, H / 65536 = h := ⟨_, rfl⟩
  obtain ⟨m, hm⟩ : ∃ m, H % 65536 = m := ⟨_, rfl⟩
  obtain ⟨q, hq⟩ : ∃ q, m * 281474976710656 + L / 65536 = q := ⟨_, rfl⟩
  obtain ⟨r, hr'⟩ : ∃ r, L % 65536 = r := ⟨_, rfl⟩
  have m0 : 0 ≤ m := by omega
  have m1 : m < 65536 := by omega
  have q0 : 0 ≤ q := by omega
  have q1 : q ≤ 18446744073709551615 := by omega
  have h0 : 0 ≤ h := by omega
  have h1 : h ≤ 281474976710655 := by omega
  have r0 : r = 0 := by omega
  have hdv : ∀ w, Calls Tryz.prog 91 #[.int .u64 m, .int .u64 L, .int .u64 65536] w fun e w' => e = .returned (.tuple #[.int .u64 q, .int .u64 r]) ∧ ∃ n, w' = w.drewN n := fun w => by
    rw [← hq, ← hr']; exact div_any m L w m0 m1 l0 l1
  have hor := or_pos h q (by omega) (by omega) q0 q1
  obtain ⟨z, hz⟩ : ∃ z, decide (0 < h + q) = z := ⟨_, rfl⟩
  rw [hz] at hor
  have hzg : z = decide (g < 0) := by rw [← hz, Bool.eq_iff_iff]; simp only [decide_eq_true_eq]; omega
  have hgx : h = absI g / 18446744073709551616 ∧ q = absI g % 18446744073709551616 := by
    have : absI g = -g := (by unfold absI; split <;> omega)
    omega
  have HG := Lib.hid hgx
  have HZ := Lib.hid hzg
  have HD := Lib.hid hdv
  subst r0
  clear hgx hzg hdv hg hH hL hM hq hr' dn hp hs hr hz
  go_enter Tryz.func56, Tryz.ntmps56
  go_wp2_with fail
  go_quiet ((go_at_call 91; exact Calls.quiet_of (HD.out _)))
  obtain ⟨k1', k2', k3', k4'⟩ := cells3 w (.bool true) (.int .u64 H) (.int .u64 L) (.bool false) (.int .u64 0) (.int .u64 0) 110 nq
  generalize ((w.alloc (.cells #[.bool true, .int .u64 H, .int .u64 L] 110)).alloc (.cells #[.bool false, .int .u64 0, .int .u64 0] 110)).drewN nq = V at k1' k2' k3' k4' ⊢
  have v0 := k1'.c 0 _ rfl
  have v1 := k1'.c 1 _ rfl
  have v2 := k1'.c 2 _ rfl
  have w0 := k2'.c 0 _ rfl
  have w1 := k2'.c 1 _ rfl
  have w2 := k2'.c 2 _ rfl
  go_wp2
  refine bodyPost_ret (v := .agg #[.bool z, .int .u64 h, .int .u64 q]) (by simp [results, Tryz.results56, go_sem, w0, w1, w2]) rfl (wideP_mk HZ.out HG.out.1 HG.out.2 ?_)
  exact ((k4'.setCell (p := ⟨w.heap.size + 1, 0, none⟩) (by simp) _).setCell (p := ⟨w.heap.size + 1, 1, none⟩) (by simp) _).setCell (p := ⟨w.heap.size + 1, 2, none⟩) (by simp) _

theorem over_any (p : Int) (up : Bool) (w : World) (hp : absI p < 340282366920938463463374607431768211456) :
    Calls Tryz.prog 56 #[.agg #[.bool (decide (p < 0)), .int .u64 (absI p / 18446744073709551616), .int .u64 (absI p % 18446744073709551616)], .int .u64 65536, .bool up] w (WideP (overV p up) w) := by
  have g0 := absI_nn p
  by_cases hs : p < 0
  · by_cases hr : 0 < absI p % 65536
    · cases up
      · exact over_dnr p w hp hs hr
      · exact over_unr p w hp hs hr
    · have hr : absI p % 65536 = 0 := by omega
      cases up
      · exact over_dnz p w hp hs hr
      · exact over_unz p w hp hs hr
  · have hs : 0 ≤ p := by omega
    by_cases hr : 0 < absI p % 65536
    · cases up
      · exact over_dpr p w hp hs hr
      · exact over_upr p w hp hs hr
    · have hr : absI p % 65536 = 0 := by omega
      cases up
      · exact over_dpz p w hp hs hr
      · exact over_upz p w hp hs hr
end Go.Proofs.En
