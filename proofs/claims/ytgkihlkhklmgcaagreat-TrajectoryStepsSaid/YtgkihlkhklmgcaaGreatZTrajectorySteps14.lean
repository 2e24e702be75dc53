/-
  Texts put together: Ka.
-/
import Derived.Test.YtgkihlkhklmgcaaGreatZTrajectorySteps13
import Derived.StillTailTactics
set_option linter.unusedVariables false
section
/-
 Walks: the small functions of robots.
-/
namespace Go.Proofs.En
open Go.RowKit
def from1B (x m : Int) : Bool := decide (1 ≤ x ∧ x ≤ m)
theorem from1_any (x m : Int) (w : World) : Calls Tryz.prog 131 #[.int .i64 x, .int .i64 m] w fun e w' => e = .returned (.bool (from1B x m)) ∧ w = w' := by
 by_cases h1 : 1 ≤ x
 ·by_cases h2 : x ≤ m
  all_goals
   go_enter Tryz.func131, Tryz.ntmps131
   go_wp2
   go_ret
   exact ⟨ret_bool (by unfold from1B; symm; simp; omega), rfl⟩
 ·go_enter Tryz.func131, Tryz.ntmps131
  go_wp2
  go_ret
  exact ⟨ret_bool (by unfold from1B; symm; simp; omega), rfl⟩
def letterB (c : Int) : Bool := decide (97 ≤ c ∧ c ≤ 122)
def digitB (c : Int) : Bool := decide (48 ≤ c ∧ c ≤ 57)
theorem letter_any (c : Int) (w : World) : Calls Tryz.prog 184 #[.int .i32 c] w fun e w' => e = .returned (.bool (letterB c)) ∧ w = w' := by
 by_cases h1 : 97 ≤ c
 ·by_cases h2 : c ≤ 122
  all_goals
   go_enter Tryz.func184, Tryz.ntmps184
   go_wp2
   go_ret
   exact ⟨ret_bool (by unfold letterB; symm; simp; omega), rfl⟩
 ·go_enter Tryz.func184, Tryz.ntmps184
  go_wp2
  go_ret
  exact ⟨ret_bool (by unfold letterB; symm; simp; omega), rfl⟩
theorem digit_any (c : Int) (w : World) : Calls Tryz.prog 185 #[.int .i32 c] w fun e w' => e = .returned (.bool (digitB c)) ∧ w = w' := by
 by_cases h1 : 48 ≤ c
 ·by_cases h2 : c ≤ 57
  all_goals
   go_enter Tryz.func185, Tryz.ntmps185
   go_wp2
   go_ret
   exact ⟨ret_bool (by unfold digitB; symm; simp; omega), rfl⟩
 ·go_enter Tryz.func185, Tryz.ntmps185
  go_wp2
  go_ret
  exact ⟨ret_bool (by unfold digitB; symm; simp; omega), rfl⟩
def limitF (k : Int) : Int := if k = 1 ∨ k = 2 ∨ k = 3 then 524288 else if k = 4 ∨ k = 5 ∨ k = 6 then 4194304 else 0
theorem limit_any (k : Int) (w : World) : Calls Tryz.prog 130 #[.int .i64 k] w fun e w' => e = .returned (.int .i64 (limitF k)) ∧ w = w' := by
 have key : ∀ b1 b2 b3 b4 b5 b6 : Bool, (k == 1) = b1 → (k == 2) = b2 → (k == 3) = b3 → (k == 4) = b4 → (k == 5) = b5 → (k == 6) = b6 →
   Calls Tryz.prog 130 #[.int .i64 k] w fun e w' => e = .returned (.int .i64 (limitF k)) ∧ w = w' := by
  intro b1 b2 b3 b4 b5 b6 h1 h2 h3 h4 h5 h6
  have HL : Hid (limitF k = if b1 || b2 || b3 then 524288 else if b4 || b5 || b6 then 4194304 else 0) := Lib.hid (by
   unfold limitF; rw [← h1, ← h2, ← h3, ← h4, ← h5, ← h6]; simp [or_assoc])
  cases b1
  ·cases b2
   ·cases b3
    ·cases b4
     ·cases b5
      ·cases b6
       all_goals
        go_enter Tryz.func130, Tryz.ntmps130
        go_wp2
        go_ret
        exact ⟨ret_int (by rw [HL.out]; rfl), rfl⟩
      ·go_enter Tryz.func130, Tryz.ntmps130
       go_wp2
       go_ret
       exact ⟨ret_int (by rw [HL.out]; rfl), rfl⟩
     ·go_enter Tryz.func130, Tryz.ntmps130
      go_wp2
      go_ret
      exact ⟨ret_int (by rw [HL.out]; rfl), rfl⟩
    ·go_enter Tryz.func130, Tryz.ntmps130
     go_wp2
     go_ret
     exact ⟨ret_int (by rw [HL.out]; rfl), rfl⟩
   ·go_enter Tryz.func130, Tryz.ntmps130
    go_wp2
    go_ret
    exact ⟨ret_int (by rw [HL.out]; rfl), rfl⟩
  ·go_enter Tryz.func130, Tryz.ntmps130
   go_wp2
   go_ret
   exact ⟨ret_int (by rw [HL.out]; rfl), rfl⟩
 exact key _ _ _ _ _ _ rfl rfl rfl rfl rfl rfl
def farB (x : Int) : Bool := decide (x < -4194304) || decide (4194304 < x)
def beyondB (x y z : Int) : Bool := farB x || farB y || farB z
def BoolP (b : Bool) (w : World) (e : Ending) (w' : World) : Prop := e = .returned (.bool b) ∧ Below w.heap.size w w'
theorem boolP_mk {a b : Bool} {w w' : World} (h : a = b) (hb : Below w.heap.size w w') : BoolP a w (.returned (.bool b)) w' := by subst h; exact ⟨rfl, hb⟩
set_option maxHeartbeats 1000000 in
theorem beyond_01 (x y z : Int) (w : World) (a0 : decide (x < -4194304) = true) : Calls Tryz.prog 129 #[.agg #[.int .i64 x, .int .i64 y, .int .i64 z]] w (BoolP true w) := by
 have i0 : ∀ w, (Instr.index 47 (.agg #[.int .i64 x, .int .i64 y, .int .i64 z]) (.int .i64 0)).run Tryz.prog w = .ok (.int .i64 x) w := fun _ => by kernel_rfl
 have i1 : ∀ w, (Instr.index 47 (.agg #[.int .i64 x, .int .i64 y, .int .i64 z]) (.int .i64 1)).run Tryz.prog w = .ok (.int .i64 y) w := fun _ => by kernel_rfl
 have i2 : ∀ w, (Instr.index 47 (.agg #[.int .i64 x, .int .i64 y, .int .i64 z]) (.int .i64 2)).run Tryz.prog w = .ok (.int .i64 z) w := fun _ => by kernel_rfl
 go_enter Tryz.func129, Tryz.ntmps129
 go_wp2_with fail
 refine wp_loop_rounds 4 ?_
 rw [rounds_succ]
 go_wp2_with fail
 go_wp2
 go_ret
 exact boolP_mk rfl ((Below.refl _ _).alloc (Nat.le_refl _) _)
set_option maxHeartbeats 1000000 in
theorem beyond_02 (x y z : Int) (w : World) (a0 : decide (x < -4194304) = false) (b0 : decide (4194304 < x) = true) : Calls Tryz.prog 129 #[.agg #[.int .i64 x, .int .i64 y, .int .i64 z]] w (BoolP true w) := by
 have i0 : ∀ w, (Instr.index 47 (.agg #[.int .i64 x, .int .i64 y, .int .i64 z]) (.int .i64 0)).run Tryz.prog w = .ok (.int .i64 x) w := fun _ => by kernel_rfl
 have i1 : ∀ w, (Instr.index 47 (.agg #[.int .i64 x, .int .i64 y, .int .i64 z]) (.int .i64 1)).run Tryz.prog w = .ok (.int .i64 y) w := fun _ => by kernel_rfl
 have i2 : ∀ w, (Instr.index 47 (.agg #[.int .i64 x, .int .i64 y, .int .i64 z]) (.int .i64 2)).run Tryz.prog w = .ok (.int .i64 z) w := fun _ => by kernel_rfl
 go_enter Tryz.func129, Tryz.ntmps129
 go_wp2_with fail
 refine wp_loop_rounds 4 ?_
 rw [rounds_succ]
 go_wp2_with fail
 go_wp2
 go_ret
 exact boolP_mk rfl ((Below.refl _ _).alloc (Nat.le_refl _) _)
set_option maxHeartbeats 1000000 in
theorem beyond_11 (x y z : Int) (w : World) (a0 : decide (x < -4194304) = false) (b0 : decide (4194304 < x) = false) (a1 : decide (y < -4194304) = true) : Calls Tryz.prog 129 #[.agg #[.int .i64 x, .int .i64 y, .int .i64 z]] w (BoolP true w) := by
 have i0 : ∀ w, (Instr.index 47 (.agg #[.int .i64 x, .int .i64 y, .int .i64 z]) (.int .i64 0)).run Tryz.prog w = .ok (.int .i64 x) w := fun _ => by kernel_rfl
 have i1 : ∀ w, (Instr.index 47 (.agg #[.int .i64 x, .int .i64 y, .int .i64 z]) (.int .i64 1)).run Tryz.prog w = .ok (.int .i64 y) w := fun _ => by kernel_rfl
 have i2 : ∀ w, (Instr.index 47 (.agg #[.int .i64 x, .int .i64 y, .int .i64 z]) (.int .i64 2)).run Tryz.prog w = .ok (.int .i64 z) w := fun _ => by kernel_rfl
 go_enter Tryz.func129, Tryz.ntmps129
 go_wp2_with fail
 refine wp_loop_rounds 4 ?_
 rw [rounds_succ]
 go_wp2_with fail
 rw [rounds_succ]
 go_wp2_with fail
 go_wp2
 go_ret
 exact boolP_mk rfl ((Below.refl _ _).alloc (Nat.le_refl _) _)
set_option maxHeartbeats 1000000 in
theorem beyond_12 (x y z : Int) (w : World) (a0 : decide (x < -4194304) = false) (b0 : decide (4194304 < x) = false) (a1 : decide (y < -4194304) = false) (b1 : decide (4194304 < y) = true) : Calls Tryz.prog 129 #[.agg #[.int .i64 x, .int .i64 y, .int .i64 z]] w (BoolP true w) := by
 have i0 : ∀ w, (Instr.index 47 (.agg #[.int .i64 x, .int .i64 y, .int .i64 z]) (.int .i64 0)).run Tryz.prog w = .ok (.int .i64 x) w := fun _ => by kernel_rfl
 have i1 : ∀ w, (Instr.index 47 (.agg #[.int .i64 x, .int .i64 y, .int .i64 z]) (.int .i64 1)).run Tryz.prog w = .ok (.int .i64 y) w := fun _ => by kernel_rfl
 have i2 : ∀ w, (Instr.index 47 (.agg #[.int .i64 x, .int .i64 y, .int .i64 z]) (.int .i64 2)).run Tryz.prog w = .ok (.int .i64 z) w := fun _ => by kernel_rfl
 go_enter Tryz.func129, Tryz.ntmps129
 go_wp2_with fail
 refine wp_loop_rounds 4 ?_
 rw [rounds_succ]
 go_wp2_with fail
 rw [rounds_succ]
 go_wp2_with fail
 go_wp2
 go_ret
 exact boolP_mk rfl ((Below.refl _ _).alloc (Nat.le_refl _) _)
set_option maxHeartbeats 1000000 in
theorem beyond_21 (x y z : Int) (w : World) (a0 : decide (x < -4194304) = false) (b0 : decide (4194304 < x) = false) (a1 : decide (y < -4194304) = false) (b1 : decide (4194304 < y) = false) (a2 : decide (z < -4194304) = true) : Calls Tryz.prog 129 #[.agg #[.int .i64 x, .int .i64 y, .int .i64 z]] w (BoolP true w) := by
 have i0 : ∀ w, (Instr.index 47 (.agg #[.int .i64 x, .int .i64 y, .int .i64 z]) (.int .i64 0)).run Tryz.prog w = .ok (.int .i64 x) w := fun _ => by kernel_rfl
 have i1 : ∀ w, (Instr.index 47 (.agg #[.int .i64 x, .int .i64 y, .int .i64 z]) (.int .i64 1)).run Tryz.prog w = .ok (.int .i64 y) w := fun _ => by kernel_rfl
 have i2 : ∀ w, (Instr.index 47 (.agg #[.int .i64 x, .int .i64 y, .int .i64 z]) (.int .i64 2)).run Tryz.prog w = .ok (.int .i64 z) w := fun _ => by kernel_rfl
 go_enter Tryz.func129, Tryz.ntmps129
 go_wp2_with fail
 refine wp_loop_rounds 4 ?_
 rw [rounds_succ]
 go_wp2_with fail
 rw [rounds_succ]
 go_wp2_with fail
 rw [rounds_succ]
 go_wp2_with fail
 go_wp2
 go_ret
 exact boolP_mk rfl ((Below.refl _ _).alloc (Nat.le_refl _) _)
set_option maxHeartbeats 1000000 in
theorem beyond_22 (x y z : Int) (w : World) (a0 : decide (x < -4194304) = false) (b0 : decide (4194304 < x) = false) (a1 : decide (y < -4194304) = false) (b1 : decide (4194304 < y) = false) (a2 : decide (z < -4194304) = false) (b2 : decide (4194304 < z) = true) : Calls Tryz.prog 129 #[.agg #[.int .i64 x, .int .i64 y, .int .i64 z]] w (BoolP true w) := by
 have i0 : ∀ w, (Instr.index 47 (.agg #[.int .i64 x, .int .i64 y, .int .i64 z]) (.int .i64 0)).run Tryz.prog w = .ok (.int .i64 x) w := fun _ => by kernel_rfl
 have i1 : ∀ w, (Instr.index 47 (.agg #[.int .i64 x, .int .i64 y, .int .i64 z]) (.int .i64 1)).run Tryz.prog w = .ok (.int .i64 y) w := fun _ => by kernel_rfl
 have i2 : ∀ w, (Instr.index 47 (.agg #[.int .i64 x, .int .i64 y, .int .i64 z]) (.int .i64 2)).run Tryz.prog w = .ok (.int .i64 z) w := fun _ => by kernel_rfl
 go_enter Tryz.func129, Tryz.ntmps129
 go_wp2_with fail
 refine wp_loop_rounds 4 ?_
 rw [rounds_succ]
 go_wp2_with fail
 rw [rounds_succ]
 go_wp2_with fail
 rw [rounds_succ]
 go_wp2_with fail
 go_wp2
 go_ret
 exact boolP_mk rfl ((Below.refl _ _).alloc (Nat.le_refl _) _)
set_option maxHeartbeats 1000000 in
theorem beyond_30 (x y z : Int) (w : World) (a0 : decide (x < -4194304) = false) (b0 : decide (4194304 < x) = false) (a1 : decide (y < -4194304) = false) (b1 : decide (4194304 < y) = false) (a2 : decide (z < -4194304) = false) (b2 : decide (4194304 < z) = false) : Calls Tryz.prog 129 #[.agg #[.int .i64 x, .int .i64 y, .int .i64 z]] w (BoolP false w) := by
 have i0 : ∀ w, (Instr.index 47 (.agg #[.int .i64 x, .int .i64 y, .int .i64 z]) (.int .i64 0)).run Tryz.prog w = .ok (.int .i64 x) w := fun _ => by kernel_rfl
 have i1 : ∀ w, (Instr.index 47 (.agg #[.int .i64 x, .int .i64 y, .int .i64 z]) (.int .i64 1)).run Tryz.prog w = .ok (.int .i64 y) w := fun _ => by kernel_rfl
 have i2 : ∀ w, (Instr.index 47 (.agg #[.int .i64 x, .int .i64 y, .int .i64 z]) (.int .i64 2)).run Tryz.prog w = .ok (.int .i64 z) w := fun _ => by kernel_rfl
 go_enter Tryz.func129, Tryz.ntmps129
 go_wp2_with fail
 refine wp_loop_rounds 4 ?_
 rw [rounds_succ]
 go_wp2_with fail
 rw [rounds_succ]
 go_wp2_with fail
 rw [rounds_succ]
 go_wp2_with fail
 rw [rounds_succ]
 go_wp2_with fail
 go_wp2
 go_ret
 exact boolP_mk rfl ((Below.refl _ _).alloc (Nat.le_refl _) _)
theorem beyond_any (x y z : Int) (w : World) : Calls Tryz.prog 129 #[.agg #[.int .i64 x, .int .i64 y, .int .i64 z]] w (BoolP (beyondB x y z) w) := by
 unfold beyondB farB
 cases a0 : decide (x < -4194304) with
 | true => exact beyond_01 x y z w a0
 | false =>
  cases b0 : decide (4194304 < x) with
  | true => exact beyond_02 x y z w a0 b0
  | false =>
   cases a1 : decide (y < -4194304) with
   | true => exact beyond_11 x y z w a0 b0 a1
   | false =>
    cases b1 : decide (4194304 < y) with
    | true => exact beyond_12 x y z w a0 b0 a1 b1
    | false =>
     cases a2 : decide (z < -4194304) with
     | true => exact beyond_21 x y z w a0 b0 a1 b1 a2
     | false =>
      cases b2 : decide (4194304 < z) with
      | true => exact beyond_22 x y z w a0 b0 a1 b1 a2 b2
      | false => exact beyond_30 x y z w a0 b0 a1 b1 a2 b2
end Go.Proofs.En
end
section
/-
 Walks: names.
-/
namespace Go.Proofs.En
open Go.RowKit
def isWorld (s : ByteArray) : Bool := s.toList == [119, 111, 114, 108, 100]
/-- A byte that may stand at a place of a name. -/
def nchB (i : Nat) (c : Nat) : Bool := letterB c || (decide (i ≠ 0) && (digitB c || decide (c = 95)))
def ncharsB (s : ByteArray) : Bool := (List.range s.size).all fun i => nchB i (s.get! i).toNat
def nameB (s : ByteArray) : Bool := decide (1 ≤ s.size ∧ s.size ≤ 16) && !(isWorld s) && ncharsB s
theorem get_eq (s : ByteArray) (i : Nat) (h : i < s.size) : s.get! i = s[i] := by
 show s.data[i]! = s.data[i]
 rw [getElem!_pos s.data i h]
theorem nchars_no {s : ByteArray} {i : Nat} (h : i < s.size) (hc : nchB i (s[i]'h).toNat = false) : ncharsB s = false := by
 unfold ncharsB
 rw [List.all_eq_false]
 exact ⟨i, List.mem_range.2 h, by rw [get_eq s i h, hc]; simp⟩
theorem nchars_yes {s : ByteArray} (h : ∀ i (hi : i < s.size), nchB i (s[i]'hi).toNat = true) : ncharsB s = true := by
 unfold ncharsB
 rw [List.all_eq_true]
 intro i hi
 have hi := List.mem_range.1 hi
 rw [get_eq s i hi]; exact h i hi
theorem below_iter (w : World) (s : ByteArray) (p : Nat) : Below w.heap.size w (w.iter s p) := by
 refine ⟨rfl, rfl, rfl, ?_, fun k hk => ?_⟩
 ·simp [World.iter]
 ·show (w.heap.push _)[k]? = _
  rw [Array.getElem?_push, if_neg (by omega)]
theorem name_short (s : ByteArray) (w : World) (h : s.size = 0) : Calls Tryz.prog 127 #[.string s] w (BoolP false w) := by
 have h0 : ((s.size : Int) == 0) = true := by simp [h]
 go_enter Tryz.func127, Tryz.ntmps127
 go_wp2
 go_ret
 exact boolP_mk rfl (Below.refl _ _)
theorem name_long (s : ByteArray) (w : World) (h : 16 < s.size) : Calls Tryz.prog 127 #[.string s] w (BoolP false w) := by
 have h0 : ((s.size : Int) == 0) = false := by rw [beq_eq_false_iff_ne]; omega
 have h1 : decide ((16 : Int) < (s.size : Int)) = true := by simp; omega
 go_enter Tryz.func127, Tryz.ntmps127
 go_wp2
 go_ret
 exact boolP_mk rfl (Below.refl _ _)
theorem name_world (s : ByteArray) (w : World) (h1 : 1 ≤ s.size) (h2 : s.size ≤ 16) (hw : (s.toList == [119, 111, 114, 108, 100]) = true) : Calls Tryz.prog 127 #[.string s] w (BoolP false w) := by
 have g0 : ((s.size : Int) == 0) = false := by rw [beq_eq_false_iff_ne]; omega
 have g1 : decide ((16 : Int) < (s.size : Int)) = false := by simp; omega
 have g2 : decide (16 < s.size) = false := by simp; omega
 go_enter Tryz.func127, Tryz.ntmps127
 go_wp2
 go_ret
 exact boolP_mk rfl (Below.refl _ _)
theorem nch_high (i : Nat) (c : Nat) (h : 128 ≤ c) : nchB i c = false := by
 simp [nchB, letterB, digitB]; omega
set_option maxHeartbeats 2000000 in
theorem name_loop (s : ByteArray) (w : World) (h1 : 1 ≤ s.size) (h2 : s.size ≤ 16) (hw : (s.toList == [119, 111, 114, 108, 100]) = false) : Calls Tryz.prog 127 #[.string s] w (BoolP (ncharsB s) w) := by
 have g0 : ((s.size : Int) == 0) = false := by rw [beq_eq_false_iff_ne]; omega
 have g1 : decide ((16 : Int) < (s.size : Int)) = false := by simp; omega
 have g2 : decide (16 < s.size) = false := by simp; omega
 generalize hr : ncharsB s = r
 have HR := Lib.hid hr
 clear hr
 go_enter Tryz.func127, Tryz.ntmps127
 go_wp2_with fail
 go_loopw [19] (fun _ w' => ∃ pos : Nat, w' = w.iter s pos ∧ pos ≤ s.size ∧ ∀ i (hi : i < s.size), i < pos → nchB i (s[i]'hi).toNat = true) (fun _ w' => s.size - w'.iterPos w.heap.size)
 case atStart => exact ⟨0, rfl, by omega, fun i _ h => absurd h (by omega)⟩
 case round =>
  obtain ⟨pos, rfl, hp, hall⟩ := hrel
  have HA := Lib.hid hall
  clear hall
  by_cases hlt : pos < s.size
  ·have hnx : ∀ ty, (Instr.next (.pointer (some ⟨w.heap.size, 0, none⟩)) true ty).run Tryz.prog (w.iter s pos) = _ := fun ty => run_next_any w s pos ty hlt
   obtain ⟨c, hc⟩ : ∃ c, (Utf8.decode s pos).1 = c := ⟨_, rfl⟩
   obtain ⟨d, hd⟩ : ∃ d, (Utf8.decode s pos).2 = d := ⟨_, rfl⟩
   rw [hc, hd] at hnx
   -- what the rune says of the byte
   have key : nchB pos (s[pos]'hlt).toNat = (letterB c || (decide (pos ≠ 0) && (digitB c || decide (c = 95)))) ∧ ((letterB c || (decide (pos ≠ 0) && (digitB c || decide (c = 95)))) = true → d = 1) := by
    by_cases ha : (s[pos]'hlt).toNat < 128
    ·have e := decode_ascii s pos hlt ha
     rw [e] at hc hd
     simp only at hc hd
     subst hc hd
     exact ⟨rfl, fun _ => rfl⟩
    ·have e := decode_high s pos hlt (by omega)
     rw [hc] at e
     have hz : (letterB c || (decide (pos ≠ 0) && (digitB c || decide (c = 95)))) = false := by
      have := e.1; simp [letterB, digitB]; omega
     rw [hz, nch_high pos _ (by omega)]
     exact ⟨rfl, fun h => by cases h⟩
   have HK := Lib.hid key
   clear key hc hd
   cases hl : letterB c with
   | true =>
    go_wp2_with fail
    refine (letter_any _ _).mono ?_
    rintro e w1 ⟨rfl, rfl⟩
    rw [hl]
    go_wp2
    have hk := HK.out
    rw [hl] at hk
    obtain rfl := hk.2 rfl
    go_roundw
    case rel =>
     refine ⟨pos + 1, rfl, by omega, fun i hi hip => ?_⟩
     rcases (show i < pos ∨ i = pos by omega) with h | rfl
     ·exact HA.out i hi h
     ·exact hk.1
    case measure => simp; omega
   | false =>
    cases hz : ((pos : Int) == 0) with
    | true =>
     have hr : r = false := by
      have hk := HK.out.1
      have hz' : pos = 0 := by have := beq_iff_eq.1 hz; omega
      rw [hl] at hk
      rw [← HR.out]; exact nchars_no hlt (by rw [hk]; simp [hz'])
     have HRF := Lib.hid hr
     clear hr
     go_wp2_with fail
     refine (letter_any _ _).mono ?_
     rintro e w1 ⟨rfl, rfl⟩
     rw [hl]
     go_wp2
     go_ret
     exact boolP_mk HRF.out (below_iter w s _)
    | false =>
     have hz' : decide (pos ≠ 0) = true := by have := beq_eq_false_iff_ne.1 hz; simp; omega
     cases hdg : digitB c with
     | true =>
      go_wp2_with fail
      refine (letter_any _ _).mono ?_
      rintro e w1 ⟨rfl, rfl⟩
      rw [hl]
      go_wp2_with fail
      refine (digit_any _ _).mono ?_
      rintro e w1 ⟨rfl, rfl⟩
      rw [hdg]
      go_wp2
      have hk := HK.out
      rw [hl, hdg, hz'] at hk
      obtain rfl := hk.2 rfl
      go_roundw
      case rel =>
       refine ⟨pos + 1, rfl, by omega, fun i hi hip => ?_⟩
       rcases (show i < pos ∨ i = pos by omega) with h | rfl
       ·exact HA.out i hi h
       ·exact hk.1
      case measure => simp; omega
     | false =>
      cases hu : ((c : Int) == 95) with
      | true =>
       have hu' : ((c : Int) != 95) = false := by simp [bne, hu]
       have huc : decide (c = 95) = true := by have := beq_iff_eq.1 hu; simp; omega
       go_wp2_with fail
       refine (letter_any _ _).mono ?_
       rintro e w1 ⟨rfl, rfl⟩
       rw [hl]
       go_wp2_with fail
       refine (digit_any _ _).mono ?_
       rintro e w1 ⟨rfl, rfl⟩
       rw [hdg]
       go_wp2
       have hk := HK.out
       rw [hl, hdg, hz', huc] at hk
       obtain rfl := hk.2 rfl
       go_roundw
       case rel =>
        refine ⟨pos + 1, rfl, by omega, fun i hi hip => ?_⟩
        rcases (show i < pos ∨ i = pos by omega) with h | rfl
        ·exact HA.out i hi h
        ·exact hk.1
       case measure => simp; omega
      | false =>
       have hu' : ((c : Int) != 95) = true := by simp [bne, hu]
       have huc : decide (c = 95) = false := by have := beq_eq_false_iff_ne.1 hu; simp; omega
       have hr : r = false := by
        have hk := HK.out.1
        rw [hl, hdg, huc] at hk
        rw [← HR.out]; exact nchars_no hlt (by rw [hk]; simp)
       have HRF := Lib.hid hr
       clear hr
       go_wp2_with fail
       refine (letter_any _ _).mono ?_
       rintro e w1 ⟨rfl, rfl⟩
       rw [hl]
       go_wp2_with fail
       refine (digit_any _ _).mono ?_
       rintro e w1 ⟨rfl, rfl⟩
       rw [hdg]
       go_wp2
       go_ret
       exact boolP_mk HRF.out (below_iter w s _)
  ·have hnx : ∀ ty, (Instr.next (.pointer (some ⟨w.heap.size, 0, none⟩)) true ty).run Tryz.prog (w.iter s pos) = _ := fun ty => run_next_end w s pos ty hlt
   go_wp2
   go_ret
   refine boolP_mk ?_ (below_iter w s pos)
   rw [← HR.out]
   exact nchars_yes fun i hi => HA.out i hi (by omega)
theorem name_any (s : ByteArray) (w : World) : Calls Tryz.prog 127 #[.string s] w (BoolP (nameB s) w) := by
 unfold nameB isWorld
 by_cases h1 : 1 ≤ s.size
 ·by_cases h2 : s.size ≤ 16
  ·cases hw : (s.toList == [119, 111, 114, 108, 100]) with
   | true => simpa using name_world s w h1 h2 hw
   | false => simpa [h1, h2] using name_loop s w h1 h2 hw
  ·simpa [h2] using name_long s w (by omega)
 ·simpa [h1] using name_short s w (by omega)
end Go.Proofs.En
end
section
/-
 Walks: the reference's names and small functions.
-/
namespace Go.Proofs.En
open Go.RowKit
theorem nch_no0 {k c : Nat} (hk : k = 0) (h : letterB c = false) : nchB k c = false := by simp [nchB, hk, h]
theorem namer_short (s : ByteArray) (w : World) (h : s.size = 0) : Calls Tryz.prog 133 #[.string s] w (BoolP false w) := by
 have h0 : decide ((s.size : Int) < 1) = true := by simp; omega
 have h1 : s.size < 1 := by omega
 go_enter Tryz.func133, Tryz.ntmps133
 go_wp2
 go_ret
 exact boolP_mk rfl (Below.refl _ _)
theorem namer_long (s : ByteArray) (w : World) (h : 16 < s.size) : Calls Tryz.prog 133 #[.string s] w (BoolP false w) := by
 have h0 : decide ((s.size : Int) < 1) = false := by simp; omega
 have h1 : decide ((16 : Int) < (s.size : Int)) = true := by simp; omega
 go_enter Tryz.func133, Tryz.ntmps133
 go_wp2
 go_ret
 exact boolP_mk rfl (Below.refl _ _)
theorem namer_world (s : ByteArray) (w : World) (h1 : 1 ≤ s.size) (h2 : s.size ≤ 16) (hw : (s.toList == [119, 111, 114, 108, 100]) = true) : Calls Tryz.prog 133 #[.string s] w (BoolP false w) := by
 have g0 : decide ((s.size : Int) < 1) = false := by simp; omega
 have g1 : decide ((16 : Int) < (s.size : Int)) = false := by simp; omega
 have g2 : decide (16 < s.size) = false := by simp; omega
 go_enter Tryz.func133, Tryz.ntmps133
 go_wp2
 go_ret
 exact boolP_mk rfl (Below.refl _ _)
set_option maxHeartbeats 2000000 in
theorem namer_loop (s : ByteArray) (w : World) (h1 : 1 ≤ s.size) (h2 : s.size ≤ 16) (hw : (s.toList == [119, 111, 114, 108, 100]) = false) : Calls Tryz.prog 133 #[.string s] w (BoolP (ncharsB s) w) := by
 have g0 : decide ((s.size : Int) < 1) = false := by simp; omega
 have g1 : decide ((16 : Int) < (s.size : Int)) = false := by simp; omega
 have g2 : decide (16 < s.size) = false := by simp; omega
 generalize hr : ncharsB s = r
 have HR := Lib.hid hr
 clear hr
 go_enter Tryz.func133, Tryz.ntmps133
 go_wp2_with fail
 go_loop [3] (fun i => ∃ k : Nat, k ≤ s.size ∧ i = .int .i64 k ∧ ∀ j (hj : j < s.size), j < k → nchB j (s[j]'hj).toNat = true) (fun i => s.size - (intOf i).toNat)
 case atStart => exact ⟨0, by omega, rfl, fun i _ h => absurd h (by omega)⟩
 case round =>
  obtain ⟨k, hk, rfl, hall⟩ := hrel
  have HA := Lib.hid hall
  clear hall
  by_cases hlt : k < s.size
  ·have hb := (s[k]'hlt).toNat_lt
   have yes : nchB k (s[k]'hlt).toNat = true → ∀ j (hj : j < s.size), j < k + 1 → nchB j (s[j]'hj).toNat = true := by
    intro h j hj hjk
    rcases (show j < k ∨ j = k by omega) with h' | rfl
    ·exact HA.out j hj h'
    ·exact h
   have no : nchB k (s[k]'hlt).toNat = false → r = false := fun h => by rw [← HR.out]; exact nchars_no hlt h
   have YES := Lib.hid yes
   have NO := Lib.hid no
   clear yes no
   by_cases c1 : 97 ≤ ((s[k]'hlt).toNat : Int)
   ·by_cases c2 : ((s[k]'hlt).toNat : Int) ≤ 122
    ·skip
     go_wp2
     go_round
     case rel => exact ⟨k + 1, by omega, by go_num, YES.out (by simp [nchB, letterB]; omega)⟩
     case measure => simp [intOf]; omega
    ·skip
     by_cases z : k = 0
     ·have z1 : ((k : Int) == 0) = true := by simp [z]
      have Z := Lib.hid z
      clear z
      go_wp2
      go_ret
      exact boolP_mk (NO.out (nch_no0 Z.out (by simp [letterB]; omega))) (Below.refl _ _)
     ·have z1 : ((k : Int) == 0) = false := by rw [beq_eq_false_iff_ne]; omega
      by_cases u : ((s[k]'hlt).toNat : Int) = 95
      ·have u1 : (((s[k]'hlt).toNat : Int) != 95) = false := by rw [u]; rfl
       have U := Lib.hid u
       clear u
       go_wp2
       go_round
       case rel => exact ⟨k + 1, by omega, by go_num, YES.out (by have := U.out; simp [nchB, letterB, digitB]; omega)⟩
       case measure => simp [intOf]; omega
      ·have u1 : (((s[k]'hlt).toNat : Int) != 95) = true := by rw [bne_iff_ne]; exact u
       by_cases d1 : ((s[k]'hlt).toNat : Int) < 48
       ·skip
        go_wp2
        go_ret
        exact boolP_mk (NO.out (by simp [nchB, letterB, digitB]; omega)) (Below.refl _ _)
       ·have d1' : decide (((s[k]'hlt).toNat : Int) < 48) = false := by simp; omega
        by_cases d2 : 57 < ((s[k]'hlt).toNat : Int)
        ·skip
         go_wp2
         go_ret
         exact boolP_mk (NO.out (by simp [nchB, letterB, digitB]; omega)) (Below.refl _ _)
        ·skip
         go_wp2
         go_round
         case rel => exact ⟨k + 1, by omega, by go_num, YES.out (by simp [nchB, letterB, digitB]; omega)⟩
         case measure => simp [intOf]; omega
   ·skip
    by_cases z : k = 0
    ·have z1 : ((k : Int) == 0) = true := by simp [z]
     have Z := Lib.hid z
     clear z
     go_wp2
     go_ret
     exact boolP_mk (NO.out (nch_no0 Z.out (by simp [letterB]; omega))) (Below.refl _ _)
    ·have z1 : ((k : Int) == 0) = false := by rw [beq_eq_false_iff_ne]; omega
     by_cases u : ((s[k]'hlt).toNat : Int) = 95
     ·have u1 : (((s[k]'hlt).toNat : Int) != 95) = false := by rw [u]; rfl
      have U := Lib.hid u
      clear u
      go_wp2
      go_round
      case rel => exact ⟨k + 1, by omega, by go_num, YES.out (by have := U.out; simp [nchB, letterB, digitB]; omega)⟩
      case measure => simp [intOf]; omega
     ·have u1 : (((s[k]'hlt).toNat : Int) != 95) = true := by rw [bne_iff_ne]; exact u
      by_cases d1 : ((s[k]'hlt).toNat : Int) < 48
      ·skip
       go_wp2
       go_ret
       exact boolP_mk (NO.out (by simp [nchB, letterB, digitB]; omega)) (Below.refl _ _)
      ·have d1' : decide (((s[k]'hlt).toNat : Int) < 48) = false := by simp; omega
       by_cases d2 : 57 < ((s[k]'hlt).toNat : Int)
       ·skip
        go_wp2
        go_ret
        exact boolP_mk (NO.out (by simp [nchB, letterB, digitB]; omega)) (Below.refl _ _)
       ·skip
        go_wp2
        go_round
        case rel => exact ⟨k + 1, by omega, by go_num, YES.out (by simp [nchB, letterB, digitB]; omega)⟩
        case measure => simp [intOf]; omega
  ·go_wp2
   go_ret
   refine boolP_mk ?_ (Below.refl _ _)
   rw [← HR.out]
   exact nchars_yes fun i hi => HA.out i hi (by omega)
theorem namer_any (s : ByteArray) (w : World) : Calls Tryz.prog 133 #[.string s] w (BoolP (nameB s) w) := by
 unfold nameB isWorld
 by_cases h1 : 1 ≤ s.size
 ·by_cases h2 : s.size ≤ 16
  ·cases hw : (s.toList == [119, 111, 114, 108, 100]) with
   | true => simpa using namer_world s w h1 h2 hw
   | false => simpa [h1, h2] using namer_loop s w h1 h2 hw
  ·simpa [h2] using namer_long s w (by omega)
 ·simpa [h1] using namer_short s w (by omega)
theorem between_any (x a b : Int) (w : World) : Calls Tryz.prog 72 #[.int .i64 x, .int .i64 a, .int .i64 b] w fun e w' => e = .returned (.bool (decide (a ≤ x ∧ x ≤ b))) ∧ w = w' := by
 by_cases h1 : a ≤ x
 ·by_cases h2 : x ≤ b
  all_goals
   go_enter Tryz.func72, Tryz.ntmps72
   go_wp2
   go_ret
   exact ⟨ret_bool (by symm; simp; omega), rfl⟩
 ·go_enter Tryz.func72, Tryz.ntmps72
  go_wp2
  go_ret
  exact ⟨ret_bool (by symm; simp; omega), rfl⟩
theorem between1_any (x b : Int) (w : World) : Calls Tryz.prog 72 #[.int .i64 x, .int .i64 1, .int .i64 b] w fun e w' => e = .returned (.bool (from1B x b)) ∧ w = w' := between_any x 1 b w
/-- The reference's greatest limit: as the program's, for the kinds that there are. -/
def reachF (k : Int) : Int := if k = 0 then 0 else if k = 1 ∨ k = 2 ∨ k = 3 then 524288 else 4194304
theorem reach_any (k : Int) (w : World) : Calls Tryz.prog 134 #[.int .i64 k] w fun e w' => e = .returned (.int .i64 (reachF k)) ∧ w = w' := by
 have key : ∀ b0 b1 b2 b3 : Bool, (k == 0) = b0 → (k == 1) = b1 → (k == 2) = b2 → (k == 3) = b3 →
   Calls Tryz.prog 134 #[.int .i64 k] w fun e w' => e = .returned (.int .i64 (reachF k)) ∧ w = w' := by
  intro b0 b1 b2 b3 h0 h1 h2 h3
  have HL : Hid (reachF k = if b0 then 0 else if b1 || b2 || b3 then 524288 else 4194304) := Lib.hid (by
   unfold reachF; rw [← h0, ← h1, ← h2, ← h3]; simp [or_assoc])
  cases b0
  ·cases b1
   ·cases b2
    ·cases b3
     all_goals
      go_enter Tryz.func134, Tryz.ntmps134
      go_wp2
      go_ret
      exact ⟨ret_int (by rw [HL.out]; rfl), rfl⟩
    ·go_enter Tryz.func134, Tryz.ntmps134
     go_wp2
     go_ret
     exact ⟨ret_int (by rw [HL.out]; rfl), rfl⟩
   ·go_enter Tryz.func134, Tryz.ntmps134
    go_wp2
    go_ret
    exact ⟨ret_int (by rw [HL.out]; rfl), rfl⟩
  ·go_enter Tryz.func134, Tryz.ntmps134
   go_wp2
   go_ret
   exact ⟨ret_int (by rw [HL.out]; rfl), rfl⟩
 exact key _ _ _ _ rfl rfl rfl rfl
theorem reach_limit (k : Int) (h1 : 0 ≤ k) (h2 : k ≤ 6) : reachF k = limitF k := by
 unfold reachF limitF
 rcases (show k = 0 ∨ k = 1 ∨ k = 2 ∨ k = 3 ∨ k = 4 ∨ k = 5 ∨ k = 6 by omega) with rfl | rfl | rfl | rfl | rfl | rfl | rfl <;> simp
set_option maxHeartbeats 1000000 in
theorem near_01 (x y z : Int) (w : World) (a0 : decide (x < -4194304) = true) : Calls Tryz.prog 73 #[.agg #[.int .i64 x, .int .i64 y, .int .i64 z], .int .i64 4194304] w (BoolP false w) := by
 go_enter Tryz.func73, Tryz.ntmps73
 go_wp2_with fail
 refine wp_loop_rounds 4 ?_
 rw [rounds_succ]
 go_wp2_with fail
 go_wp2
 go_ret
 exact boolP_mk rfl ((Below.refl _ _).alloc (Nat.le_refl _) _)
set_option maxHeartbeats 1000000 in
theorem near_02 (x y z : Int) (w : World) (a0 : decide (x < -4194304) = false) (b0 : decide (4194304 < x) = true) : Calls Tryz.prog 73 #[.agg #[.int .i64 x, .int .i64 y, .int .i64 z], .int .i64 4194304] w (BoolP false w) := by
 go_enter Tryz.func73, Tryz.ntmps73
 go_wp2_with fail
 refine wp_loop_rounds 4 ?_
 rw [rounds_succ]
 go_wp2_with fail
 go_wp2
 go_ret
 exact boolP_mk rfl ((Below.refl _ _).alloc (Nat.le_refl _) _)
set_option maxHeartbeats 1000000 in
theorem near_11 (x y z : Int) (w : World) (a0 : decide (x < -4194304) = false) (b0 : decide (4194304 < x) = false) (a1 : decide (y < -4194304) = true) : Calls Tryz.prog 73 #[.agg #[.int .i64 x, .int .i64 y, .int .i64 z], .int .i64 4194304] w (BoolP false w) := by
 go_enter Tryz.func73, Tryz.ntmps73
 go_wp2_with fail
 refine wp_loop_rounds 4 ?_
 rw [rounds_succ]
 go_wp2_with fail
 rw [rounds_succ]
 go_wp2_with fail
 go_wp2
 go_ret
 exact boolP_mk rfl ((Below.refl _ _).alloc (Nat.le_refl _) _)
set_option maxHeartbeats 1000000 in
theorem near_12 (x y z : Int) (w : World) (a0 : decide (x < -4194304) = false) (b0 : decide (4194304 < x) = false) (a1 : decide (y < -4194304) = false) (b1 : decide (4194304 < y) = true) : Calls Tryz.prog 73 #[.agg #[.int .i64 x, .int .i64 y, .int .i64 z], .int .i64 4194304] w (BoolP false w) := by
 go_enter Tryz.func73, Tryz.ntmps73
 go_wp2_with fail
 refine wp_loop_rounds 4 ?_
 rw [rounds_succ]
 go_wp2_with fail
 rw [rounds_succ]
 go_wp2_with fail
 go_wp2
 go_ret
 exact boolP_mk rfl ((Below.refl _ _).alloc (Nat.le_refl _) _)
set_option maxHeartbeats 1000000 in
theorem near_21 (x y z : Int) (w : World) (a0 : decide (x < -4194304) = false) (b0 : decide (4194304 < x) = false) (a1 : decide (y < -4194304) = false) (b1 : decide (4194304 < y) = false) (a2 : decide (z < -4194304) = true) : Calls Tryz.prog 73 #[.agg #[.int .i64 x, .int .i64 y, .int .i64 z], .int .i64 4194304] w (BoolP false w) := by
 go_enter Tryz.func73, Tryz.ntmps73
 go_wp2_with fail
 refine wp_loop_rounds 4 ?_
 rw [rounds_succ]
 go_wp2_with fail
 rw [rounds_succ]
 go_wp2_with fail
 rw [rounds_succ]
 go_wp2_with fail
 go_wp2
 go_ret
 exact boolP_mk rfl ((Below.refl _ _).alloc (Nat.le_refl _) _)
set_option maxHeartbeats 1000000 in
theorem near_22 (x y z : Int) (w : World) (a0 : decide (x < -4194304) = false) (b0 : decide (4194304 < x) = false) (a1 : decide (y < -4194304) = false) (b1 : decide (4194304 < y) = false) (a2 : decide (z < -4194304) = false) (b2 : decide (4194304 < z) = true) : Calls Tryz.prog 73 #[.agg #[.int .i64 x, .int .i64 y, .int .i64 z], .int .i64 4194304] w (BoolP false w) := by
 go_enter Tryz.func73, Tryz.ntmps73
 go_wp2_with fail
 refine wp_loop_rounds 4 ?_
 rw [rounds_succ]
 go_wp2_with fail
 rw [rounds_succ]
 go_wp2_with fail
 rw [rounds_succ]
 go_wp2_with fail
 go_wp2
 go_ret
 exact boolP_mk rfl ((Below.refl _ _).alloc (Nat.le_refl _) _)
set_option maxHeartbeats 1000000 in
theorem near_30 (x y z : Int) (w : World) (a0 : decide (x < -4194304) = false) (b0 : decide (4194304 < x) = false) (a1 : decide (y < -4194304) = false) (b1 : decide (4194304 < y) = false) (a2 : decide (z < -4194304) = false) (b2 : decide (4194304 < z) = false) : Calls Tryz.prog 73 #[.agg #[.int .i64 x, .int .i64 y, .int .i64 z], .int .i64 4194304] w (BoolP true w) := by
 go_enter Tryz.func73, Tryz.ntmps73
 go_wp2_with fail
 refine wp_loop_rounds 4 ?_
 rw [rounds_succ]
 go_wp2_with fail
 rw [rounds_succ]
 go_wp2_with fail
 rw [rounds_succ]
 go_wp2_with fail
 rw [rounds_succ]
 go_wp2_with fail
 go_wp2
 go_ret
 exact boolP_mk rfl ((Below.refl _ _).alloc (Nat.le_refl _) _)
theorem near_any (x y z : Int) (w : World) : Calls Tryz.prog 73 #[.agg #[.int .i64 x, .int .i64 y, .int .i64 z], .int .i64 4194304] w (BoolP (!beyondB x y z) w) := by
 unfold beyondB farB
 cases a0 : decide (x < -4194304) with
 | true => exact near_01 x y z w a0
 | false =>
  cases b0 : decide (4194304 < x) with
  | true => exact near_02 x y z w a0 b0
  | false =>
   cases a1 : decide (y < -4194304) with
   | true => exact near_11 x y z w a0 b0 a1
   | false =>
    cases b1 : decide (4194304 < y) with
    | true => exact near_12 x y z w a0 b0 a1 b1
    | false =>
     cases a2 : decide (z < -4194304) with
     | true => exact near_21 x y z w a0 b0 a1 b1 a2
     | false =>
      cases b2 : decide (4194304 < z) with
      | true => exact near_22 x y z w a0 b0 a1 b1 a2 b2
      | false => exact near_30 x y z w a0 b0 a1 b1 a2 b2
end Go.Proofs.En
end
section
/-
 Robots in memory; walks: Find.
-/
namespace Go.Proofs.En
open Go.RowKit
/-- A joint. -/
structure JV where
 name : ByteArray
 kind : Int
 parent : Int
 o0 : Int
 o1 : Int
 o2 : Int
 lo : Int
 hi : Int
 weight : Int
 speed : Int
 accel : Int
 torque : Int
def JV.vals (j : JV) : List Value := [.string j.name, .int .i64 j.kind, .int .i64 j.parent, .int .i64 j.o0, .int .i64 j.o1, .int .i64 j.o2, .int .i64 j.lo, .int .i64 j.hi, .int .i64 j.weight, .int .i64 j.speed, .int .i64 j.accel, .int .i64 j.torque]
/-- A mass. -/
structure MV where
 link : Int
 mass : Int
 p0 : Int
 p1 : Int
 p2 : Int
def MV.vals (m : MV) : List Value := [.int .i64 m.link, .int .i64 m.mass, .int .i64 m.p0, .int .i64 m.p1, .int .i64 m.p2]
/-- Rows of n cells, one behind another. -/
structure RowsAt (w : World) (b off n : Nat) (l : List (List Value)) : Prop where
 lt : b < w.heap.size
 c : ∀ i r, l[i]? = some r → ∀ k v, r[k]? = some v → w.cell? ⟨b, off + (i * n + k), none⟩ = some v
theorem RowsAt.keep {w w' : World} {b off n : Nat} {l : List (List Value)} (h : RowsAt w b off n l) (hb : Below w.heap.size w w') : RowsAt w' b off n l :=
 ⟨Nat.lt_of_lt_of_le h.lt hb.size, fun i r hi k v hv => (hb.cell (p := ⟨b, off + (i * n + k), none⟩) h.lt).trans (h.c i r hi k v hv)⟩
theorem rows_get {js : List JV} {k : Nat} {j : JV} (h : js[k]? = some j) : (js.map JV.vals)[k]? = some j.vals := by simp [h]
def eqS (a b : ByteArray) : Bool := a.toList == b.toList
/-- The first joint of a name, or -1. -/
def findF (js : List JV) (s : ByteArray) : Int := if js.findIdx (fun j => eqS j.name s) < js.length then js.findIdx (fun j => eqS j.name s) else -1
def IntRP (n : Int) (w : World) (e : Ending) (w' : World) : Prop := e = .returned (.int .i64 n) ∧ Below w.heap.size w w'
theorem intRP_mk {n m : Int} {w w' : World} (h : n = m) (hb : Below w.heap.size w w') : IntRP n w (.returned (.int .i64 m)) w' := by subst h; exact ⟨rfl, hb⟩
theorem findF_at {js : List JV} {s : ByteArray} {k : Nat} {j : JV} (hj : js[k]? = some j) (he : eqS j.name s = true) (hall : ∀ i (j : JV), i < k → js[i]? = some j → eqS j.name s = false) : findF js s = k := by
 have hk : k < js.length := by
  rcases Nat.lt_or_ge k js.length with h | h
  ·exact h
  ·rw [List.getElem?_eq_none h] at hj; cases hj
 have : js.findIdx (fun j => eqS j.name s) = k := by
  rw [List.findIdx_eq hk]
  rw [List.getElem?_eq_getElem hk] at hj
  injection hj with hj
  exact ⟨by rw [hj]; exact he, fun i hi => hall i _ hi (List.getElem?_eq_getElem (by omega))⟩
 unfold findF
 rw [this, if_pos hk]
theorem findF_none {js : List JV} {s : ByteArray} (hall : ∀ (i : Nat) (j : JV), js[i]? = some j → eqS j.name s = false) : findF js s = -1 := by
 have : js.findIdx (fun j => eqS j.name s) = js.length := by
  rw [List.findIdx_eq_length]
  intro x hx
  obtain ⟨i, hi, rfl⟩ := List.mem_iff_getElem.1 hx
  exact hall i _ (List.getElem?_eq_getElem hi)
 unfold findF
 rw [this, if_neg (by omega)]
set_option maxHeartbeats 1000000 in
theorem find_any (b off cap : Nat) (js : List JV) (mv : Value) (s : ByteArray) (w : World) (hc : js.length ≤ 100) (hJ : RowsAt w b off 12 (js.map JV.vals)) :
  Calls Tryz.prog 128 #[.agg #[.slice (some ⟨b, off, none⟩) js.length cap, mv], .string s] w (IntRP (findF js s) w) := by
 have lt := hJ.lt
 generalize hr : findF js s = r
 have HR := Lib.hid hr
 clear hr
 go_enter Tryz.func128, Tryz.ntmps128
 go_wp2_with fail
 go_loop [9] (fun i => ∃ k : Nat, k ≤ js.length ∧ i = .int .i64 k ∧ ∀ i j, i < k → js[i]? = some j → eqS j.name s = false) (fun i => js.length - (intOf i).toNat)
 case atStart => exact ⟨0, by omega, rfl, fun i j h => absurd h (by omega)⟩
 case round =>
  obtain ⟨k, hk, rfl, hall⟩ := hrel
  have HA := Lib.hid hall
  clear hall
  by_cases hlt : k < js.length
  ·obtain ⟨j, hj⟩ : ∃ j, js[k]? = some j := ⟨_, List.getElem?_eq_getElem hlt⟩
   have c0 : w.cell? ⟨b, off + k * 12, none⟩ = some (.string j.name) := hJ.c k _ (rows_get hj) 0 _ rfl
   have HJ := Lib.hid hj
   clear hj
   cases he : (j.name.toList == s.toList) with
   | true =>
    go_wp2
    go_ret
    refine intRP_mk ?_ ((Below.refl _ _).alloc (Nat.le_refl _) _)
    rw [← HR.out]
    exact findF_at HJ.out he HA.out
   | false =>
    go_wp2
    go_round
    case rel =>
     refine ⟨k + 1, by omega, by go_num, fun i j' hi hj' => ?_⟩
     rcases (show i < k ∨ i = k by omega) with h | rfl
     ·exact HA.out i j' h hj'
     ·rw [HJ.out] at hj'; injection hj' with hj'; subst hj'; exact he
    case measure => simp [intOf]; omega
  ·go_wp2
   go_ret
   refine intRP_mk ?_ ((Below.refl _ _).alloc (Nat.le_refl _) _)
   rw [← HR.out]
   refine findF_none fun i j hj => HA.out i j ?_ hj
   rcases Nat.lt_or_ge i js.length with h | h
   ·omega
   ·rw [List.getElem?_eq_none h] at hj; cases hj
end Go.Proofs.En
end
section
/-
 Walks: checkJoint.
-/
namespace Go.Proofs.En
open Go.RowKit
/-- The error of joint i, as the program finds it. -/
def checkJ (js : List JV) (j : JV) (i : Int) : Int :=
 if !nameB j.name || decide (findF js j.name ≠ i) then 802
 else if j.kind < 0 ∨ 6 < j.kind then 803
 else if j.parent < -1 ∨ i ≤ j.parent then 804
 else if beyondB j.o0 j.o1 j.o2 then 805
 else if j.hi < j.lo ∨ j.lo < -limitF j.kind ∨ limitF j.kind < j.hi then 806
 else if !from1B j.weight 1024 || !from1B j.speed 1048576 || !from1B j.accel 1048576 || !from1B j.torque 1099511627776 then 807
 else 0
theorem limitF_bd (k : Int) : 0 ≤ limitF k ∧ limitF k ≤ 4194304 := by
 unfold limitF; split
 ·omega
 ·split <;> omega
/-- The world inside checkJoint. -/
structure CW (w : World) (n2 n5 b off : Nat) (rv : List Value) (j : JV) (js : List JV) (W : World) : Prop where
 bel : Below w.heap.size w W
 r2 : Row W n2 rv
 r5 : Row W n5 j.vals
 rJ : RowsAt W b off 12 (js.map JV.vals)
theorem CW.keep {w W W' : World} {n2 n5 b off : Nat} {rv : List Value} {j : JV} {js : List JV} (h : CW w n2 n5 b off rv j js W) (hb : Below W.heap.size W W') : CW w n2 n5 b off rv j js W' :=
 ⟨below_call h.bel hb, h.r2.keep hb, h.r5.keep hb, h.rJ.keep hb⟩
set_option maxHeartbeats 8000000 in
theorem checkJoint_any (b off cap : Nat) (js : List JV) (j : JV) (k : Nat) (mv : Value) (w : World) (hc : js.length ≤ 100) (hk : k < js.length) (hj : js[k]? = some j) (hJ : RowsAt w b off 12 (js.map JV.vals)) :
  Calls Tryz.prog 96 #[.agg #[.slice (some ⟨b, off, none⟩) js.length cap, mv], .int .i64 k] w (IntRP (checkJ js j k) w) := by
 have lt := hJ.lt
 have c0 : w.cell? ⟨b, off + k * 12, none⟩ = some (.string j.name) := hJ.c k _ (rows_get hj) 0 _ rfl
 have c1 : w.cell? ⟨b, off + k * 12 + 1, none⟩ = some (.int .i64 j.kind) := hJ.c k _ (rows_get hj) 1 _ rfl
 have c2 : w.cell? ⟨b, off + k * 12 + 2, none⟩ = some (.int .i64 j.parent) := hJ.c k _ (rows_get hj) 2 _ rfl
 have c3 : w.cell? ⟨b, off + k * 12 + 3, none⟩ = some (.int .i64 j.o0) := hJ.c k _ (rows_get hj) 3 _ rfl
 have c4 : w.cell? ⟨b, off + k * 12 + 4, none⟩ = some (.int .i64 j.o1) := hJ.c k _ (rows_get hj) 4 _ rfl
 have c5 : w.cell? ⟨b, off + k * 12 + 5, none⟩ = some (.int .i64 j.o2) := hJ.c k _ (rows_get hj) 5 _ rfl
 have c6 : w.cell? ⟨b, off + k * 12 + 6, none⟩ = some (.int .i64 j.lo) := hJ.c k _ (rows_get hj) 6 _ rfl
 have c7 : w.cell? ⟨b, off + k * 12 + 7, none⟩ = some (.int .i64 j.hi) := hJ.c k _ (rows_get hj) 7 _ rfl
 have c8 : w.cell? ⟨b, off + k * 12 + 8, none⟩ = some (.int .i64 j.weight) := hJ.c k _ (rows_get hj) 8 _ rfl
 have c9 : w.cell? ⟨b, off + k * 12 + 9, none⟩ = some (.int .i64 j.speed) := hJ.c k _ (rows_get hj) 9 _ rfl
 have c10 : w.cell? ⟨b, off + k * 12 + 10, none⟩ = some (.int .i64 j.accel) := hJ.c k _ (rows_get hj) 10 _ rfl
 have c11 : w.cell? ⟨b, off + k * 12 + 11, none⟩ = some (.int .i64 j.torque) := hJ.c k _ (rows_get hj) 11 _ rfl
 have hC : checkJ js j k = checkJ js j k := rfl
 generalize hr : checkJ js j k = r at hC
 unfold checkJ at hr
 have HR := Lib.hid hr
 clear hr hC hj
 go_enter Tryz.func96, Tryz.ntmps96
 go_wp2_with fail
 have hb0 : Below w.heap.size w ((w.alloc (.cells #[.slice (some ⟨b, off, none⟩) js.length cap, mv] 25)).alloc (.cells #[.string j.name, .int .i64 j.kind, .int .i64 j.parent, .int .i64 j.o0, .int .i64 j.o1, .int .i64 j.o2, .int .i64 j.lo, .int .i64 j.hi, .int .i64 j.weight, .int .i64 j.speed, .int .i64 j.accel, .int .i64 j.torque] 64)) := ((Below.refl _ _).alloc (Nat.le_refl _) _).alloc (by simp) _
 have e1 : (w.alloc (.cells #[.slice (some ⟨b, off, none⟩) js.length cap, mv] 25)).heap.size = w.heap.size + 1 := by simp
 have q5 := Row.new (w.alloc (.cells #[.slice (some ⟨b, off, none⟩) js.length cap, mv] 25)) [.string j.name, .int .i64 j.kind, .int .i64 j.parent, .int .i64 j.o0, .int .i64 j.o1, .int .i64 j.o2, .int .i64 j.lo, .int .i64 j.hi, .int .i64 j.weight, .int .i64 j.speed, .int .i64 j.accel, .int .i64 j.torque] 64
 rw [e1] at q5
 have hW0 : CW w w.heap.size (w.heap.size + 1) b off [.slice (some ⟨b, off, none⟩) js.length cap, mv] j js ((w.alloc (.cells #[.slice (some ⟨b, off, none⟩) js.length cap, mv] 25)).alloc (.cells #[.string j.name, .int .i64 j.kind, .int .i64 j.parent, .int .i64 j.o0, .int .i64 j.o1, .int .i64 j.o2, .int .i64 j.lo, .int .i64 j.hi, .int .i64 j.weight, .int .i64 j.speed, .int .i64 j.accel, .int .i64 j.torque] 64)) := ⟨hb0, (Row.new w [.slice (some ⟨b, off, none⟩) js.length cap, mv] 25).al _, q5, hJ.keep hb0⟩
 clear hb0 e1 q5 c0 c1 c2 c3 c4 c5 c6 c7 c8 c9 c10 c11 lt hJ
 generalize ((w.alloc (.cells #[.slice (some ⟨b, off, none⟩) js.length cap, mv] 25)).alloc (.cells #[.string j.name, .int .i64 j.kind, .int .i64 j.parent, .int .i64 j.o0, .int .i64 j.o1, .int .i64 j.o2, .int .i64 j.lo, .int .i64 j.hi, .int .i64 j.weight, .int .i64 j.speed, .int .i64 j.accel, .int .i64 j.torque] 64)) = W0 at hW0 ⊢
 generalize w.heap.size + 1 = n5 at hW0 ⊢
 generalize hn2 : w.heap.size = n2 at hW0 ⊢
 have HN := Lib.hid hn2
 clear hn2
 refine (name_any _ _).mono ?_
 rintro e W1 ⟨rfl, hb1⟩
 have hW := hW0.keep hb1
 clear hW0 hb1
 cases hnm : nameB j.name with
 | false =>
  have NM := Lib.hid hnm
  clear hnm
  have s0 := hW.r2.c 0 _ rfl
  have s1 := hW.r2.c 1 _ rfl
  have d0 : W1.cell? ⟨n5, 0, none⟩ = some (.string j.name) := hW.r5.c 0 _ rfl
  have d1 : W1.cell? ⟨n5, 1, none⟩ = some (.int .i64 j.kind) := hW.r5.c 1 _ rfl
  have d2 : W1.cell? ⟨n5, 2, none⟩ = some (.int .i64 j.parent) := hW.r5.c 2 _ rfl
  have d3 : W1.cell? ⟨n5, 3, none⟩ = some (.int .i64 j.o0) := hW.r5.c 3 _ rfl
  have d4 : W1.cell? ⟨n5, 4, none⟩ = some (.int .i64 j.o1) := hW.r5.c 4 _ rfl
  have d5 : W1.cell? ⟨n5, 5, none⟩ = some (.int .i64 j.o2) := hW.r5.c 5 _ rfl
  have d6 : W1.cell? ⟨n5, 6, none⟩ = some (.int .i64 j.lo) := hW.r5.c 6 _ rfl
  have d7 : W1.cell? ⟨n5, 7, none⟩ = some (.int .i64 j.hi) := hW.r5.c 7 _ rfl
  have d8 : W1.cell? ⟨n5, 8, none⟩ = some (.int .i64 j.weight) := hW.r5.c 8 _ rfl
  have d9 : W1.cell? ⟨n5, 9, none⟩ = some (.int .i64 j.speed) := hW.r5.c 9 _ rfl
  have d10 : W1.cell? ⟨n5, 10, none⟩ = some (.int .i64 j.accel) := hW.r5.c 10 _ rfl
  have d11 : W1.cell? ⟨n5, 11, none⟩ = some (.int .i64 j.torque) := hW.r5.c 11 _ rfl
  go_wp2
  go_ret
  refine intRP_mk ?_ hW.bel
  rw [← HR.out]
  simp [NM.out]
 | true =>
  have NM := Lib.hid hnm
  clear hnm
  have s0 := hW.r2.c 0 _ rfl
  have s1 := hW.r2.c 1 _ rfl
  have d0 : W1.cell? ⟨n5, 0, none⟩ = some (.string j.name) := hW.r5.c 0 _ rfl
  have d1 : W1.cell? ⟨n5, 1, none⟩ = some (.int .i64 j.kind) := hW.r5.c 1 _ rfl
  have d2 : W1.cell? ⟨n5, 2, none⟩ = some (.int .i64 j.parent) := hW.r5.c 2 _ rfl
  have d3 : W1.cell? ⟨n5, 3, none⟩ = some (.int .i64 j.o0) := hW.r5.c 3 _ rfl
  have d4 : W1.cell? ⟨n5, 4, none⟩ = some (.int .i64 j.o1) := hW.r5.c 4 _ rfl
  have d5 : W1.cell? ⟨n5, 5, none⟩ = some (.int .i64 j.o2) := hW.r5.c 5 _ rfl
  have d6 : W1.cell? ⟨n5, 6, none⟩ = some (.int .i64 j.lo) := hW.r5.c 6 _ rfl
  have d7 : W1.cell? ⟨n5, 7, none⟩ = some (.int .i64 j.hi) := hW.r5.c 7 _ rfl
  have d8 : W1.cell? ⟨n5, 8, none⟩ = some (.int .i64 j.weight) := hW.r5.c 8 _ rfl
  have d9 : W1.cell? ⟨n5, 9, none⟩ = some (.int .i64 j.speed) := hW.r5.c 9 _ rfl
  have d10 : W1.cell? ⟨n5, 10, none⟩ = some (.int .i64 j.accel) := hW.r5.c 10 _ rfl
  have d11 : W1.cell? ⟨n5, 11, none⟩ = some (.int .i64 j.torque) := hW.r5.c 11 _ rfl
  go_wp2_with fail
  refine (find_any b off cap js mv j.name _ hc hW.rJ).mono ?_
  rintro e W2 ⟨rfl, hb2⟩
  have hV := hW.keep hb2
  clear hW hb2
  clear s0 s1 d0 d1 d2 d3 d4 d5 d6 d7 d8 d9 d10 d11
  have s0 := hV.r2.c 0 _ rfl
  have s1 := hV.r2.c 1 _ rfl
  have d0 : W2.cell? ⟨n5, 0, none⟩ = some (.string j.name) := hV.r5.c 0 _ rfl
  have d1 : W2.cell? ⟨n5, 1, none⟩ = some (.int .i64 j.kind) := hV.r5.c 1 _ rfl
  have d2 : W2.cell? ⟨n5, 2, none⟩ = some (.int .i64 j.parent) := hV.r5.c 2 _ rfl
  have d3 : W2.cell? ⟨n5, 3, none⟩ = some (.int .i64 j.o0) := hV.r5.c 3 _ rfl
  have d4 : W2.cell? ⟨n5, 4, none⟩ = some (.int .i64 j.o1) := hV.r5.c 4 _ rfl
  have d5 : W2.cell? ⟨n5, 5, none⟩ = some (.int .i64 j.o2) := hV.r5.c 5 _ rfl
  have d6 : W2.cell? ⟨n5, 6, none⟩ = some (.int .i64 j.lo) := hV.r5.c 6 _ rfl
  have d7 : W2.cell? ⟨n5, 7, none⟩ = some (.int .i64 j.hi) := hV.r5.c 7 _ rfl
  have d8 : W2.cell? ⟨n5, 8, none⟩ = some (.int .i64 j.weight) := hV.r5.c 8 _ rfl
  have d9 : W2.cell? ⟨n5, 9, none⟩ = some (.int .i64 j.speed) := hV.r5.c 9 _ rfl
  have d10 : W2.cell? ⟨n5, 10, none⟩ = some (.int .i64 j.accel) := hV.r5.c 10 _ rfl
  have d11 : W2.cell? ⟨n5, 11, none⟩ = some (.int .i64 j.torque) := hV.r5.c 11 _ rfl
  cases hfd : (findF js j.name != (k : Int)) with
  | true =>
   have FD : Hid (decide (findF js j.name ≠ (k : Int)) = true) := Lib.hid (by rw [bne_iff_ne] at hfd; simpa using hfd)
   go_wp2
   go_ret
   refine intRP_mk ?_ hV.bel
   rw [← HR.out]
   simp only [NM.out, FD.out]; rfl
  | false =>
   have FD : Hid (decide (findF js j.name ≠ (k : Int)) = false) := Lib.hid (by simpa [bne] using hfd)
   have H1 : Hid ((!nameB j.name || decide (findF js j.name ≠ (k : Int))) = false) := Lib.hid (by rw [NM.out, FD.out]; rfl)
   clear NM FD
   by_cases k1 : j.kind < 0
   ·skip
    go_wp2
    go_ret
    refine intRP_mk ?_ hV.bel
    rw [← HR.out]
    rw [if_neg (by rw [H1.out]; simp), if_pos (Or.inl k1)]
   ·have k1' : decide (j.kind < 0) = false := by simp; omega
    by_cases k2 : 6 < j.kind
    ·skip
     go_wp2
     go_ret
     refine intRP_mk ?_ hV.bel
     rw [← HR.out]
     rw [if_neg (by rw [H1.out]; simp), if_pos (Or.inr k2)]
    ·by_cases p1 : j.parent < -1
     ·skip
      go_wp2
      go_ret
      refine intRP_mk ?_ hV.bel
      rw [← HR.out]
      rw [if_neg (by rw [H1.out]; simp), if_neg (by omega), if_pos (Or.inl p1)]
     ·have p1' : decide (j.parent < -1) = false := by simp; omega
      by_cases p2 : (k : Int) ≤ j.parent
      ·skip
       go_wp2
       go_ret
       refine intRP_mk ?_ hV.bel
       rw [← HR.out]
       rw [if_neg (by rw [H1.out]; simp), if_neg (by omega), if_pos (Or.inr p2)]
      ·go_wp2_with fail
       refine (beyond_any _ _ _ _).mono ?_
       rintro e W3 ⟨rfl, hb3⟩
       have hU := hV.keep hb3
       clear hV hb3
       clear s0 s1 d0 d1 d2 d3 d4 d5 d6 d7 d8 d9 d10 d11
       have s0 := hU.r2.c 0 _ rfl
       have s1 := hU.r2.c 1 _ rfl
       have d0 : W3.cell? ⟨n5, 0, none⟩ = some (.string j.name) := hU.r5.c 0 _ rfl
       have d1 : W3.cell? ⟨n5, 1, none⟩ = some (.int .i64 j.kind) := hU.r5.c 1 _ rfl
       have d2 : W3.cell? ⟨n5, 2, none⟩ = some (.int .i64 j.parent) := hU.r5.c 2 _ rfl
       have d3 : W3.cell? ⟨n5, 3, none⟩ = some (.int .i64 j.o0) := hU.r5.c 3 _ rfl
       have d4 : W3.cell? ⟨n5, 4, none⟩ = some (.int .i64 j.o1) := hU.r5.c 4 _ rfl
       have d5 : W3.cell? ⟨n5, 5, none⟩ = some (.int .i64 j.o2) := hU.r5.c 5 _ rfl
       have d6 : W3.cell? ⟨n5, 6, none⟩ = some (.int .i64 j.lo) := hU.r5.c 6 _ rfl
       have d7 : W3.cell? ⟨n5, 7, none⟩ = some (.int .i64 j.hi) := hU.r5.c 7 _ rfl
       have d8 : W3.cell? ⟨n5, 8, none⟩ = some (.int .i64 j.weight) := hU.r5.c 8 _ rfl
       have d9 : W3.cell? ⟨n5, 9, none⟩ = some (.int .i64 j.speed) := hU.r5.c 9 _ rfl
       have d10 : W3.cell? ⟨n5, 10, none⟩ = some (.int .i64 j.accel) := hU.r5.c 10 _ rfl
       have d11 : W3.cell? ⟨n5, 11, none⟩ = some (.int .i64 j.torque) := hU.r5.c 11 _ rfl
       cases hby : beyondB j.o0 j.o1 j.o2 with
       | true =>
        have BY := Lib.hid hby
        clear hby
        go_wp2
        go_ret
        refine intRP_mk ?_ hU.bel
        rw [← HR.out]
        rw [if_neg (by rw [H1.out]; simp), if_neg (by omega), if_neg (by omega), if_pos BY.out]
       | false =>
        have BY : Hid (¬ (beyondB j.o0 j.o1 j.o2 = true)) := Lib.hid (by rw [hby]; simp)
        clear hby
        obtain ⟨lm, hlm⟩ : ∃ lm, limitF j.kind = lm := ⟨_, rfl⟩
        have lb := limitF_bd j.kind
        rw [hlm] at lb
        obtain ⟨lb1, lb2⟩ := lb
        have HLM := Lib.hid hlm
        clear hlm
        rw [HLM.out] at HR
        go_wp2_with fail
        refine (limit_any _ _).mono ?_
        rintro e v0 ⟨rfl, rfl⟩
        rw [HLM.out]
        by_cases l1 : j.hi < j.lo
        ·skip
         go_wp2
         go_ret
         refine intRP_mk ?_ hU.bel
         rw [← HR.out]
         rw [if_neg (by rw [H1.out]; simp), if_neg (by omega), if_neg (by omega), if_neg BY.out, if_pos (Or.inl l1)]
        ·have l1' : decide (j.hi < j.lo) = false := by simp; omega
         by_cases l2 : j.lo < -lm
         ·skip
          go_wp2
          go_ret
          refine intRP_mk ?_ hU.bel
          rw [← HR.out]
          rw [if_neg (by rw [H1.out]; simp), if_neg (by omega), if_neg (by omega), if_neg BY.out, if_pos (Or.inr (Or.inl l2))]
         ·have l2' : decide (j.lo < -lm) = false := by simp; omega
          by_cases l3 : lm < j.hi
          ·skip
           go_wp2
           go_ret
           refine intRP_mk ?_ hU.bel
           rw [← HR.out]
           rw [if_neg (by rw [H1.out]; simp), if_neg (by omega), if_neg (by omega), if_neg BY.out, if_pos (Or.inr (Or.inr l3))]
          ·have l3' : decide (lm < j.hi) = false := by simp; omega
           cases f0 : from1B j.weight 1024 with
           | false =>
            have F0 := Lib.hid f0
            clear f0
            go_wp2_with fail
            refine (from1_any _ _ _).mono ?_
            rintro e v0 ⟨rfl, rfl⟩
            rw [F0.out]
            go_wp2
            go_ret
            refine intRP_mk ?_ hU.bel
            rw [← HR.out]
            rw [if_neg (by rw [H1.out]; simp), if_neg (by omega), if_neg (by omega), if_neg BY.out, if_neg (by omega), if_pos (by rw [F0.out]; simp)]
           | true =>
            have F0 := Lib.hid f0
            clear f0
            cases f1 : from1B j.speed 1048576 with
            | false =>
             have F1 := Lib.hid f1
             clear f1
             go_wp2_with fail
             refine (from1_any _ _ _).mono ?_
             rintro e v0 ⟨rfl, rfl⟩
             rw [F0.out]
             go_wp2_with fail
             refine (from1_any _ _ _).mono ?_
             rintro e v1 ⟨rfl, rfl⟩
             rw [F1.out]
             go_wp2
             go_ret
             refine intRP_mk ?_ hU.bel
             rw [← HR.out]
             rw [if_neg (by rw [H1.out]; simp), if_neg (by omega), if_neg (by omega), if_neg BY.out, if_neg (by omega), if_pos (by rw [F0.out, F1.out]; simp)]
            | true =>
             have F1 := Lib.hid f1
             clear f1
             cases f2 : from1B j.accel 1048576 with
             | false =>
              have F2 := Lib.hid f2
              clear f2
              go_wp2_with fail
              refine (from1_any _ _ _).mono ?_
              rintro e v0 ⟨rfl, rfl⟩
              rw [F0.out]
              go_wp2_with fail
              refine (from1_any _ _ _).mono ?_
              rintro e v1 ⟨rfl, rfl⟩
              rw [F1.out]
              go_wp2_with fail
              refine (from1_any _ _ _).mono ?_
              rintro e v2 ⟨rfl, rfl⟩
              rw [F2.out]
              go_wp2
              go_ret
              refine intRP_mk ?_ hU.bel
              rw [← HR.out]
              rw [if_neg (by rw [H1.out]; simp), if_neg (by omega), if_neg (by omega), if_neg BY.out, if_neg (by omega), if_pos (by rw [F0.out, F1.out, F2.out]; simp)]
             | true =>
              have F2 := Lib.hid f2
              clear f2
              cases f3 : from1B j.torque 1099511627776 with
              | false =>
               have F3 := Lib.hid f3
               clear f3
               go_wp2_with fail
               refine (from1_any _ _ _).mono ?_
               rintro e v0 ⟨rfl, rfl⟩
               rw [F0.out]
               go_wp2_with fail
               refine (from1_any _ _ _).mono ?_
               rintro e v1 ⟨rfl, rfl⟩
               rw [F1.out]
               go_wp2_with fail
               refine (from1_any _ _ _).mono ?_
               rintro e v2 ⟨rfl, rfl⟩
               rw [F2.out]
               go_wp2_with fail
               refine (from1_any _ _ _).mono ?_
               rintro e v3 ⟨rfl, rfl⟩
               rw [F3.out]
               go_wp2
               go_ret
               refine intRP_mk ?_ hU.bel
               rw [← HR.out]
               rw [if_neg (by rw [H1.out]; simp), if_neg (by omega), if_neg (by omega), if_neg BY.out, if_neg (by omega), if_pos (by rw [F0.out, F1.out, F2.out, F3.out]; simp)]
              | true =>
               have F3 := Lib.hid f3
               clear f3
               go_wp2_with fail
               refine (from1_any _ _ _).mono ?_
               rintro e v0 ⟨rfl, rfl⟩
               rw [F0.out]
               go_wp2_with fail
               refine (from1_any _ _ _).mono ?_
               rintro e v1 ⟨rfl, rfl⟩
               rw [F1.out]
               go_wp2_with fail
               refine (from1_any _ _ _).mono ?_
               rintro e v2 ⟨rfl, rfl⟩
               rw [F2.out]
               go_wp2_with fail
               refine (from1_any _ _ _).mono ?_
               rintro e v3 ⟨rfl, rfl⟩
               rw [F3.out]
               go_wp2
               go_ret
               refine intRP_mk ?_ hU.bel
               rw [← HR.out]
               rw [if_neg (by rw [H1.out]; simp), if_neg (by omega), if_neg (by omega), if_neg BY.out, if_neg (by omega), if_neg (by rw [F0.out, F1.out, F2.out, F3.out]; simp)]
end Go.Proofs.En
end
section
/-
 Walks: masses; Check.
-/
namespace Go.Proofs.En
open Go.RowKit
def massB (n : Nat) (m : MV) : Bool := decide (0 ≤ m.link ∧ m.link < n) && from1B m.mass 65536 && !beyondB m.p0 m.p1 m.p2
/-- A slice (its pointer) over these rows: nil only where there is none. -/
def Sl (w : World) (oa : Option Addr) (n : Nat) (rows : List (List Value)) : Prop := rows ≠ [] → ∃ b off, oa = some ⟨b, off, none⟩ ∧ RowsAt w b off n rows
theorem Sl.keep {w w' : World} {oa : Option Addr} {n : Nat} {rows : List (List Value)} (h : Sl w oa n rows) (hb : Below w.heap.size w w') : Sl w' oa n rows := by
 intro h0
 obtain ⟨b, off, e, h1⟩ := h h0
 exact ⟨b, off, e, h1.keep hb⟩
set_option maxHeartbeats 2000000 in
theorem validMass_any (oa : Option Addr) (n cap : Nat) (mv : Value) (m : MV) (w : World) :
  Calls Tryz.prog 99 #[.agg #[.slice oa n cap, mv], .agg #[.int .i64 m.link, .int .i64 m.mass, .int .i64 m.p0, .int .i64 m.p1, .int .i64 m.p2]] w (BoolP (massB n m) w) := by
 generalize hr : massB n m = r
 unfold massB at hr
 have HR := Lib.hid hr
 clear hr
 by_cases c1 : 0 ≤ m.link
 ·by_cases c2 : m.link < n
  ·cases f0 : from1B m.mass 65536 with
   | false =>
    have F0 := Lib.hid f0
    clear f0
    go_enter Tryz.func99, Tryz.ntmps99
    go_wp2_with fail
    refine (from1_any _ _ _).mono ?_
    rintro e v0 ⟨rfl, rfl⟩
    rw [F0.out]
    go_wp2
    go_ret
    exact boolP_mk (by rw [← HR.out, F0.out]; simp) (((Below.refl _ _).alloc (Nat.le_refl _) _).alloc (by simp) _)
   | true =>
    have F0 := Lib.hid f0
    clear f0
    go_enter Tryz.func99, Tryz.ntmps99
    go_wp2_with fail
    refine (from1_any _ _ _).mono ?_
    rintro e v0 ⟨rfl, rfl⟩
    rw [F0.out]
    go_wp2_with fail
    refine (beyond_any _ _ _ _).mono ?_
    rintro e v1 ⟨rfl, hb1⟩
    go_wp2
    go_ret
    refine boolP_mk ?_ (below_call (((Below.refl _ _).alloc (Nat.le_refl _) _).alloc (by simp) _) hb1)
    rw [← HR.out, F0.out]
    simp [c1, c2]
  ·have c2' : decide (m.link < (n : Int)) = false := by simp; omega
   go_enter Tryz.func99, Tryz.ntmps99
   go_wp2
   go_ret
   exact boolP_mk (by rw [← HR.out]; simp; omega) (((Below.refl _ _).alloc (Nat.le_refl _) _).alloc (by simp) _)
 ·have c1' : decide (0 ≤ m.link) = false := by simp; omega
  go_enter Tryz.func99, Tryz.ntmps99
  go_wp2
  go_ret
  exact boolP_mk (by rw [← HR.out]; simp; omega) (((Below.refl _ _).alloc (Nat.le_refl _) _).alloc (by simp) _)
set_option maxHeartbeats 2000000 in
theorem closure_any (oa : Option Addr) (n cap nb : Nat) (mv : Value) (m : MV) (w : World) (hR : Row w nb [.slice oa n cap, mv]) :
  Calls Tryz.prog 98 #[.agg #[.int .i64 m.link, .int .i64 m.mass, .int .i64 m.p0, .int .i64 m.p1, .int .i64 m.p2], .pointer (some ⟨nb, 0, none⟩)] w (BoolP (!massB n m) w) := by
 have c0 := hR.c 0 _ rfl
 have c1 := hR.c 1 _ rfl
 have lt := hR.lt
 go_enter Tryz.func98, Tryz.ntmps98
 go_wp2_with fail
 refine (validMass_any oa n cap mv m _).mono ?_
 rintro e v1 ⟨rfl, hb1⟩
 go_wp2
 go_ret
 exact boolP_mk rfl (below_call ((Below.refl _ _).alloc (Nat.le_refl _) _) hb1)
/-- The first mass that does not stand, or -1. -/
def badF (n : Nat) (ms : List MV) : Int := if ms.findIdx (fun m => !massB n m) < ms.length then ms.findIdx (fun m => !massB n m) else -1
theorem badF_at {n : Nat} {ms : List MV} {k : Nat} {m : MV} (hm : ms[k]? = some m) (he : massB n m = false) (hall : ∀ i (m : MV), i < k → ms[i]? = some m → massB n m = true) : badF n ms = k := by
 have hk : k < ms.length := by
  rcases Nat.lt_or_ge k ms.length with h | h
  ·exact h
  ·rw [List.getElem?_eq_none h] at hm; cases hm
 have : ms.findIdx (fun m => !massB n m) = k := by
  rw [List.findIdx_eq hk]
  rw [List.getElem?_eq_getElem hk] at hm
  injection hm with hm
  exact ⟨by rw [hm, he]; rfl, fun i hi => by rw [hall i _ hi (List.getElem?_eq_getElem (by omega))]; rfl⟩
 unfold badF
 rw [this, if_pos hk]
theorem badF_none {n : Nat} {ms : List MV} (hall : ∀ (i : Nat) (m : MV), ms[i]? = some m → massB n m = true) : badF n ms = -1 := by
 have : ms.findIdx (fun m => !massB n m) = ms.length := by
  rw [List.findIdx_eq_length]
  intro x hx
  obtain ⟨i, hi, rfl⟩ := List.mem_iff_getElem.1 hx
  rw [hall i _ (List.getElem?_eq_getElem hi)]; rfl
 unfold badF
 rw [this, if_neg (by omega)]
theorem mrows_get {ms : List MV} {k : Nat} {m : MV} (h : ms[k]? = some m) : (ms.map MV.vals)[k]? = some m.vals := by simp [h]
set_option maxHeartbeats 2000000 in
theorem index_any (oa om : Option Addr) (n cap nb mcap : Nat) (mv : Value) (ms : List MV) (w : World) (hl : ms.length ≤ 9223372036854775807) (hR : Row w nb [.slice oa n cap, mv]) (hM : Sl w om 5 (ms.map MV.vals)) :
  Calls Tryz.prog 132 #[.slice om ms.length mcap, .func (.func 98) #[] #[.pointer (some ⟨nb, 0, none⟩)]] w (IntRP (badF n ms) w) := by
 generalize hr : badF n ms = r
 have HR := Lib.hid hr
 clear hr
 go_enter Tryz.func132, Tryz.ntmps132
 go_wp2_with fail
 go_loopw [8] (fun i W => ∃ k : Nat, k ≤ ms.length ∧ i = .int .i64 k ∧ Below w.heap.size w W ∧ ∀ i (m : MV), i < k → ms[i]? = some m → massB n m = true) (fun i _ => ms.length - (intOf i).toNat)
 case atStart => exact ⟨0, by omega, rfl, Below.refl _ _, fun i m h => absurd h (by omega)⟩
 case round =>
  obtain ⟨k, hk, rfl, hB, hall⟩ := hrel
  have HA := Lib.hid hall
  clear hall
  have hRr := hR.keep hB
  have hMr := hM.keep hB
  have HB := Lib.hid hB
  clear hB
  by_cases hlt : k < ms.length
  ·obtain ⟨m, hm⟩ : ∃ m, ms[k]? = some m := ⟨_, List.getElem?_eq_getElem hlt⟩
   obtain ⟨b, off, rfl, hMq⟩ := hMr (by intro h; rw [List.map_eq_nil_iff] at h; rw [h] at hlt; simp at hlt)
   have c0 : wr.cell? ⟨b, off + k * 5, none⟩ = some (.int .i64 m.link) := hMq.c k _ (mrows_get hm) 0 _ rfl
   have c1 : wr.cell? ⟨b, off + k * 5 + 1, none⟩ = some (.int .i64 m.mass) := hMq.c k _ (mrows_get hm) 1 _ rfl
   have c2 : wr.cell? ⟨b, off + k * 5 + 2, none⟩ = some (.int .i64 m.p0) := hMq.c k _ (mrows_get hm) 2 _ rfl
   have c3 : wr.cell? ⟨b, off + k * 5 + 3, none⟩ = some (.int .i64 m.p1) := hMq.c k _ (mrows_get hm) 3 _ rfl
   have c4 : wr.cell? ⟨b, off + k * 5 + 4, none⟩ = some (.int .i64 m.p2) := hMq.c k _ (mrows_get hm) 4 _ rfl
   have HM := Lib.hid hm
   clear hm
   go_wp2_with fail
   refine (closure_any oa n cap nb mv m _ hRr).mono ?_
   rintro e W1 ⟨rfl, hb1⟩
   have hB1 : Below w.heap.size w W1 := below_call HB.out hb1
   have HB1 := Lib.hid hB1
   clear hB1 hb1
   cases hs : massB n m with
   | true =>
    have HS := Lib.hid hs
    clear hs
    go_wp2
    go_roundw
    case rel =>
     refine ⟨k + 1, by omega, by simp, HB1.out, fun i m' hi hm' => ?_⟩
     rcases Nat.lt_or_ge i k with h | h
     ·exact HA.out i m' h hm'
     ·have : i = k := by omega
      subst this
      have := HM.out.symm.trans hm'
      injection this with this
      rw [← this]; exact HS.out
    case measure => simp [intOf]; omega
   | false =>
    have HS := Lib.hid hs
    clear hs
    go_wp2
    go_ret
    refine intRP_mk ?_ HB1.out
    rw [← HR.out]
    exact badF_at HM.out HS.out HA.out
  ·go_wp2
   go_ret
   refine intRP_mk ?_ HB.out
   rw [← HR.out]
   refine badF_none fun i m hm => HA.out i m ?_ hm
   rcases Nat.lt_or_ge i ms.length with h | h
   ·omega
   ·rw [List.getElem?_eq_none h] at hm; cases hm
set_option maxHeartbeats 2000000 in
theorem contains_any (oa om : Option Addr) (n cap nb mcap : Nat) (mv : Value) (ms : List MV) (w : World) (hl : ms.length ≤ 9223372036854775807) (hR : Row w nb [.slice oa n cap, mv]) (hM : Sl w om 5 (ms.map MV.vals)) :
  Calls Tryz.prog 97 #[.slice om ms.length mcap, .func (.func 98) #[] #[.pointer (some ⟨nb, 0, none⟩)]] w (BoolP (decide (0 ≤ badF n ms)) w) := by
 go_enter Tryz.func97, Tryz.ntmps97
 go_wp2_with fail
 refine (index_any oa om n cap nb mcap mv ms _ hl hR hM).mono ?_
 rintro e v1 ⟨rfl, hb1⟩
 go_wp2
 go_ret
 exact boolP_mk rfl hb1
theorem badF_iff (n : Nat) (ms : List MV) : 0 ≤ badF n ms ↔ ∃ (i : Nat) (m : MV), ms[i]? = some m ∧ massB n m = false := by
 unfold badF
 split
 ·rename_i h
  constructor
  ·intro _
   have := List.findIdx_getElem (w := h)
   exact ⟨_, _, List.getElem?_eq_getElem h, by simpa using this⟩
  ·intro _; omega
 ·rename_i h
  constructor
  ·intro h0; omega
  ·rintro ⟨i, m, hm, hb⟩
   exfalso
   apply h
   rw [List.findIdx_lt_length]
   exact ⟨m, List.mem_of_getElem? hm, by rw [hb]; rfl⟩
/-- What Check finds. -/
def okR (js : List JV) (ms : List MV) : Prop := (0 < js.length ∧ js.length ≤ 10) ∧ (∀ (k : Nat) (j : JV), js[k]? = some j → checkJ js j k = 0) ∧ ms.length ≤ 32 ∧ ∀ (k : Nat) (m : MV), ms[k]? = some m → massB js.length m = true
def CodeP (p : Prop) (w : World) (e : Ending) (w' : World) : Prop := ∃ c : Int, e = .returned (.int .i64 c) ∧ (c = 0 ↔ p) ∧ Below w.heap.size w w'
theorem codeP_mk {p : Prop} {w w' : World} {c : Int} (h : c = 0 ↔ p) (hb : Below w.heap.size w w') : CodeP p w (.returned (.int .i64 c)) w' := ⟨c, rfl, h, hb⟩
/-- The world inside Check. -/
structure KW (w : World) (n1 : Nat) (oa om : Option Addr) (rv : List Value) (js : List JV) (ms : List MV) (W : World) : Prop where
 bel : Below w.heap.size w W
 r1 : Row W n1 rv
 rJ : Sl W oa 12 (js.map JV.vals)
 rM : Sl W om 5 (ms.map MV.vals)
theorem KW.keep {w W W' : World} {n1 : Nat} {oa om : Option Addr} {rv : List Value} {js : List JV} {ms : List MV} (h : KW w n1 oa om rv js ms W) (hb : Below W.heap.size W W') : KW w n1 oa om rv js ms W' :=
 ⟨below_call h.bel hb, h.r1.keep hb, h.rJ.keep hb, h.rM.keep hb⟩
set_option maxHeartbeats 4000000 in
theorem check_any (oa om : Option Addr) (cap mcap : Nat) (js : List JV) (ms : List MV) (w : World) (hj : js.length ≤ 100) (hl : ms.length ≤ 9223372036854775807) (hJ : Sl w oa 12 (js.map JV.vals)) (hM : Sl w om 5 (ms.map MV.vals)) :
  Calls Tryz.prog 62 #[.agg #[.slice oa js.length cap, .slice om ms.length mcap]] w (CodeP (okR js ms) w) := by
 generalize hr : okR js ms = r
 unfold okR at hr
 have HR := Lib.hid hr
 clear hr
 by_cases c0 : js.length = 0
 ·have c0' : ((js.length : Int) == 0) = true := by simp [c0]
  go_enter Tryz.func62, Tryz.ntmps62
  go_wp2
  go_ret
  exact codeP_mk (by rw [← HR.out]; exact ⟨fun h => absurd h (by omega), fun h => absurd h.1 (by omega)⟩) ((Below.refl _ _).alloc (Nat.le_refl _) _)
 ·have c0' : ((js.length : Int) == 0) = false := beq_eq_false_iff_ne.2 (by omega)
  by_cases c1 : 10 < js.length
  ·have c1' : decide (10 < (js.length : Int)) = true := by simp; omega
   go_enter Tryz.func62, Tryz.ntmps62
   go_wp2
   go_ret
   exact codeP_mk (by rw [← HR.out]; exact ⟨fun h => absurd h (by omega), fun h => absurd h.1 (by omega)⟩) ((Below.refl _ _).alloc (Nat.le_refl _) _)
  ·have c1' : decide (10 < (js.length : Int)) = false := by simp; omega
   go_enter Tryz.func62, Tryz.ntmps62
   go_wp2_with fail
   have hW0 : KW w w.heap.size oa om [.slice oa js.length cap, .slice om ms.length mcap] js ms (w.alloc (.cells #[.slice oa js.length cap, .slice om ms.length mcap] 25)) := ⟨(Below.refl _ _).alloc (Nat.le_refl _) _, Row.new w [.slice oa js.length cap, .slice om ms.length mcap] 25, hJ.keep ((Below.refl _ _).alloc (Nat.le_refl _) _), hM.keep ((Below.refl _ _).alloc (Nat.le_refl _) _)⟩
   clear hJ hM
   generalize (w.alloc (.cells #[.slice oa js.length cap, .slice om ms.length mcap] 25)) = W0 at hW0 ⊢
   generalize w.heap.size = n1 at hW0 ⊢
   go_loopw [18] (fun i W => ∃ k : Nat, k ≤ js.length ∧ i = .int .i64 k ∧ KW w n1 oa om [.slice oa js.length cap, .slice om ms.length mcap] js ms W ∧ ∀ i (j : JV), i < k → js[i]? = some j → checkJ js j i = 0) (fun i _ => js.length - (intOf i).toNat)
   case atStart => exact ⟨0, by omega, rfl, hW0, fun i m h => absurd h (by omega)⟩
   case round =>
    obtain ⟨k, hk, rfl, hW, hall⟩ := hrel
    have HA := Lib.hid hall
    clear hall
    clear hW0
    have s0 : wr.cell? ⟨n1, 0, none⟩ = some (.slice oa js.length cap) := hW.r1.c 0 _ rfl
    have s1 : wr.cell? ⟨n1, 1, none⟩ = some (.slice om ms.length mcap) := hW.r1.c 1 _ rfl
    have lt1 := hW.r1.lt
    by_cases hlt : k < js.length
    ·obtain ⟨j, hj⟩ : ∃ j, js[k]? = some j := ⟨_, List.getElem?_eq_getElem hlt⟩
     obtain ⟨b, off, rfl, hMq⟩ := hW.rJ (by intro h; rw [List.map_eq_nil_iff] at h; rw [h] at hlt; simp at hlt)
     have HM := Lib.hid hj
     clear hj
     go_wp2_with fail
     refine (checkJoint_any b off cap js j k _ _ (by omega) hlt HM.out hMq).mono ?_
     rintro e W1 ⟨rfl, hb1⟩
     have hV := hW.keep hb1
     clear hb1 hMq s0 s1 lt1
     have s0 : W1.cell? ⟨n1, 0, none⟩ = some (.slice (some ⟨b, off, none⟩) js.length cap) := hV.r1.c 0 _ rfl
     have s1 : W1.cell? ⟨n1, 1, none⟩ = some (.slice om ms.length mcap) := hV.r1.c 1 _ rfl
     cases hs : (checkJ js j k != 0) with
     | true =>
      have HS : Hid (checkJ js j k ≠ 0) := Lib.hid (by rw [bne_iff_ne] at hs; exact hs)
      go_wp2
      go_ret
      refine codeP_mk ?_ hV.bel
      rw [← HR.out]
      exact ⟨fun h => absurd h HS.out, fun h => absurd (h.2.1 k j HM.out) HS.out⟩
     | false =>
      have HS : Hid (checkJ js j k = 0) := Lib.hid (by simpa using hs)
      go_wp2
      go_roundw
      case rel =>
       refine ⟨k + 1, by omega, by simp, hV, fun i m' hi hm' => ?_⟩
       rcases Nat.lt_or_ge i k with h | h
       ·exact HA.out i m' h hm'
       ·have : i = k := by omega
        subst this
        have := HM.out.symm.trans hm'
        injection this with this
        rw [← this]; exact HS.out
      case measure => simp [intOf]; omega
    ·have hk' : k = js.length := by omega
     subst hk'
     have hsum : Hid (∀ (k : Nat) (j : JV), js[k]? = some j → checkJ js j k = 0) := Lib.hid (by
      intro i m hm
      refine HA.out i m ?_ hm
      rcases Nat.lt_or_ge i js.length with h | h
      ·exact h
      ·rw [List.getElem?_eq_none h] at hm; cases hm)
     by_cases c2 : 32 < ms.length
     ·have c2' : decide (32 < (ms.length : Int)) = true := by simp; omega
      go_wp2
      go_ret
      refine codeP_mk ?_ hW.bel
      rw [← HR.out]
      exact ⟨fun h => absurd h (by omega), fun h => absurd h.2.2.1 (by omega)⟩
     ·have c2' : decide (32 < (ms.length : Int)) = false := by simp; omega
      go_wp2_with fail
      refine (contains_any oa om js.length cap n1 mcap _ ms _ hl hW.r1 hW.rM).mono ?_
      rintro e W1 ⟨rfl, hb1⟩
      have hV := hW.keep hb1
      clear hb1 s0 s1 lt1
      cases hs : decide (0 ≤ badF js.length ms) with
      | true =>
       have HS : Hid (0 ≤ badF js.length ms) := Lib.hid (of_decide_eq_true hs)
       go_wp2
       go_ret
       refine codeP_mk ?_ hV.bel
       rw [← HR.out]
       obtain ⟨i, m, hm, hb⟩ := (badF_iff _ _).1 HS.out
       exact ⟨fun h => absurd h (by omega), fun h => by have := h.2.2.2 i m hm; rw [hb] at this; cases this⟩
      | false =>
       have HS : Hid (badF js.length ms < 0) := Lib.hid (Int.not_le.1 (of_decide_eq_false hs))
       go_wp2
       go_ret
       refine codeP_mk ?_ hV.bel
       rw [← HR.out]
       refine ⟨fun _ => ⟨by omega, hsum.out, by omega, fun i m hm => ?_⟩, fun _ => rfl⟩
       cases hb : massB js.length m with
       | true => rfl
       | false => exact absurd ((badF_iff _ _).2 ⟨i, m, hm, hb⟩) (Int.not_le.2 HS.out)
end Go.Proofs.En
end
section
/-
 Walks: the reference's checkJoint.
-/
namespace Go.Proofs.En
open Go.RowKit
theorem eqS_refl (s : ByteArray) : eqS s s = true := by simp [eqS]
/-- The world inside the reference's checkJoint. -/
structure CV (w : World) (n5 b off : Nat) (j : JV) (js : List JV) (W : World) : Prop where
 bel : Below w.heap.size w W
 r5 : Row W n5 j.vals
 rJ : RowsAt W b off 12 (js.map JV.vals)
theorem CV.keep {w W W' : World} {n5 b off : Nat} {j : JV} {js : List JV} (h : CV w n5 b off j js W) (hb : Below W.heap.size W W') : CV w n5 b off j js W' :=
 ⟨below_call h.bel hb, h.r5.keep hb, h.rJ.keep hb⟩
theorem below_drew (W : World) (n : Nat) : Below W.heap.size W (W.drewN n) := ⟨rfl, rfl, rfl, Nat.le_refl _, fun _ _ => rfl⟩
set_option maxHeartbeats 8000000 in
theorem checkJoint_ref (b off cap : Nat) (js : List JV) (j : JV) (k : Nat) (w : World) (hc : js.length ≤ 100) (hk : k < js.length) (hj : js[k]? = some j) (hJ : RowsAt w b off 12 (js.map JV.vals)) :
  Calls Tryz.prog 100 #[.slice (some ⟨b, off, none⟩) js.length cap, .int .i64 k] w (IntRP (checkJ js j k) w) := by
 have lt := hJ.lt
 have c0 : w.cell? ⟨b, off + k * 12, none⟩ = some (.string j.name) := hJ.c k _ (rows_get hj) 0 _ rfl
 have c1 : w.cell? ⟨b, off + k * 12 + 1, none⟩ = some (.int .i64 j.kind) := hJ.c k _ (rows_get hj) 1 _ rfl
 have c2 : w.cell? ⟨b, off + k * 12 + 2, none⟩ = some (.int .i64 j.parent) := hJ.c k _ (rows_get hj) 2 _ rfl
 have c3 : w.cell? ⟨b, off + k * 12 + 3, none⟩ = some (.int .i64 j.o0) := hJ.c k _ (rows_get hj) 3 _ rfl
 have c4 : w.cell? ⟨b, off + k * 12 + 4, none⟩ = some (.int .i64 j.o1) := hJ.c k _ (rows_get hj) 4 _ rfl
 have c5 : w.cell? ⟨b, off + k * 12 + 5, none⟩ = some (.int .i64 j.o2) := hJ.c k _ (rows_get hj) 5 _ rfl
 have c6 : w.cell? ⟨b, off + k * 12 + 6, none⟩ = some (.int .i64 j.lo) := hJ.c k _ (rows_get hj) 6 _ rfl
 have c7 : w.cell? ⟨b, off + k * 12 + 7, none⟩ = some (.int .i64 j.hi) := hJ.c k _ (rows_get hj) 7 _ rfl
 have c8 : w.cell? ⟨b, off + k * 12 + 8, none⟩ = some (.int .i64 j.weight) := hJ.c k _ (rows_get hj) 8 _ rfl
 have c9 : w.cell? ⟨b, off + k * 12 + 9, none⟩ = some (.int .i64 j.speed) := hJ.c k _ (rows_get hj) 9 _ rfl
 have c10 : w.cell? ⟨b, off + k * 12 + 10, none⟩ = some (.int .i64 j.accel) := hJ.c k _ (rows_get hj) 10 _ rfl
 have c11 : w.cell? ⟨b, off + k * 12 + 11, none⟩ = some (.int .i64 j.torque) := hJ.c k _ (rows_get hj) 11 _ rfl
 have hC : checkJ js j k = checkJ js j k := rfl
 generalize hr : checkJ js j k = r at hC
 unfold checkJ at hr
 have HR := Lib.hid hr
 have HJ := Lib.hid hj
 clear hr hC hj
 go_enter Tryz.func100, Tryz.ntmps100
 go_wp2_with fail
 have hb0 : Below w.heap.size w (w.alloc (.cells #[.string j.name, .int .i64 j.kind, .int .i64 j.parent, .int .i64 j.o0, .int .i64 j.o1, .int .i64 j.o2, .int .i64 j.lo, .int .i64 j.hi, .int .i64 j.weight, .int .i64 j.speed, .int .i64 j.accel, .int .i64 j.torque] 64)) := (Below.refl _ _).alloc (Nat.le_refl _) _
 have hW0 : CV w w.heap.size b off j js (w.alloc (.cells #[.string j.name, .int .i64 j.kind, .int .i64 j.parent, .int .i64 j.o0, .int .i64 j.o1, .int .i64 j.o2, .int .i64 j.lo, .int .i64 j.hi, .int .i64 j.weight, .int .i64 j.speed, .int .i64 j.accel, .int .i64 j.torque] 64)) := ⟨hb0, Row.new w [.string j.name, .int .i64 j.kind, .int .i64 j.parent, .int .i64 j.o0, .int .i64 j.o1, .int .i64 j.o2, .int .i64 j.lo, .int .i64 j.hi, .int .i64 j.weight, .int .i64 j.speed, .int .i64 j.accel, .int .i64 j.torque] 64, hJ.keep hb0⟩
 clear hb0 c0 c1 c2 c3 c4 c5 c6 c7 c8 c9 c10 c11 lt hJ
 generalize (w.alloc (.cells #[.string j.name, .int .i64 j.kind, .int .i64 j.parent, .int .i64 j.o0, .int .i64 j.o1, .int .i64 j.o2, .int .i64 j.lo, .int .i64 j.hi, .int .i64 j.weight, .int .i64 j.speed, .int .i64 j.accel, .int .i64 j.torque] 64)) = W0 at hW0 ⊢
 generalize hn5 : w.heap.size = n5 at hW0 ⊢
 have HN := Lib.hid hn5
 clear hn5
 refine (namer_any _ _).mono ?_
 rintro e W1 ⟨rfl, hb1⟩
 have hW := hW0.keep hb1
 clear hW0 hb1
 cases hnm : nameB j.name with
 | false =>
  have NM := Lib.hid hnm
  clear hnm
  have d0 : W1.cell? ⟨n5, 0, none⟩ = some (.string j.name) := hW.r5.c 0 _ rfl
  have d1 : W1.cell? ⟨n5, 1, none⟩ = some (.int .i64 j.kind) := hW.r5.c 1 _ rfl
  have d2 : W1.cell? ⟨n5, 2, none⟩ = some (.int .i64 j.parent) := hW.r5.c 2 _ rfl
  have d3 : W1.cell? ⟨n5, 3, none⟩ = some (.int .i64 j.o0) := hW.r5.c 3 _ rfl
  have d4 : W1.cell? ⟨n5, 4, none⟩ = some (.int .i64 j.o1) := hW.r5.c 4 _ rfl
  have d5 : W1.cell? ⟨n5, 5, none⟩ = some (.int .i64 j.o2) := hW.r5.c 5 _ rfl
  have d6 : W1.cell? ⟨n5, 6, none⟩ = some (.int .i64 j.lo) := hW.r5.c 6 _ rfl
  have d7 : W1.cell? ⟨n5, 7, none⟩ = some (.int .i64 j.hi) := hW.r5.c 7 _ rfl
  have d8 : W1.cell? ⟨n5, 8, none⟩ = some (.int .i64 j.weight) := hW.r5.c 8 _ rfl
  have d9 : W1.cell? ⟨n5, 9, none⟩ = some (.int .i64 j.speed) := hW.r5.c 9 _ rfl
  have d10 : W1.cell? ⟨n5, 10, none⟩ = some (.int .i64 j.accel) := hW.r5.c 10 _ rfl
  have d11 : W1.cell? ⟨n5, 11, none⟩ = some (.int .i64 j.torque) := hW.r5.c 11 _ rfl
  go_wp2
  go_ret
  refine intRP_mk ?_ hW.bel
  rw [← HR.out]
  simp [NM.out]
 | true =>
  have NM := Lib.hid hnm
  clear hnm
  go_wp2_with fail
  go_loopw [6] (fun i W => ∃ q : Nat, q ≤ k ∧ i = .int .i64 q ∧ CV w n5 b off j js W ∧ ∀ i (j' : JV), i < q → js[i]? = some j' → eqS j'.name j.name = false) (fun i _ => k - (intOf i).toNat)
  case atStart => exact ⟨0, by omega, rfl, hW, fun i m h => absurd h (by omega)⟩
  case round =>
   obtain ⟨q, hq, rfl, hV, hall⟩ := hrel
   have HA := Lib.hid hall
   clear hall
   clear hW
   have d0 : wr.cell? ⟨n5, 0, none⟩ = some (.string j.name) := hV.r5.c 0 _ rfl
   have d1 : wr.cell? ⟨n5, 1, none⟩ = some (.int .i64 j.kind) := hV.r5.c 1 _ rfl
   have d2 : wr.cell? ⟨n5, 2, none⟩ = some (.int .i64 j.parent) := hV.r5.c 2 _ rfl
   have d3 : wr.cell? ⟨n5, 3, none⟩ = some (.int .i64 j.o0) := hV.r5.c 3 _ rfl
   have d4 : wr.cell? ⟨n5, 4, none⟩ = some (.int .i64 j.o1) := hV.r5.c 4 _ rfl
   have d5 : wr.cell? ⟨n5, 5, none⟩ = some (.int .i64 j.o2) := hV.r5.c 5 _ rfl
   have d6 : wr.cell? ⟨n5, 6, none⟩ = some (.int .i64 j.lo) := hV.r5.c 6 _ rfl
   have d7 : wr.cell? ⟨n5, 7, none⟩ = some (.int .i64 j.hi) := hV.r5.c 7 _ rfl
   have d8 : wr.cell? ⟨n5, 8, none⟩ = some (.int .i64 j.weight) := hV.r5.c 8 _ rfl
   have d9 : wr.cell? ⟨n5, 9, none⟩ = some (.int .i64 j.speed) := hV.r5.c 9 _ rfl
   have d10 : wr.cell? ⟨n5, 10, none⟩ = some (.int .i64 j.accel) := hV.r5.c 10 _ rfl
   have d11 : wr.cell? ⟨n5, 11, none⟩ = some (.int .i64 j.torque) := hV.r5.c 11 _ rfl
   by_cases hlt : q < k
   ·obtain ⟨j', hj'⟩ : ∃ j', js[q]? = some j' := ⟨_, List.getElem?_eq_getElem (by omega)⟩
    have x0 : wr.cell? ⟨b, off + q * 12, none⟩ = some (.string j'.name) := hV.rJ.c q _ (rows_get hj') 0 _ rfl
    have HM := Lib.hid hj'
    clear hj'
    go_wp2_with fail
    go_quiet (fail)
    have hV' := hV.keep (below_drew wr nq)
    clear d0 d1 d2 d3 d4 d5 d6 d7 d8 d9 d10 d11 x0 hV
    generalize wr.drewN nq = V at hV' ⊢
    cases hs : (j'.name.toList == j.name.toList) with
    | true =>
     have HS : Hid (eqS j'.name j.name = true) := Lib.hid hs
     go_wp2
     go_ret
     refine intRP_mk ?_ hV'.bel
     rw [← HR.out]
     have FD := findF_at HM.out HS.out HA.out
     rw [NM.out, FD, if_pos]
     simp; omega
    | false =>
     have HS : Hid (eqS j'.name j.name = false) := Lib.hid hs
     go_wp2
     go_roundw
     case rel =>
      refine ⟨q + 1, by omega, by simp, hV', fun i m' hi hm' => ?_⟩
      rcases Nat.lt_or_ge i q with h | h
      ·exact HA.out i m' h hm'
      ·have : i = q := by omega
       subst this
       have := HM.out.symm.trans hm'
       injection this with this
       rw [← this]; exact HS.out
     case measure => simp [intOf]; omega
   ·have hq' : q = k := by omega
    subst hq'
    have FD : Hid (findF js j.name = (q : Int)) := Lib.hid (findF_at HJ.out (eqS_refl _) HA.out)
    have H1 : Hid ((!nameB j.name || decide (findF js j.name ≠ (q : Int))) = false) := Lib.hid (by rw [NM.out, FD.out]; simp)
    clear NM FD
    by_cases k1 : j.kind < 0
    ·skip
     go_wp2
     go_ret
     refine intRP_mk ?_ hV.bel
     rw [← HR.out]
     rw [if_neg (by rw [H1.out]; simp), if_pos (Or.inl k1)]
    ·have k1' : decide (j.kind < 0) = false := by simp; omega
     by_cases k2 : 6 < j.kind
     ·skip
      go_wp2
      go_ret
      refine intRP_mk ?_ hV.bel
      rw [← HR.out]
      rw [if_neg (by rw [H1.out]; simp), if_pos (Or.inr k2)]
     ·by_cases p1 : j.parent < -1
      ·skip
       go_wp2
       go_ret
       refine intRP_mk ?_ hV.bel
       rw [← HR.out]
       rw [if_neg (by rw [H1.out]; simp), if_neg (by omega), if_pos (Or.inl p1)]
      ·have p1' : decide (j.parent < -1) = false := by simp; omega
       by_cases p2 : (q : Int) ≤ j.parent
       ·skip
        go_wp2
        go_ret
        refine intRP_mk ?_ hV.bel
        rw [← HR.out]
        rw [if_neg (by rw [H1.out]; simp), if_neg (by omega), if_pos (Or.inr p2)]
       ·go_wp2_with fail
        refine (near_any _ _ _ _).mono ?_
        rintro e W3 ⟨rfl, hb3⟩
        have hU := hV.keep hb3
        clear hV hb3
        clear d0 d1 d2 d3 d4 d5 d6 d7 d8 d9 d10 d11
        have d0 : W3.cell? ⟨n5, 0, none⟩ = some (.string j.name) := hU.r5.c 0 _ rfl
        have d1 : W3.cell? ⟨n5, 1, none⟩ = some (.int .i64 j.kind) := hU.r5.c 1 _ rfl
        have d2 : W3.cell? ⟨n5, 2, none⟩ = some (.int .i64 j.parent) := hU.r5.c 2 _ rfl
        have d3 : W3.cell? ⟨n5, 3, none⟩ = some (.int .i64 j.o0) := hU.r5.c 3 _ rfl
        have d4 : W3.cell? ⟨n5, 4, none⟩ = some (.int .i64 j.o1) := hU.r5.c 4 _ rfl
        have d5 : W3.cell? ⟨n5, 5, none⟩ = some (.int .i64 j.o2) := hU.r5.c 5 _ rfl
        have d6 : W3.cell? ⟨n5, 6, none⟩ = some (.int .i64 j.lo) := hU.r5.c 6 _ rfl
        have d7 : W3.cell? ⟨n5, 7, none⟩ = some (.int .i64 j.hi) := hU.r5.c 7 _ rfl
        have d8 : W3.cell? ⟨n5, 8, none⟩ = some (.int .i64 j.weight) := hU.r5.c 8 _ rfl
        have d9 : W3.cell? ⟨n5, 9, none⟩ = some (.int .i64 j.speed) := hU.r5.c 9 _ rfl
        have d10 : W3.cell? ⟨n5, 10, none⟩ = some (.int .i64 j.accel) := hU.r5.c 10 _ rfl
        have d11 : W3.cell? ⟨n5, 11, none⟩ = some (.int .i64 j.torque) := hU.r5.c 11 _ rfl
        cases hby : beyondB j.o0 j.o1 j.o2 with
        | true =>
         have BY := Lib.hid hby
         clear hby
         go_wp2
         go_ret
         refine intRP_mk ?_ hU.bel
         rw [← HR.out]
         rw [if_neg (by rw [H1.out]; simp), if_neg (by omega), if_neg (by omega), if_pos BY.out]
        | false =>
         have BY : Hid (¬ (beyondB j.o0 j.o1 j.o2 = true)) := Lib.hid (by rw [hby]; simp)
         clear hby
         obtain ⟨lm, hlm⟩ : ∃ lm, limitF j.kind = lm := ⟨_, rfl⟩
         have lb := limitF_bd j.kind
         rw [hlm] at lb
         obtain ⟨lb1, lb2⟩ := lb
         have HLM := Lib.hid hlm
         clear hlm
         rw [HLM.out] at HR
         go_wp2_with fail
         refine (reach_any _ _).mono ?_
         rintro e v0 ⟨rfl, rfl⟩
         rw [reach_limit _ (by omega) (by omega), HLM.out]
         by_cases l1 : j.hi < j.lo
         ·skip
          go_wp2
          go_ret
          refine intRP_mk ?_ hU.bel
          rw [← HR.out]
          rw [if_neg (by rw [H1.out]; simp), if_neg (by omega), if_neg (by omega), if_neg BY.out, if_pos (Or.inl l1)]
         ·have l1' : decide (j.hi < j.lo) = false := by simp; omega
          by_cases l2 : j.lo < -lm
          ·skip
           go_wp2
           go_ret
           refine intRP_mk ?_ hU.bel
           rw [← HR.out]
           rw [if_neg (by rw [H1.out]; simp), if_neg (by omega), if_neg (by omega), if_neg BY.out, if_pos (Or.inr (Or.inl l2))]
          ·have l2' : decide (j.lo < -lm) = false := by simp; omega
           by_cases l3 : lm < j.hi
           ·skip
            go_wp2
            go_ret
            refine intRP_mk ?_ hU.bel
            rw [← HR.out]
            rw [if_neg (by rw [H1.out]; simp), if_neg (by omega), if_neg (by omega), if_neg BY.out, if_pos (Or.inr (Or.inr l3))]
           ·have l3' : decide (lm < j.hi) = false := by simp; omega
            cases f0 : from1B j.weight 1024 with
            | false =>
             have F0 := Lib.hid f0
             clear f0
             go_wp2_with fail
             refine (between1_any _ _ _).mono ?_
             rintro e v0 ⟨rfl, rfl⟩
             rw [F0.out]
             go_wp2
             go_ret
             refine intRP_mk ?_ hU.bel
             rw [← HR.out]
             rw [if_neg (by rw [H1.out]; simp), if_neg (by omega), if_neg (by omega), if_neg BY.out, if_neg (by omega), if_pos (by rw [F0.out]; simp)]
            | true =>
             have F0 := Lib.hid f0
             clear f0
             cases f1 : from1B j.speed 1048576 with
             | false =>
              have F1 := Lib.hid f1
              clear f1
              go_wp2_with fail
              refine (between1_any _ _ _).mono ?_
              rintro e v0 ⟨rfl, rfl⟩
              rw [F0.out]
              go_wp2_with fail
              refine (between1_any _ _ _).mono ?_
              rintro e v1 ⟨rfl, rfl⟩
              rw [F1.out]
              go_wp2
              go_ret
              refine intRP_mk ?_ hU.bel
              rw [← HR.out]
              rw [if_neg (by rw [H1.out]; simp), if_neg (by omega), if_neg (by omega), if_neg BY.out, if_neg (by omega), if_pos (by rw [F0.out, F1.out]; simp)]
             | true =>
              have F1 := Lib.hid f1
              clear f1
              cases f2 : from1B j.accel 1048576 with
              | false =>
               have F2 := Lib.hid f2
               clear f2
               go_wp2_with fail
               refine (between1_any _ _ _).mono ?_
               rintro e v0 ⟨rfl, rfl⟩
               rw [F0.out]
               go_wp2_with fail
               refine (between1_any _ _ _).mono ?_
               rintro e v1 ⟨rfl, rfl⟩
               rw [F1.out]
               go_wp2_with fail
               refine (between1_any _ _ _).mono ?_
               rintro e v2 ⟨rfl, rfl⟩
               rw [F2.out]
               go_wp2
               go_ret
               refine intRP_mk ?_ hU.bel
               rw [← HR.out]
               rw [if_neg (by rw [H1.out]; simp), if_neg (by omega), if_neg (by omega), if_neg BY.out, if_neg (by omega), if_pos (by rw [F0.out, F1.out, F2.out]; simp)]
              | true =>
               have F2 := Lib.hid f2
               clear f2
               cases f3 : from1B j.torque 1099511627776 with
               | false =>
                have F3 := Lib.hid f3
                clear f3
                go_wp2_with fail
                refine (between1_any _ _ _).mono ?_
                rintro e v0 ⟨rfl, rfl⟩
                rw [F0.out]
                go_wp2_with fail
                refine (between1_any _ _ _).mono ?_
                rintro e v1 ⟨rfl, rfl⟩
                rw [F1.out]
                go_wp2_with fail
                refine (between1_any _ _ _).mono ?_
                rintro e v2 ⟨rfl, rfl⟩
                rw [F2.out]
                go_wp2_with fail
                refine (between1_any _ _ _).mono ?_
                rintro e v3 ⟨rfl, rfl⟩
                rw [F3.out]
                go_wp2
                go_ret
                refine intRP_mk ?_ hU.bel
                rw [← HR.out]
                rw [if_neg (by rw [H1.out]; simp), if_neg (by omega), if_neg (by omega), if_neg BY.out, if_neg (by omega), if_pos (by rw [F0.out, F1.out, F2.out, F3.out]; simp)]
               | true =>
                have F3 := Lib.hid f3
                clear f3
                go_wp2_with fail
                refine (between1_any _ _ _).mono ?_
                rintro e v0 ⟨rfl, rfl⟩
                rw [F0.out]
                go_wp2_with fail
                refine (between1_any _ _ _).mono ?_
                rintro e v1 ⟨rfl, rfl⟩
                rw [F1.out]
                go_wp2_with fail
                refine (between1_any _ _ _).mono ?_
                rintro e v2 ⟨rfl, rfl⟩
                rw [F2.out]
                go_wp2_with fail
                refine (between1_any _ _ _).mono ?_
                rintro e v3 ⟨rfl, rfl⟩
                rw [F3.out]
                go_wp2
                go_ret
                refine intRP_mk ?_ hU.bel
                rw [← HR.out]
                rw [if_neg (by rw [H1.out]; simp), if_neg (by omega), if_neg (by omega), if_neg BY.out, if_neg (by omega), if_neg (by rw [F0.out, F1.out, F2.out, F3.out]; simp)]
end Go.Proofs.En
end
section
/-
 Walks: the reference's CheckRobot.
-/
namespace Go.Proofs.En
open Go.RowKit
set_option maxHeartbeats 8000000 in
theorem check_ref (oa om : Option Addr) (cap mcap : Nat) (js : List JV) (ms : List MV) (w : World) (hj : js.length ≤ 100) (hl : ms.length ≤ 9223372036854775807) (hJ : Sl w oa 12 (js.map JV.vals)) (hM : Sl w om 5 (ms.map MV.vals)) :
  Calls Tryz.prog 65 #[.agg #[.slice oa js.length cap, .slice om ms.length mcap]] w (CodeP (okR js ms) w) := by
 generalize hr : okR js ms = r
 unfold okR at hr
 have HR := Lib.hid hr
 clear hr
 by_cases c0 : js.length < 1
 ·have c0' : decide ((js.length : Int) < 1) = true := decide_eq_true (by omega)
  go_enter Tryz.func65, Tryz.ntmps65
  go_wp2
  go_ret
  exact codeP_mk (by rw [← HR.out]; exact ⟨fun h => absurd h (by omega), fun h => absurd h.1 (by omega)⟩) ((Below.refl _ _).alloc (Nat.le_refl _) _)
 ·have c0' : decide ((js.length : Int) < 1) = false := decide_eq_false (by omega)
  by_cases c1 : 10 < js.length
  ·have c1' : decide (10 < (js.length : Int)) = true := decide_eq_true (by omega)
   go_enter Tryz.func65, Tryz.ntmps65
   go_wp2
   go_ret
   exact codeP_mk (by rw [← HR.out]; exact ⟨fun h => absurd h (by omega), fun h => absurd h.1 (by omega)⟩) ((Below.refl _ _).alloc (Nat.le_refl _) _)
  ·have c1' : decide (10 < (js.length : Int)) = false := decide_eq_false (by omega)
   go_enter Tryz.func65, Tryz.ntmps65
   go_wp2_with fail
   have hW0 : KW w w.heap.size oa om [.slice oa js.length cap, .slice om ms.length mcap] js ms (w.alloc (.cells #[.slice oa js.length cap, .slice om ms.length mcap] 25)) := ⟨(Below.refl _ _).alloc (Nat.le_refl _) _, Row.new w [.slice oa js.length cap, .slice om ms.length mcap] 25, hJ.keep ((Below.refl _ _).alloc (Nat.le_refl _) _), hM.keep ((Below.refl _ _).alloc (Nat.le_refl _) _)⟩
   clear hJ hM
   generalize (w.alloc (.cells #[.slice oa js.length cap, .slice om ms.length mcap] 25)) = W0 at hW0 ⊢
   generalize w.heap.size = n1 at hW0 ⊢
   go_loopw [3] (fun i W => ∃ k : Nat, k ≤ js.length ∧ i = .int .i64 k ∧ KW w n1 oa om [.slice oa js.length cap, .slice om ms.length mcap] js ms W ∧ ∀ i (j : JV), i < k → js[i]? = some j → checkJ js j i = 0) (fun i _ => js.length - (intOf i).toNat)
   case atStart => exact ⟨0, by omega, rfl, hW0, fun i m h => absurd h (by omega)⟩
   case round =>
    obtain ⟨k, hk, rfl, hW, hall⟩ := hrel
    have HA := Lib.hid hall
    clear hall
    clear hW0
    have s0 : wr.cell? ⟨n1, 0, none⟩ = some (.slice oa js.length cap) := hW.r1.c 0 _ rfl
    have s1 : wr.cell? ⟨n1, 1, none⟩ = some (.slice om ms.length mcap) := hW.r1.c 1 _ rfl
    have lt1 := hW.r1.lt
    by_cases hlt : k < js.length
    ·obtain ⟨j, hj⟩ : ∃ j, js[k]? = some j := ⟨_, List.getElem?_eq_getElem hlt⟩
     obtain ⟨b, off, rfl, hMq⟩ := hW.rJ (by intro h; rw [List.map_eq_nil_iff] at h; rw [h] at hlt; simp at hlt)
     have HM := Lib.hid hj
     clear hj
     go_wp2_with fail
     refine (checkJoint_ref b off cap js j k _ (by omega) hlt HM.out hMq).mono ?_
     rintro e W1 ⟨rfl, hb1⟩
     have hV := hW.keep hb1
     clear hb1 hMq s0 s1 lt1
     cases hs : (checkJ js j k != 0) with
     | true =>
      have HS : Hid (checkJ js j k ≠ 0) := Lib.hid (by rw [bne_iff_ne] at hs; exact hs)
      go_wp2
      go_ret
      refine codeP_mk ?_ hV.bel
      rw [← HR.out]
      exact ⟨fun h => absurd h HS.out, fun h => absurd (h.2.1 k j HM.out) HS.out⟩
     | false =>
      have HS : Hid (checkJ js j k = 0) := Lib.hid (by simpa using hs)
      go_wp2
      go_roundw
      case rel =>
       refine ⟨k + 1, by omega, by simp, hV, fun i m' hi hm' => ?_⟩
       rcases Nat.lt_or_ge i k with h | h
       ·exact HA.out i m' h hm'
       ·have : i = k := by omega
        subst this
        have := HM.out.symm.trans hm'
        injection this with this
        rw [← this]; exact HS.out
      case measure => simp [intOf]; omega
    ·have hk' : k = js.length := by omega
     subst hk'
     have hsum : Hid (∀ (k : Nat) (j : JV), js[k]? = some j → checkJ js j k = 0) := Lib.hid (by
      intro i m hm
      refine HA.out i m ?_ hm
      rcases Nat.lt_or_ge i js.length with h | h
      ·exact h
      ·rw [List.getElem?_eq_none h] at hm; cases hm)
     clear HA
     by_cases c2 : 32 < ms.length
     ·have c2' : decide (32 < (ms.length : Int)) = true := decide_eq_true (by omega)
      go_wp2
      go_ret
      refine codeP_mk ?_ hW.bel
      rw [← HR.out]
      exact ⟨fun h => absurd h (by omega), fun h => absurd h.2.2.1 (by omega)⟩
     ·have c2' : decide (32 < (ms.length : Int)) = false := decide_eq_false (by omega)
      go_wp2_with fail
      obtain ⟨wo, hwo⟩ : ∃ wo, wo = wr := ⟨_, rfl⟩
      rw [← hwo] at hW s0 s1 lt1 ⊢
      clear hwo
      go_loopw [5] (fun i W => ∃ q : Nat, q ≤ ms.length ∧ i = .int .i64 q ∧ KW w n1 oa om [.slice oa js.length cap, .slice om ms.length mcap] js ms W ∧ ∀ i (m : MV), i < q → ms[i]? = some m → massB js.length m = true) (fun i _ => ms.length - (intOf i).toNat)
      case atStart => exact ⟨0, by omega, rfl, hW, fun i m h => absurd h (by omega)⟩
      case round =>
       obtain ⟨q, hq, rfl, hW, hall⟩ := hrel
       have HA := Lib.hid hall
       clear hall
       have s0 : wr.cell? ⟨n1, 0, none⟩ = some (.slice oa js.length cap) := hW.r1.c 0 _ rfl
       have s1 : wr.cell? ⟨n1, 1, none⟩ = some (.slice om ms.length mcap) := hW.r1.c 1 _ rfl
       have lt1 := hW.r1.lt
       by_cases hlt : q < ms.length
       ·obtain ⟨m, hm⟩ : ∃ m, ms[q]? = some m := ⟨_, List.getElem?_eq_getElem hlt⟩
        obtain ⟨b, off, rfl, hMq⟩ := hW.rM (by intro h; rw [List.map_eq_nil_iff] at h; rw [h] at hlt; simp at hlt)
        have c0 : wr.cell? ⟨b, off + q * 5, none⟩ = some (.int .i64 m.link) := hMq.c q _ (mrows_get hm) 0 _ rfl
        have c1 : wr.cell? ⟨b, off + q * 5 + 1, none⟩ = some (.int .i64 m.mass) := hMq.c q _ (mrows_get hm) 1 _ rfl
        have c2 : wr.cell? ⟨b, off + q * 5 + 2, none⟩ = some (.int .i64 m.p0) := hMq.c q _ (mrows_get hm) 2 _ rfl
        have c3 : wr.cell? ⟨b, off + q * 5 + 3, none⟩ = some (.int .i64 m.p1) := hMq.c q _ (mrows_get hm) 3 _ rfl
        have c4 : wr.cell? ⟨b, off + q * 5 + 4, none⟩ = some (.int .i64 m.p2) := hMq.c q _ (mrows_get hm) 4 _ rfl
        have HM := Lib.hid hm
        clear hm
        have hal := below_call hW.bel ((Below.refl wr.heap.size wr).alloc (Nat.le_refl _) (.cells #[.int .i64 m.link, .int .i64 m.mass, .int .i64 m.p0, .int .i64 m.p1, .int .i64 m.p2] 136))
        have HAL := Lib.hid hal
        clear hal
        by_cases l1 : m.link < 0
        ·have MB : Hid (massB js.length m = false) := Lib.hid (by unfold massB; rw [decide_eq_false (by omega)]; simp)
         go_wp2
         go_ret
         refine codeP_mk ?_ HAL.out
         rw [← HR.out]
         exact ⟨fun h => absurd h (by omega), fun h => absurd (h.2.2.2 q m HM.out) (by rw [MB.out]; simp)⟩
        ·have l1' : decide (m.link < 0) = false := decide_eq_false l1
         by_cases l2 : (js.length : Int) ≤ m.link
         ·have MB : Hid (massB js.length m = false) := Lib.hid (by unfold massB; rw [decide_eq_false (by omega)]; simp)
          go_wp2
          go_ret
          refine codeP_mk ?_ HAL.out
          rw [← HR.out]
          exact ⟨fun h => absurd h (by omega), fun h => absurd (h.2.2.2 q m HM.out) (by rw [MB.out]; simp)⟩
         ·have l2' : decide ((js.length : Int) ≤ m.link) = false := decide_eq_false l2
          cases f0 : from1B m.mass 65536 with
          | false =>
           have MB : Hid (massB js.length m = false) := Lib.hid (by unfold massB; rw [f0]; simp)
           have F0 := Lib.hid f0
           clear f0
           go_wp2_with fail
           refine (between1_any _ _ _).mono ?_
           rintro e v0 ⟨rfl, rfl⟩
           rw [F0.out]
           go_wp2
           go_ret
           refine codeP_mk ?_ HAL.out
           rw [← HR.out]
           exact ⟨fun h => absurd h (by omega), fun h => absurd (h.2.2.2 q m HM.out) (by rw [MB.out]; simp)⟩
          | true =>
           have MB : Hid (massB js.length m = !beyondB m.p0 m.p1 m.p2) := Lib.hid (by unfold massB; rw [f0, decide_eq_true (by omega)]; simp)
           have F0 := Lib.hid f0
           clear f0
           go_wp2_with fail
           refine (between1_any _ _ _).mono ?_
           rintro e v0 ⟨rfl, rfl⟩
           rw [F0.out]
           go_wp2_with fail
           refine (near_any _ _ _ _).mono ?_
           rintro e W1 ⟨rfl, hb1⟩
           have hV : KW w n1 oa (some ⟨b, off, none⟩) [.slice oa js.length cap, .slice (some ⟨b, off, none⟩) ms.length mcap] js ms W1 := (hW.keep ((Below.refl wr.heap.size wr).alloc (Nat.le_refl _) _)).keep hb1
           clear hb1 hMq s0 s1 lt1 c0 c1 c2 c3 c4 HAL hW
           cases hs : beyondB m.p0 m.p1 m.p2 with
           | true =>
            rw [hs] at MB
            go_wp2
            go_ret
            refine codeP_mk ?_ hV.bel
            rw [← HR.out]
            exact ⟨fun h => absurd h (by omega), fun h => absurd (h.2.2.2 q m HM.out) (by rw [MB.out]; simp)⟩
           | false =>
            rw [hs] at MB
            go_wp2
            go_roundw
            case rel =>
             refine ⟨q + 1, by omega, by simp, hV, fun i m' hi hm' => ?_⟩
             rcases Nat.lt_or_ge i q with h | h
             ·exact HA.out i m' h hm'
             ·have : i = q := by omega
              subst this
              have := HM.out.symm.trans hm'
              injection this with this
              rw [← this]; exact MB.out
            case measure => simp [intOf]; omega
       ·go_wp2
        go_ret
        refine codeP_mk ?_ hW.bel
        rw [← HR.out]
        refine ⟨fun _ => ⟨by omega, hsum.out, by omega, fun i m hm => HA.out i m ?_ hm⟩, fun _ => rfl⟩
        rcases Nat.lt_or_ge i ms.length with h | h
        ·omega
        ·rw [List.getElem?_eq_none h] at hm; cases hm
end Go.Proofs.En
end
section
/-
 Walks: Inside, both.
-/
namespace Go.Proofs.En
open Go.RowKit
/-- A truth value that stands for p. -/
def IfP (p : Prop) (w : World) (e : Ending) (w' : World) : Prop := ∃ b : Bool, e = .returned (.bool b) ∧ (b = true ↔ p) ∧ Below w.heap.size w w'
theorem ifP_mk {p : Prop} {w w' : World} {b : Bool} (h : b = true ↔ p) (hb : Below w.heap.size w w') : IfP p w (.returned (.bool b)) w' := ⟨b, rfl, h, hb⟩
def JV.agg (j : JV) : Value := .agg #[.string j.name, .int .i64 j.kind, .int .i64 j.parent, .int .i64 j.o0, .int .i64 j.o1, .int .i64 j.o2, .int .i64 j.lo, .int .i64 j.hi, .int .i64 j.weight, .int .i64 j.speed, .int .i64 j.accel, .int .i64 j.torque]
set_option maxHeartbeats 1000000 in
theorem withinJ_any (j : JV) (p : Int) (w : World) :
  Calls Tryz.prog 64 #[.agg #[.string j.name, .int .i64 j.kind, .int .i64 j.parent, .int .i64 j.o0, .int .i64 j.o1, .int .i64 j.o2, .int .i64 j.lo, .int .i64 j.hi, .int .i64 j.weight, .int .i64 j.speed, .int .i64 j.accel, .int .i64 j.torque], .int .i64 p] w (BoolP (decide (j.lo ≤ p ∧ p ≤ j.hi)) w) := by
 by_cases h1 : j.lo ≤ p
 ·go_enter Tryz.func64, Tryz.ntmps64
  go_wp2
  go_ret
  exact boolP_mk (by simp [h1]) ((Below.refl _ _).alloc (Nat.le_refl _) _)
 ·have h1' : decide (j.lo ≤ p) = false := decide_eq_false h1
  go_enter Tryz.func64, Tryz.ntmps64
  go_wp2
  go_ret
  exact boolP_mk (by simp) ((Below.refl _ _).alloc (Nat.le_refl _) _)
def pvals (ps : List Int) : List (List Value) := ps.map fun p => [.int .i64 p]
theorem pvals_get {ps : List Int} {k : Nat} {p : Int} (h : ps[k]? = some p) : (pvals ps)[k]? = some [.int .i64 p] := by simp [pvals, h]
theorem pvals_ne {ps : List Int} {k : Nat} (h : k < ps.length) : pvals ps ≠ [] := by
 intro h0; unfold pvals at h0; rw [List.map_eq_nil_iff] at h0; rw [h0] at h; simp at h
theorem jvals_ne {js : List JV} {k : Nat} (h : k < js.length) : js.map JV.vals ≠ [] := by
 intro h0; rw [List.map_eq_nil_iff] at h0; rw [h0] at h; simp at h
def inP (js : List JV) (ps : List Int) : Prop := js.length = ps.length ∧ ∀ (k : Nat) (j : JV) (p : Int), js[k]? = some j → ps[k]? = some p → j.lo ≤ p ∧ p ≤ j.hi
set_option maxRecDepth 100000 in
set_option maxHeartbeats 4000000 in
theorem every_any (oa op : Option Addr) (cap pcap : Nat) (js : List JV) (ps : List Int) (w : World) (hj : js.length ≤ 100) (_hp : ps.length ≤ 100) (hJ : Sl w oa 12 (js.map JV.vals)) (hP : Sl w op 1 (pvals ps)) :
  Calls Tryz.prog 63 #[.slice oa js.length cap, .slice op ps.length pcap, .func (.func 64) #[] #[]] w (IfP (inP js ps) w) := by
 generalize hr : inP js ps = r
 unfold inP at hr
 have HR := Lib.hid hr
 clear hr
 by_cases c0 : js.length = ps.length
 ·have c0' : ((js.length : Int) != (ps.length : Int)) = false := by simp; omega
  have C0 := Lib.hid c0
  have c0a : js.length ≤ ps.length := by omega
  have c0b : ps.length ≤ js.length := by omega
  clear c0
  go_enter Tryz.func63, Tryz.ntmps63
  go_wp2_with fail
  go_loopw [16] (fun i W => ∃ k : Nat, k ≤ js.length ∧ i = .int .i64 k ∧ Below w.heap.size w W ∧ ∀ i (j : JV) (p : Int), i < k → js[i]? = some j → ps[i]? = some p → j.lo ≤ p ∧ p ≤ j.hi) (fun i _ => js.length - (intOf i).toNat)
  case atStart => exact ⟨0, by omega, rfl, Below.refl _ _, fun i j p h => absurd h (by omega)⟩
  case round =>
   obtain ⟨k, hk, rfl, hB, hall⟩ := hrel
   have HA := Lib.hid hall
   clear hall
   by_cases hlt : k < js.length
   ·obtain ⟨j, hj'⟩ : ∃ j, js[k]? = some j := ⟨_, List.getElem?_eq_getElem hlt⟩
    obtain ⟨p, hp'⟩ : ∃ p, ps[k]? = some p := ⟨_, List.getElem?_eq_getElem (by omega)⟩
    obtain ⟨b, off, rfl, hMq⟩ := hJ (jvals_ne hlt)
    obtain ⟨bp, offp, rfl, hPq⟩ := hP (pvals_ne (k := k) (by omega))
    have hMr := hMq.keep hB
    have hPr := hPq.keep hB
    have x0 : wr.cell? ⟨b, off + k * 12, none⟩ = some (.string j.name) := hMr.c k _ (rows_get hj') 0 _ rfl
    have x1 : wr.cell? ⟨b, off + k * 12 + 1, none⟩ = some (.int .i64 j.kind) := hMr.c k _ (rows_get hj') 1 _ rfl
    have x2 : wr.cell? ⟨b, off + k * 12 + 2, none⟩ = some (.int .i64 j.parent) := hMr.c k _ (rows_get hj') 2 _ rfl
    have x3 : wr.cell? ⟨b, off + k * 12 + 3, none⟩ = some (.int .i64 j.o0) := hMr.c k _ (rows_get hj') 3 _ rfl
    have x4 : wr.cell? ⟨b, off + k * 12 + 4, none⟩ = some (.int .i64 j.o1) := hMr.c k _ (rows_get hj') 4 _ rfl
    have x5 : wr.cell? ⟨b, off + k * 12 + 5, none⟩ = some (.int .i64 j.o2) := hMr.c k _ (rows_get hj') 5 _ rfl
    have x6 : wr.cell? ⟨b, off + k * 12 + 6, none⟩ = some (.int .i64 j.lo) := hMr.c k _ (rows_get hj') 6 _ rfl
    have x7 : wr.cell? ⟨b, off + k * 12 + 7, none⟩ = some (.int .i64 j.hi) := hMr.c k _ (rows_get hj') 7 _ rfl
    have x8 : wr.cell? ⟨b, off + k * 12 + 8, none⟩ = some (.int .i64 j.weight) := hMr.c k _ (rows_get hj') 8 _ rfl
    have x9 : wr.cell? ⟨b, off + k * 12 + 9, none⟩ = some (.int .i64 j.speed) := hMr.c k _ (rows_get hj') 9 _ rfl
    have x10 : wr.cell? ⟨b, off + k * 12 + 10, none⟩ = some (.int .i64 j.accel) := hMr.c k _ (rows_get hj') 10 _ rfl
    have x11 : wr.cell? ⟨b, off + k * 12 + 11, none⟩ = some (.int .i64 j.torque) := hMr.c k _ (rows_get hj') 11 _ rfl
    have HJ := Lib.hid hj'
    have HP := Lib.hid hp'
    go_wp2_with fail
    have hba : Below wr.heap.size wr (wr.alloc (.cells #[.string j.name, .int .i64 j.kind, .int .i64 j.parent, .int .i64 j.o0, .int .i64 j.o1, .int .i64 j.o2, .int .i64 j.lo, .int .i64 j.hi, .int .i64 j.weight, .int .i64 j.speed, .int .i64 j.accel, .int .i64 j.torque] 64)) := (Below.refl _ _).alloc (Nat.le_refl _) _
    have hPv := hPr.keep hba
    have hB2 := below_call hB hba
    have hRv := Row.new wr [.string j.name, .int .i64 j.kind, .int .i64 j.parent, .int .i64 j.o0, .int .i64 j.o1, .int .i64 j.o2, .int .i64 j.lo, .int .i64 j.hi, .int .i64 j.weight, .int .i64 j.speed, .int .i64 j.accel, .int .i64 j.torque] 64
    clear hba x0 x1 x2 x3 x4 x5 x6 x7 x8 x9 x10 x11 hMr hPr hB hj' hPq hMq hJ hP
    generalize (wr.alloc (.cells #[.string j.name, .int .i64 j.kind, .int .i64 j.parent, .int .i64 j.o0, .int .i64 j.o1, .int .i64 j.o2, .int .i64 j.lo, .int .i64 j.hi, .int .i64 j.weight, .int .i64 j.speed, .int .i64 j.accel, .int .i64 j.torque] 64)) = V at hPv hB2 hRv ⊢
    generalize wr.heap.size = n8 at hRv ⊢
    have HB := Lib.hid hB2
    clear hB2
    have y0 : V.cell? ⟨bp, offp + k, none⟩ = some (.int .i64 p) := by have := hPv.c k _ (pvals_get hp') 0 _ rfl; simpa using this
    have x0 : V.cell? ⟨n8, 0, none⟩ = some (.string j.name) := hRv.c 0 _ rfl
    have x1 : V.cell? ⟨n8, 1, none⟩ = some (.int .i64 j.kind) := hRv.c 1 _ rfl
    have x2 : V.cell? ⟨n8, 2, none⟩ = some (.int .i64 j.parent) := hRv.c 2 _ rfl
    have x3 : V.cell? ⟨n8, 3, none⟩ = some (.int .i64 j.o0) := hRv.c 3 _ rfl
    have x4 : V.cell? ⟨n8, 4, none⟩ = some (.int .i64 j.o1) := hRv.c 4 _ rfl
    have x5 : V.cell? ⟨n8, 5, none⟩ = some (.int .i64 j.o2) := hRv.c 5 _ rfl
    have x6 : V.cell? ⟨n8, 6, none⟩ = some (.int .i64 j.lo) := hRv.c 6 _ rfl
    have x7 : V.cell? ⟨n8, 7, none⟩ = some (.int .i64 j.hi) := hRv.c 7 _ rfl
    have x8 : V.cell? ⟨n8, 8, none⟩ = some (.int .i64 j.weight) := hRv.c 8 _ rfl
    have x9 : V.cell? ⟨n8, 9, none⟩ = some (.int .i64 j.speed) := hRv.c 9 _ rfl
    have x10 : V.cell? ⟨n8, 10, none⟩ = some (.int .i64 j.accel) := hRv.c 10 _ rfl
    have x11 : V.cell? ⟨n8, 11, none⟩ = some (.int .i64 j.torque) := hRv.c 11 _ rfl
    have hlt2 : k < ps.length := by omega
    go_still_tail 6, (by kernel_rfl)
    change wpList _ _ _ _ _ V.drew
    have HB2 : Hid (Below w.heap.size w V.drew) := Lib.hid (below_call HB.out (Below.refl _ _).drew)
    generalize V.drew = V2 at HB2 ⊢
    clear x0 x1 x2 x3 x4 x5 x6 x7 x8 x9 x10 x11 y0 HB hPv hRv hp'
    go_wp2_with fail
    refine (withinJ_any j p _).mono ?_
    rintro e W1 ⟨rfl, hb1⟩
    have HB3 : Hid (Below w.heap.size w W1) := Lib.hid (below_call HB2.out hb1)
    clear HB2 hb1
    cases hs : decide (j.lo ≤ p ∧ p ≤ j.hi) with
    | true =>
     have HS : Hid (j.lo ≤ p ∧ p ≤ j.hi) := Lib.hid (of_decide_eq_true hs)
     clear hs
     go_wp2
     go_roundw
     case rel =>
      refine ⟨k + 1, by omega, by simp, HB3.out, fun i j' p' hi hj' hp' => ?_⟩
      rcases Nat.lt_or_ge i k with h | h
      ·exact HA.out i j' p' h hj' hp'
      ·have : i = k := by omega
       subst this
       have e1 := HJ.out.symm.trans hj'
       injection e1 with e1
       have e2 := HP.out.symm.trans hp'
       injection e2 with e2
       rw [← e1, ← e2]; exact HS.out
     case measure => simp [intOf]; omega
    | false =>
     have HS : Hid (¬ (j.lo ≤ p ∧ p ≤ j.hi)) := Lib.hid (of_decide_eq_false hs)
     clear hs
     go_wp2
     go_ret
     refine ifP_mk ?_ HB3.out
     rw [← HR.out]
     exact ⟨fun h => absurd h (by simp), fun h => absurd (h.2 k j p HJ.out HP.out) HS.out⟩
   ·go_wp2
    go_ret
    refine ifP_mk ?_ hB
    rw [← HR.out]
    refine ⟨fun _ => ⟨C0.out, fun i j p h1 h2 => HA.out i j p ?_ h1 h2⟩, fun _ => rfl⟩
    rcases Nat.lt_or_ge i js.length with h | h
    ·omega
    ·rw [List.getElem?_eq_none h] at h1; cases h1
 ·have c0' : ((js.length : Int) != (ps.length : Int)) = true := by simp; omega
  go_enter Tryz.func63, Tryz.ntmps63
  go_wp2
  go_ret
  exact ifP_mk (by rw [← HR.out]; exact ⟨fun h => absurd h (by simp), fun h => absurd h.1 c0⟩) (Below.refl _ _)
set_option maxRecDepth 100000 in
set_option maxHeartbeats 4000000 in
theorem inside_any (oa om op : Option Addr) (cap mcap pcap : Nat) (js : List JV) (ms : List MV) (ps : List Int) (w : World) (hj : js.length ≤ 100) (hl : ms.length ≤ 9223372036854775807) (hp : ps.length ≤ 100) (hJ : Sl w oa 12 (js.map JV.vals)) (hM : Sl w om 5 (ms.map MV.vals)) (hP : Sl w op 1 (pvals ps)) :
  Calls Tryz.prog 32 #[.agg #[.slice oa js.length cap, .slice om ms.length mcap], .slice op ps.length pcap] w (IfP (okR js ms ∧ inP js ps) w) := by
 go_enter Tryz.func32, Tryz.ntmps32
 go_wp2_with fail
 have hW0 : KW w w.heap.size oa om [.slice oa js.length cap, .slice om ms.length mcap] js ms (w.alloc (.cells #[.slice oa js.length cap, .slice om ms.length mcap] 25)) := ⟨(Below.refl _ _).alloc (Nat.le_refl _) _, Row.new w [.slice oa js.length cap, .slice om ms.length mcap] 25, hJ.keep ((Below.refl _ _).alloc (Nat.le_refl _) _), hM.keep ((Below.refl _ _).alloc (Nat.le_refl _) _)⟩
 replace hP := hP.keep (w' := (w.alloc (.cells #[.slice oa js.length cap, .slice om ms.length mcap] 25))) ((Below.refl _ _).alloc (Nat.le_refl _) _)
 clear hJ hM
 generalize (w.alloc (.cells #[.slice oa js.length cap, .slice om ms.length mcap] 25)) = W0 at hW0 hP ⊢
 generalize w.heap.size = n1 at hW0 ⊢
 refine (check_any oa om cap mcap js ms _ hj hl hW0.rJ hW0.rM).mono ?_
 rintro e W1 ⟨c, rfl, hc, hb1⟩
 have hW := hW0.keep hb1
 replace hP := hP.keep hb1
 have HC := Lib.hid hc
 clear hW0 hb1 hc
 have s0 : W1.cell? ⟨n1, 0, none⟩ = some (.slice oa js.length cap) := hW.r1.c 0 _ rfl
 have s1 : W1.cell? ⟨n1, 1, none⟩ = some (.slice om ms.length mcap) := hW.r1.c 1 _ rfl
 have lt1 := hW.r1.lt
 by_cases hc : c = 0
 ·subst hc
  go_wp2_with fail
  refine (every_any oa op cap pcap js ps _ hj hp hW.rJ hP).mono ?_
  rintro e W2 ⟨b, rfl, hb, hb2⟩
  have HC2 := Lib.hid hb
  clear hb
  go_wp2
  go_ret
  refine ifP_mk ?_ (below_call hW.bel hb2)
  rw [HC2.out]
  exact ⟨fun h => ⟨HC.out.1 trivial, h⟩, fun h => h.2⟩
 ·have hc' : (c == 0) = false := beq_eq_false_iff_ne.2 hc
  go_wp2
  go_ret
  refine ifP_mk ?_ hW.bel
  exact ⟨fun h => absurd h (by simp), fun h => absurd (HC.out.2 h.1) hc⟩
end Go.Proofs.En
end
section
/-
 Walks: the reference's Inside.
-/
namespace Go.Proofs.En
open Go.RowKit
set_option maxRecDepth 100000 in
set_option maxHeartbeats 8000000 in
theorem inside_ref (oa om op : Option Addr) (cap mcap pcap : Nat) (js : List JV) (ms : List MV) (ps : List Int) (w : World) (hj : js.length ≤ 100) (hl : ms.length ≤ 9223372036854775807) (_hp : ps.length ≤ 100) (hJ : Sl w oa 12 (js.map JV.vals)) (hM : Sl w om 5 (ms.map MV.vals)) (hP : Sl w op 1 (pvals ps)) :
  Calls Tryz.prog 33 #[.agg #[.slice oa js.length cap, .slice om ms.length mcap], .slice op ps.length pcap] w (IfP (okR js ms ∧ inP js ps) w) := by
 generalize hr : (okR js ms ∧ inP js ps) = r
 unfold inP at hr
 have HR := Lib.hid hr
 clear hr
 go_enter Tryz.func33, Tryz.ntmps33
 go_wp2_with fail
 have hW0 : KW w w.heap.size oa om [.slice oa js.length cap, .slice om ms.length mcap] js ms (w.alloc (.cells #[.slice oa js.length cap, .slice om ms.length mcap] 25)) := ⟨(Below.refl _ _).alloc (Nat.le_refl _) _, Row.new w [.slice oa js.length cap, .slice om ms.length mcap] 25, hJ.keep ((Below.refl _ _).alloc (Nat.le_refl _) _), hM.keep ((Below.refl _ _).alloc (Nat.le_refl _) _)⟩
 replace hP := hP.keep (w' := (w.alloc (.cells #[.slice oa js.length cap, .slice om ms.length mcap] 25))) ((Below.refl _ _).alloc (Nat.le_refl _) _)
 clear hJ hM
 generalize (w.alloc (.cells #[.slice oa js.length cap, .slice om ms.length mcap] 25)) = W0 at hW0 hP ⊢
 generalize w.heap.size = n1 at hW0 ⊢
 refine (check_ref oa om cap mcap js ms _ hj hl hW0.rJ hW0.rM).mono ?_
 rintro e W1 ⟨c, rfl, hc, hb1⟩
 have hW := hW0.keep hb1
 replace hP := hP.keep hb1
 have HC := Lib.hid hc
 clear hW0 hb1 hc
 have s0 : W1.cell? ⟨n1, 0, none⟩ = some (.slice oa js.length cap) := hW.r1.c 0 _ rfl
 have s1 : W1.cell? ⟨n1, 1, none⟩ = some (.slice om ms.length mcap) := hW.r1.c 1 _ rfl
 have lt1 := hW.r1.lt
 by_cases hc : c = 0
 ·subst hc
  by_cases c0 : ps.length = js.length
  ·have c0' : ((ps.length : Int) != (js.length : Int)) = false := by simp; omega
   have C0 := Lib.hid c0
   have c0a : js.length ≤ ps.length := by omega
   have c0b : ps.length ≤ js.length := by omega
   clear c0
   go_wp2_with fail
   go_loopw [5] (fun i W => ∃ k : Nat, k ≤ ps.length ∧ i = .int .i64 k ∧ (KW w n1 oa om [.slice oa js.length cap, .slice om ms.length mcap] js ms W ∧ Sl W op 1 (pvals ps)) ∧ ∀ i (j : JV) (p : Int), i < k → js[i]? = some j → ps[i]? = some p → j.lo ≤ p ∧ p ≤ j.hi) (fun i _ => ps.length - (intOf i).toNat)
   case atStart => exact ⟨0, by omega, rfl, ⟨hW, hP⟩, fun i j p h => absurd h (by omega)⟩
   case round =>
    clear s0 s1 lt1 hW hP
    obtain ⟨k, hk, rfl, ⟨hW, hP⟩, hall⟩ := hrel
    have HA := Lib.hid hall
    clear hall
    by_cases hlt : k < ps.length
    ·have hlt2 : k < js.length := by omega
     obtain ⟨j, hj'⟩ : ∃ j, js[k]? = some j := ⟨_, List.getElem?_eq_getElem hlt2⟩
     obtain ⟨p, hp'⟩ : ∃ p, ps[k]? = some p := ⟨_, List.getElem?_eq_getElem hlt⟩
     obtain ⟨b, off, rfl, hMr⟩ := hW.rJ (jvals_ne hlt2)
     obtain ⟨bp, offp, rfl, hPr⟩ := hP (pvals_ne (k := k) hlt)
     have s0 : wr.cell? ⟨n1, 0, none⟩ = some (.slice (some ⟨b, off, none⟩) js.length cap) := hW.r1.c 0 _ rfl
     have x6 : wr.cell? ⟨b, off + k * 12 + 6, none⟩ = some (.int .i64 j.lo) := hMr.c k _ (rows_get hj') 6 _ rfl
     have x7 : wr.cell? ⟨b, off + k * 12 + 7, none⟩ = some (.int .i64 j.hi) := hMr.c k _ (rows_get hj') 7 _ rfl
     have y0 : wr.cell? ⟨bp, offp + k, none⟩ = some (.int .i64 p) := by have := hPr.c k _ (pvals_get hp') 0 _ rfl; simpa using this
     have HJ := Lib.hid hj'
     have HP := Lib.hid hp'
     clear hMr hPr hj' hp'
     cases l1 : decide (p < j.lo) with
     | true =>
      have L1 : Hid (p < j.lo) := Lib.hid (of_decide_eq_true l1)
      go_wp2_with fail
      go_quiet (fail)
      have hB := below_call hW.bel (below_drew wr nq)
      clear s0 x6 x7 y0
      generalize wr.drewN nq = V at hB ⊢
      go_wp2
      go_ret
      refine ifP_mk ?_ hB
      rw [← HR.out]
      exact ⟨fun h => absurd h (by simp), fun h => absurd (h.2.2 k j p HJ.out HP.out) (by have := L1.out; omega)⟩
     | false =>
      have L1 : Hid (¬ (p < j.lo)) := Lib.hid (of_decide_eq_false l1)
      cases l2 : decide (j.hi < p) with
      | true =>
       have L2 : Hid (j.hi < p) := Lib.hid (of_decide_eq_true l2)
       go_wp2_with fail
       go_quiet (fail)
       have hB := below_call hW.bel (below_drew wr nq)
       clear s0 x6 x7 y0
       generalize wr.drewN nq = V at hB ⊢
       go_wp2
       go_ret
       refine ifP_mk ?_ hB
       rw [← HR.out]
       exact ⟨fun h => absurd h (by simp), fun h => absurd (h.2.2 k j p HJ.out HP.out) (by have := L2.out; omega)⟩
      | false =>
       have L2 : Hid (¬ (j.hi < p)) := Lib.hid (of_decide_eq_false l2)
       go_wp2_with fail
       go_quiet (fail)
       have hW2 := hW.keep (below_drew wr nq)
       have hP2 := hP.keep (below_drew wr nq)
       clear s0 x6 x7 y0
       generalize wr.drewN nq = V at hW2 hP2 ⊢
       go_wp2
       go_roundw
       case rel =>
        refine ⟨k + 1, by omega, by simp, ⟨hW2, hP2⟩, fun i j' p' hi hj' hp' => ?_⟩
        rcases Nat.lt_or_ge i k with h | h
        ·exact HA.out i j' p' h hj' hp'
        ·have : i = k := by omega
         subst this
         have e1 := HJ.out.symm.trans hj'
         injection e1 with e1
         have e2 := HP.out.symm.trans hp'
         injection e2 with e2
         rw [← e1, ← e2]
         exact ⟨by have := L1.out; omega, by have := L2.out; omega⟩
       case measure => simp [intOf]; omega
    ·go_wp2
     go_ret
     refine ifP_mk ?_ hW.bel
     rw [← HR.out]
     refine ⟨fun _ => ⟨HC.out.1 trivial, C0.out.symm, fun i j p h1 h2 => HA.out i j p ?_ h1 h2⟩, fun _ => rfl⟩
     rcases Nat.lt_or_ge i ps.length with h | h
     ·omega
     ·rw [List.getElem?_eq_none h] at h2; cases h2
  ·have c0' : ((ps.length : Int) != (js.length : Int)) = true := by simp; omega
   go_wp2
   go_ret
   refine ifP_mk ?_ hW.bel
   rw [← HR.out]
   exact ⟨fun h => absurd h (by simp), fun h => absurd h.2.1.symm c0⟩
 ·have hc' : (c != 0) = true := bne_iff_ne.2 hc
  go_wp2
  go_ret
  refine ifP_mk ?_ hW.bel
  rw [← HR.out]
  exact ⟨fun h => absurd h (by simp), fun h => absurd (HC.out.2 h.1) hc⟩
end Go.Proofs.En
end
