/-
  The contracts of the functions of fixed form (printed by gen_sy.py).
-/
import Derived.Test.YthbfmjlcnfgnbaaGreatYb
namespace Go.Proofs
open Go.Sm Go.RowKit

def es0 : List Ent := []
theorem oks0 (L : List Int) : ∀ e ∈ es0, EntOk Tryz.prog (envOf L) e := fun e h => by cases h
def e_ShDown : Ent := ⟨148, [none, none], [.i], 0⟩
theorem ok_ShDown : EntOk Tryz.prog (envOf []) e_ShDown := by
  intro l w hl
  replace hl : l.length = 2 := hl
  obtain ⟨a0, l0, rfl, g0⟩ := list_succ hl
  obtain ⟨a1, l1, rfl, g1⟩ := list_succ g0
  obtain rfl := List.eq_nil_of_length_eq_zero g1
  have E : packV (conRs (envOf []) [a0, a1] 0 [.i]) = num (s_ShDown a0 a1) := by kernel_rfl
  show Calls Tryz.prog 148 ([num a0, num a1] : List Value).toArray w fun r w' => r = .returned (packV (conRs (envOf []) [a0, a1] 0 [.i])) ∧ Below w.heap.size w w'
  rw [E]
  cases c0 : (decide (a1 < 0)) with
  | true =>
    have hs : Sat (envOf [a0, a1]) [(mk 20 (.bool true) [var 1, .int .i64 (0)], .bool true)] := sat_cons ⟨300, _, (show evS (envOf [a0, a1]) 300 (mk 20 (.bool true) [var 1, .int .i64 (0)]) = some (.bool (decide (a1 < 0))) by kernel_rfl).trans (by rw [c0]), rfl⟩ (sat_nil _)
    have h0 : (s_ShDown a0 a1) = a0 := by simp only [s_ShDown, c0, cond_true]
    rw [h0]
    exact symCall (X := xtOf [a0, a1] [(mk 20 (.bool true) [var 1, .int .i64 (0)], .bool true)]) Tryz.mixed Tryz.namedS (xtOf_good _ _ hs) (esc := Tryz.esc) (fuel := 200) (n := 12) (S := sumS (xtOf [a0, a1] [(mk 20 (.bool true) [var 1, .int .i64 (0)], .bool true)]) es0) (sumS_good hs _ (oks0 _)) (sumS_pure _ _) (f := 148) (xs := [var 0, var 1]) (v := var 0) (H' := []) (md := []) (by kernel_rfl) (by kernel_rfl) (by kernel_rfl) w
  | false =>
    have hs : Sat (envOf [a0, a1]) [(mk 20 (.bool true) [var 1, .int .i64 (0)], .bool false)] := sat_cons ⟨300, _, (show evS (envOf [a0, a1]) 300 (mk 20 (.bool true) [var 1, .int .i64 (0)]) = some (.bool (decide (a1 < 0))) by kernel_rfl).trans (by rw [c0]), rfl⟩ (sat_nil _)
    have h0 : (s_ShDown a0 a1) = (Int.fdiv a0 (2 ^ (min (Int.toNat a1) 64))) := by simp only [s_ShDown, c0, cond_false]
    rw [h0]
    exact symCall (X := xtOf [a0, a1] [(mk 20 (.bool true) [var 1, .int .i64 (0)], .bool false)]) Tryz.mixed Tryz.namedS (xtOf_good _ _ hs) (esc := Tryz.esc) (fuel := 200) (n := 12) (S := sumS (xtOf [a0, a1] [(mk 20 (.bool true) [var 1, .int .i64 (0)], .bool false)]) es0) (sumS_good hs _ (oks0 _)) (sumS_pure _ _) (f := 148) (xs := [var 0, var 1]) (v := mk 11 (.int .i64 (0)) [var 0, var 1]) (H' := []) (md := []) (by kernel_rfl) (by kernel_rfl) (by kernel_rfl) w
def es1 : List Ent := e_ShDown :: es0
theorem oks1 (L : List Int) : ∀ e ∈ es1, EntOk Tryz.prog (envOf L) e := by
  intro e he
  rcases List.mem_cons.1 he with rfl | h
  · exact entOk_env rfl rfl ok_ShDown
  · exact oks0 L e h
def e_ShUp : Ent := ⟨149, [none, none], [.i], 1⟩
theorem ok_ShUp : EntOk Tryz.prog (envOf []) e_ShUp := by
  intro l w hl
  replace hl : l.length = 2 := hl
  obtain ⟨a0, l0, rfl, g0⟩ := list_succ hl
  obtain ⟨a1, l1, rfl, g1⟩ := list_succ g0
  obtain rfl := List.eq_nil_of_length_eq_zero g1
  have E : packV (conRs (envOf []) [a0, a1] 1 [.i]) = num (s_ShUp a0 a1) := by kernel_rfl
  show Calls Tryz.prog 149 ([num a0, num a1] : List Value).toArray w fun r w' => r = .returned (packV (conRs (envOf []) [a0, a1] 1 [.i])) ∧ Below w.heap.size w w'
  rw [E]
  cases c0 : (decide (a1 < 0)) with
  | true =>
    have hs : Sat (envOf [a0, a1]) [(mk 20 (.bool true) [var 1, .int .i64 (0)], .bool true)] := sat_cons ⟨300, _, (show evS (envOf [a0, a1]) 300 (mk 20 (.bool true) [var 1, .int .i64 (0)]) = some (.bool (decide (a1 < 0))) by kernel_rfl).trans (by rw [c0]), rfl⟩ (sat_nil _)
    have h0 : (s_ShUp a0 a1) = a0 := by simp only [s_ShUp, c0, cond_true]
    rw [h0]
    exact symCall (X := xtOf [a0, a1] [(mk 20 (.bool true) [var 1, .int .i64 (0)], .bool true)]) Tryz.mixed Tryz.namedS (xtOf_good _ _ hs) (esc := Tryz.esc) (fuel := 200) (n := 12) (S := sumS (xtOf [a0, a1] [(mk 20 (.bool true) [var 1, .int .i64 (0)], .bool true)]) es1) (sumS_good hs _ (oks1 _)) (sumS_pure _ _) (f := 149) (xs := [var 0, var 1]) (v := var 0) (H' := []) (md := []) (by kernel_rfl) (by kernel_rfl) (by kernel_rfl) w
  | false =>
    cases c1 : ((wr ((Int.fdiv a0 (2 ^ (min (Int.toNat a1) 64))) * 2 ^ (min (Int.toNat a1) 64))) != a0) with
    | true =>
      have hs : Sat (envOf [a0, a1]) [(mk 20 (.bool true) [var 1, .int .i64 (0)], .bool false), (mk 25 (.bool true) [mk 10 (.int .i64 (0)) [mk 11 (.int .i64 (0)) [var 0, var 1], var 1], var 0], .bool true)] := sat_cons ⟨300, _, (show evS (envOf [a0, a1]) 300 (mk 20 (.bool true) [var 1, .int .i64 (0)]) = some (.bool (decide (a1 < 0))) by kernel_rfl).trans (by rw [c0]), rfl⟩ (sat_cons ⟨300, _, (show evS (envOf [a0, a1]) 300 (mk 25 (.bool true) [mk 10 (.int .i64 (0)) [mk 11 (.int .i64 (0)) [var 0, var 1], var 1], var 0]) = some (.bool ((wr ((Int.fdiv a0 (2 ^ (min (Int.toNat a1) 64))) * 2 ^ (min (Int.toNat a1) 64))) != a0)) by kernel_rfl).trans (by rw [c1]), rfl⟩ (sat_nil _))
      have h0 : (s_ShUp a0 a1) = (wr ((Int.fdiv a0 (2 ^ (min (Int.toNat a1) 64))) + 1)) := by simp only [s_ShUp, c0, c1, cond_true, cond_false]
      rw [h0]
      exact symCall (X := xtOf [a0, a1] [(mk 20 (.bool true) [var 1, .int .i64 (0)], .bool false), (mk 25 (.bool true) [mk 10 (.int .i64 (0)) [mk 11 (.int .i64 (0)) [var 0, var 1], var 1], var 0], .bool true)]) Tryz.mixed Tryz.namedS (xtOf_good _ _ hs) (esc := Tryz.esc) (fuel := 200) (n := 12) (S := sumS (xtOf [a0, a1] [(mk 20 (.bool true) [var 1, .int .i64 (0)], .bool false), (mk 25 (.bool true) [mk 10 (.int .i64 (0)) [mk 11 (.int .i64 (0)) [var 0, var 1], var 1], var 0], .bool true)]) es1) (sumS_good hs _ (oks1 _)) (sumS_pure _ _) (f := 149) (xs := [var 0, var 1]) (v := mk 2 (.int .i64 (0)) [mk 11 (.int .i64 (0)) [var 0, var 1], .int .i64 (1)]) (H' := []) (md := []) (by kernel_rfl) (by kernel_rfl) (by kernel_rfl) w
    | false =>
      have hs : Sat (envOf [a0, a1]) [(mk 20 (.bool true) [var 1, .int .i64 (0)], .bool false), (mk 25 (.bool true) [mk 10 (.int .i64 (0)) [mk 11 (.int .i64 (0)) [var 0, var 1], var 1], var 0], .bool false)] := sat_cons ⟨300, _, (show evS (envOf [a0, a1]) 300 (mk 20 (.bool true) [var 1, .int .i64 (0)]) = some (.bool (decide (a1 < 0))) by kernel_rfl).trans (by rw [c0]), rfl⟩ (sat_cons ⟨300, _, (show evS (envOf [a0, a1]) 300 (mk 25 (.bool true) [mk 10 (.int .i64 (0)) [mk 11 (.int .i64 (0)) [var 0, var 1], var 1], var 0]) = some (.bool ((wr ((Int.fdiv a0 (2 ^ (min (Int.toNat a1) 64))) * 2 ^ (min (Int.toNat a1) 64))) != a0)) by kernel_rfl).trans (by rw [c1]), rfl⟩ (sat_nil _))
      have h0 : (s_ShUp a0 a1) = (Int.fdiv a0 (2 ^ (min (Int.toNat a1) 64))) := by simp only [s_ShUp, c0, c1, cond_false]
      rw [h0]
      exact symCall (X := xtOf [a0, a1] [(mk 20 (.bool true) [var 1, .int .i64 (0)], .bool false), (mk 25 (.bool true) [mk 10 (.int .i64 (0)) [mk 11 (.int .i64 (0)) [var 0, var 1], var 1], var 0], .bool false)]) Tryz.mixed Tryz.namedS (xtOf_good _ _ hs) (esc := Tryz.esc) (fuel := 200) (n := 12) (S := sumS (xtOf [a0, a1] [(mk 20 (.bool true) [var 1, .int .i64 (0)], .bool false), (mk 25 (.bool true) [mk 10 (.int .i64 (0)) [mk 11 (.int .i64 (0)) [var 0, var 1], var 1], var 0], .bool false)]) es1) (sumS_good hs _ (oks1 _)) (sumS_pure _ _) (f := 149) (xs := [var 0, var 1]) (v := mk 11 (.int .i64 (0)) [var 0, var 1]) (H' := []) (md := []) (by kernel_rfl) (by kernel_rfl) (by kernel_rfl) w
def es2 : List Ent := e_ShUp :: es1
theorem oks2 (L : List Int) : ∀ e ∈ es2, EntOk Tryz.prog (envOf L) e := by
  intro e he
  rcases List.mem_cons.1 he with rfl | h
  · exact entOk_env rfl rfl ok_ShUp
  · exact oks1 L e h
def e_Clamp : Ent := ⟨137, [none], [.i], 2⟩
theorem ok_Clamp : EntOk Tryz.prog (envOf []) e_Clamp := by
  intro l w hl
  replace hl : l.length = 1 := hl
  obtain ⟨a0, l0, rfl, g0⟩ := list_succ hl
  obtain rfl := List.eq_nil_of_length_eq_zero g0
  have E : packV (conRs (envOf []) [a0] 2 [.i]) = num (s_Clamp a0) := by kernel_rfl
  show Calls Tryz.prog 137 ([num a0] : List Value).toArray w fun r w' => r = .returned (packV (conRs (envOf []) [a0] 2 [.i])) ∧ Below w.heap.size w w'
  rw [E]
  have hs : Sat (envOf [a0]) [] := sat_nil _
  have h0 : (s_Clamp a0) = (mn (mx a0 (-2147483648)) 2147483648) := by rfl
  rw [h0]
  exact symCall (X := xtOf [a0] []) Tryz.mixed Tryz.namedS (xtOf_good _ _ hs) (esc := Tryz.esc) (fuel := 200) (n := 12) (S := sumS (xtOf [a0] []) es2) (sumS_good hs _ (oks2 _)) (sumS_pure _ _) (f := 137) (xs := [var 0]) (v := mk 12 (.int .i64 (0)) [mk 13 (.int .i64 (0)) [var 0, .int .i64 (-2147483648)], .int .i64 (2147483648)]) (H' := []) (md := []) (by kernel_rfl) (by kernel_rfl) (by kernel_rfl) w
def es3 : List Ent := e_Clamp :: es2
theorem oks3 (L : List Int) : ∀ e ∈ es3, EntOk Tryz.prog (envOf L) e := by
  intro e he
  rcases List.mem_cons.1 he with rfl | h
  · exact entOk_env rfl rfl ok_Clamp
  · exact oks2 L e h
def e_Valid : Ent := ⟨116, [some 2], [.b], 3⟩
theorem ok_Valid : EntOk Tryz.prog (envOf []) e_Valid := by
  intro l w hl
  replace hl : l.length = 2 := hl
  obtain ⟨a0, l0, rfl, g0⟩ := list_succ hl
  obtain ⟨a1, l1, rfl, g1⟩ := list_succ g0
  obtain rfl := List.eq_nil_of_length_eq_zero g1
  have E : packV (conRs (envOf []) [a0, a1] 3 [.b]) = .bool (s_Valid a0 a1) := by kernel_rfl
  show Calls Tryz.prog 116 ([.agg ⟨[num a0, num a1]⟩] : List Value).toArray w fun r w' => r = .returned (packV (conRs (envOf []) [a0, a1] 3 [.b])) ∧ Below w.heap.size w w'
  rw [E]
  cases c0 : (decide ((-2147483648) ≤ a0)) with
  | true =>
    cases c1 : (decide (a0 ≤ a1)) with
    | true =>
      have hs : Sat (envOf [a0, a1]) [(mk 21 (.bool true) [.int .i64 (-2147483648), var 0], .bool true), (mk 21 (.bool true) [var 0, var 1], .bool true)] := sat_cons ⟨300, _, (show evS (envOf [a0, a1]) 300 (mk 21 (.bool true) [.int .i64 (-2147483648), var 0]) = some (.bool (decide ((-2147483648) ≤ a0))) by kernel_rfl).trans (by rw [c0]), rfl⟩ (sat_cons ⟨300, _, (show evS (envOf [a0, a1]) 300 (mk 21 (.bool true) [var 0, var 1]) = some (.bool (decide (a0 ≤ a1))) by kernel_rfl).trans (by rw [c1]), rfl⟩ (sat_nil _))
      have h0 : (s_Valid a0 a1) = (decide (a1 ≤ 2147483648)) := by simp only [s_Valid, c0, c1, cond_true]
      rw [h0]
      exact symCall (X := xtOf [a0, a1] [(mk 21 (.bool true) [.int .i64 (-2147483648), var 0], .bool true), (mk 21 (.bool true) [var 0, var 1], .bool true)]) Tryz.mixed Tryz.namedS (xtOf_good _ _ hs) (esc := Tryz.esc) (fuel := 200) (n := 12) (S := sumS (xtOf [a0, a1] [(mk 21 (.bool true) [.int .i64 (-2147483648), var 0], .bool true), (mk 21 (.bool true) [var 0, var 1], .bool true)]) es3) (sumS_good hs _ (oks3 _)) (sumS_pure _ _) (f := 116) (xs := [.agg ⟨[var 0, var 1]⟩]) (v := mk 21 (.bool true) [var 1, .int .i64 (2147483648)]) (H' := []) (md := []) (by kernel_rfl) (by kernel_rfl) (by kernel_rfl) w
    | false =>
      have hs : Sat (envOf [a0, a1]) [(mk 21 (.bool true) [.int .i64 (-2147483648), var 0], .bool true), (mk 21 (.bool true) [var 0, var 1], .bool false)] := sat_cons ⟨300, _, (show evS (envOf [a0, a1]) 300 (mk 21 (.bool true) [.int .i64 (-2147483648), var 0]) = some (.bool (decide ((-2147483648) ≤ a0))) by kernel_rfl).trans (by rw [c0]), rfl⟩ (sat_cons ⟨300, _, (show evS (envOf [a0, a1]) 300 (mk 21 (.bool true) [var 0, var 1]) = some (.bool (decide (a0 ≤ a1))) by kernel_rfl).trans (by rw [c1]), rfl⟩ (sat_nil _))
      have h0 : (s_Valid a0 a1) = false := by simp only [s_Valid, c0, c1, cond_true, cond_false]
      rw [h0]
      exact symCall (X := xtOf [a0, a1] [(mk 21 (.bool true) [.int .i64 (-2147483648), var 0], .bool true), (mk 21 (.bool true) [var 0, var 1], .bool false)]) Tryz.mixed Tryz.namedS (xtOf_good _ _ hs) (esc := Tryz.esc) (fuel := 200) (n := 12) (S := sumS (xtOf [a0, a1] [(mk 21 (.bool true) [.int .i64 (-2147483648), var 0], .bool true), (mk 21 (.bool true) [var 0, var 1], .bool false)]) es3) (sumS_good hs _ (oks3 _)) (sumS_pure _ _) (f := 116) (xs := [.agg ⟨[var 0, var 1]⟩]) (v := .bool false) (H' := []) (md := []) (by kernel_rfl) (by kernel_rfl) (by kernel_rfl) w
  | false =>
    have hs : Sat (envOf [a0, a1]) [(mk 21 (.bool true) [.int .i64 (-2147483648), var 0], .bool false)] := sat_cons ⟨300, _, (show evS (envOf [a0, a1]) 300 (mk 21 (.bool true) [.int .i64 (-2147483648), var 0]) = some (.bool (decide ((-2147483648) ≤ a0))) by kernel_rfl).trans (by rw [c0]), rfl⟩ (sat_nil _)
    have h0 : (s_Valid a0 a1) = false := by simp only [s_Valid, c0, cond_false]
    rw [h0]
    exact symCall (X := xtOf [a0, a1] [(mk 21 (.bool true) [.int .i64 (-2147483648), var 0], .bool false)]) Tryz.mixed Tryz.namedS (xtOf_good _ _ hs) (esc := Tryz.esc) (fuel := 200) (n := 12) (S := sumS (xtOf [a0, a1] [(mk 21 (.bool true) [.int .i64 (-2147483648), var 0], .bool false)]) es3) (sumS_good hs _ (oks3 _)) (sumS_pure _ _) (f := 116) (xs := [.agg ⟨[var 0, var 1]⟩]) (v := .bool false) (H' := []) (md := []) (by kernel_rfl) (by kernel_rfl) (by kernel_rfl) w
def es4 : List Ent := e_Valid :: es3
theorem oks4 (L : List Int) : ∀ e ∈ es4, EntOk Tryz.prog (envOf L) e := by
  intro e he
  rcases List.mem_cons.1 he with rfl | h
  · exact entOk_env rfl rfl ok_Valid
  · exact oks3 L e h
def e_valid2 : Ent := ⟨113, [some 2, some 2], [.b], 4⟩
theorem ok_valid2 : EntOk Tryz.prog (envOf []) e_valid2 := by
  intro l w hl
  replace hl : l.length = 4 := hl
  obtain ⟨a0, l0, rfl, g0⟩ := list_succ hl
  obtain ⟨a1, l1, rfl, g1⟩ := list_succ g0
  obtain ⟨a2, l2, rfl, g2⟩ := list_succ g1
  obtain ⟨a3, l3, rfl, g3⟩ := list_succ g2
  obtain rfl := List.eq_nil_of_length_eq_zero g3
  have E : packV (conRs (envOf []) [a0, a1, a2, a3] 4 [.b]) = .bool (s_valid2 a0 a1 a2 a3) := by kernel_rfl
  show Calls Tryz.prog 113 ([.agg ⟨[num a0, num a1]⟩, .agg ⟨[num a2, num a3]⟩] : List Value).toArray w fun r w' => r = .returned (packV (conRs (envOf []) [a0, a1, a2, a3] 4 [.b])) ∧ Below w.heap.size w w'
  rw [E]
  cases c0 : (s_Valid a0 a1) with
  | true =>
    have hs : Sat (envOf [a0, a1, a2, a3]) [(mk 1003 (.bool true) [var 0, var 1], .bool true)] := sat_cons ⟨300, _, (show evS (envOf [a0, a1, a2, a3]) 300 (mk 1003 (.bool true) [var 0, var 1]) = some (.bool (s_Valid a0 a1)) by kernel_rfl).trans (by rw [c0]), rfl⟩ (sat_nil _)
    have h0 : (s_valid2 a0 a1 a2 a3) = (s_Valid a2 a3) := by simp only [s_valid2, c0, cond_true]
    rw [h0]
    exact symCall (X := xtOf [a0, a1, a2, a3] [(mk 1003 (.bool true) [var 0, var 1], .bool true)]) Tryz.mixed Tryz.namedS (xtOf_good _ _ hs) (esc := Tryz.esc) (fuel := 200) (n := 12) (S := sumS (xtOf [a0, a1, a2, a3] [(mk 1003 (.bool true) [var 0, var 1], .bool true)]) es4) (sumS_good hs _ (oks4 _)) (sumS_pure _ _) (f := 113) (xs := [.agg ⟨[var 0, var 1]⟩, .agg ⟨[var 2, var 3]⟩]) (v := mk 1003 (.bool true) [var 2, var 3]) (H' := []) (md := []) (by kernel_rfl) (by kernel_rfl) (by kernel_rfl) w
  | false =>
    have hs : Sat (envOf [a0, a1, a2, a3]) [(mk 1003 (.bool true) [var 0, var 1], .bool false)] := sat_cons ⟨300, _, (show evS (envOf [a0, a1, a2, a3]) 300 (mk 1003 (.bool true) [var 0, var 1]) = some (.bool (s_Valid a0 a1)) by kernel_rfl).trans (by rw [c0]), rfl⟩ (sat_nil _)
    have h0 : (s_valid2 a0 a1 a2 a3) = false := by simp only [s_valid2, c0, cond_false]
    rw [h0]
    exact symCall (X := xtOf [a0, a1, a2, a3] [(mk 1003 (.bool true) [var 0, var 1], .bool false)]) Tryz.mixed Tryz.namedS (xtOf_good _ _ hs) (esc := Tryz.esc) (fuel := 200) (n := 12) (S := sumS (xtOf [a0, a1, a2, a3] [(mk 1003 (.bool true) [var 0, var 1], .bool false)]) es4) (sumS_good hs _ (oks4 _)) (sumS_pure _ _) (f := 113) (xs := [.agg ⟨[var 0, var 1]⟩, .agg ⟨[var 2, var 3]⟩]) (v := .bool false) (H' := []) (md := []) (by kernel_rfl) (by kernel_rfl) (by kernel_rfl) w
def es5 : List Ent := e_valid2 :: es4
theorem oks5 (L : List Int) : ∀ e ∈ es5, EntOk Tryz.prog (envOf L) e := by
  intro e he
  rcases List.mem_cons.1 he with rfl | h
  · exact entOk_env rfl rfl ok_valid2
  · exact oks4 L e h
def e_lim : Ent := ⟨122, [none, none], [.a 2], 5⟩
theorem ok_lim : EntOk Tryz.prog (envOf []) e_lim := by
  intro l w hl
  replace hl : l.length = 2 := hl
  obtain ⟨a0, l0, rfl, g0⟩ := list_succ hl
  obtain ⟨a1, l1, rfl, g1⟩ := list_succ g0
  obtain rfl := List.eq_nil_of_length_eq_zero g1
  have E : packV (conRs (envOf []) [a0, a1] 5 [.a 2]) = .agg ⟨[num (s_lim_0 a0 a1), num (s_lim_1 a0 a1)]⟩ := by kernel_rfl
  show Calls Tryz.prog 122 ([num a0, num a1] : List Value).toArray w fun r w' => r = .returned (packV (conRs (envOf []) [a0, a1] 5 [.a 2])) ∧ Below w.heap.size w w'
  rw [E]
  have hs : Sat (envOf [a0, a1]) [] := sat_nil _
  have h0 : (s_lim_0 a0 a1) = (s_Clamp a0) := by rfl
  have h1 : (s_lim_1 a0 a1) = (s_Clamp a1) := by rfl
  rw [h0, h1]
  exact symCall (X := xtOf [a0, a1] []) Tryz.mixed Tryz.namedS (xtOf_good _ _ hs) (esc := Tryz.esc) (fuel := 200) (n := 12) (S := sumS (xtOf [a0, a1] []) es5) (sumS_good hs _ (oks5 _)) (sumS_pure _ _) (f := 122) (xs := [var 0, var 1]) (v := .agg ⟨[mk 1002 (.int .i64 (0)) [var 0], mk 1002 (.int .i64 (0)) [var 1]]⟩) (H' := []) (md := []) (by kernel_rfl) (by kernel_rfl) (by kernel_rfl) w
def es6 : List Ent := e_lim :: es5
theorem oks6 (L : List Int) : ∀ e ∈ es6, EntOk Tryz.prog (envOf L) e := by
  intro e he
  rcases List.mem_cons.1 he with rfl | h
  · exact entOk_env rfl rfl ok_lim
  · exact oks5 L e h
def e_scaled : Ent := ⟨145, [none, none], [.a 2], 7⟩
theorem ok_scaled : EntOk Tryz.prog (envOf []) e_scaled := by
  intro l w hl
  replace hl : l.length = 2 := hl
  obtain ⟨a0, l0, rfl, g0⟩ := list_succ hl
  obtain ⟨a1, l1, rfl, g1⟩ := list_succ g0
  obtain rfl := List.eq_nil_of_length_eq_zero g1
  have E : packV (conRs (envOf []) [a0, a1] 7 [.a 2]) = .agg ⟨[num (s_scaled_0 a0 a1), num (s_scaled_1 a0 a1)]⟩ := by kernel_rfl
  show Calls Tryz.prog 145 ([num a0, num a1] : List Value).toArray w fun r w' => r = .returned (packV (conRs (envOf []) [a0, a1] 7 [.a 2])) ∧ Below w.heap.size w w'
  rw [E]
  have hs : Sat (envOf [a0, a1]) [] := sat_nil _
  have h0 : (s_scaled_0 a0 a1) = (s_lim_0 (s_ShDown a0 16) (s_ShUp a1 16)) := by rfl
  have h1 : (s_scaled_1 a0 a1) = (s_lim_1 (s_ShDown a0 16) (s_ShUp a1 16)) := by rfl
  rw [h0, h1]
  exact symCall (X := xtOf [a0, a1] []) Tryz.mixed Tryz.namedS (xtOf_good _ _ hs) (esc := Tryz.esc) (fuel := 200) (n := 12) (S := sumS (xtOf [a0, a1] []) es6) (sumS_good hs _ (oks6 _)) (sumS_pure _ _) (f := 145) (xs := [var 0, var 1]) (v := .agg ⟨[mk 1005 (.int .i64 (0)) [mk 1000 (.int .i64 (0)) [var 0, .int .i64 (16)], mk 1001 (.int .i64 (0)) [var 1, .int .i64 (16)]], mk 1006 (.int .i64 (0)) [mk 1000 (.int .i64 (0)) [var 0, .int .i64 (16)], mk 1001 (.int .i64 (0)) [var 1, .int .i64 (16)]]]⟩) (H' := []) (md := []) (by kernel_rfl) (by kernel_rfl) (by kernel_rfl) w
def es7 : List Ent := e_scaled :: es6
theorem oks7 (L : List Int) : ∀ e ∈ es7, EntOk Tryz.prog (envOf L) e := by
  intro e he
  rcases List.mem_cons.1 he with rfl | h
  · exact entOk_env rfl rfl ok_scaled
  · exact oks6 L e h
def e_Of : Ent := ⟨100, [none], [.a 2], 9⟩
theorem ok_Of : EntOk Tryz.prog (envOf []) e_Of := by
  intro l w hl
  replace hl : l.length = 1 := hl
  obtain ⟨a0, l0, rfl, g0⟩ := list_succ hl
  obtain rfl := List.eq_nil_of_length_eq_zero g0
  have E : packV (conRs (envOf []) [a0] 9 [.a 2]) = .agg ⟨[num (s_Of_0 a0), num (s_Of_1 a0)]⟩ := by kernel_rfl
  show Calls Tryz.prog 100 ([num a0] : List Value).toArray w fun r w' => r = .returned (packV (conRs (envOf []) [a0] 9 [.a 2])) ∧ Below w.heap.size w w'
  rw [E]
  have hs : Sat (envOf [a0]) [] := sat_nil _
  have h0 : (s_Of_0 a0) = (s_lim_0 a0 a0) := by rfl
  have h1 : (s_Of_1 a0) = (s_lim_1 a0 a0) := by rfl
  rw [h0, h1]
  exact symCall (X := xtOf [a0] []) Tryz.mixed Tryz.namedS (xtOf_good _ _ hs) (esc := Tryz.esc) (fuel := 200) (n := 12) (S := sumS (xtOf [a0] []) es7) (sumS_good hs _ (oks7 _)) (sumS_pure _ _) (f := 100) (xs := [var 0]) (v := .agg ⟨[mk 1005 (.int .i64 (0)) [var 0, var 0], mk 1006 (.int .i64 (0)) [var 0, var 0]]⟩) (H' := []) (md := []) (by kernel_rfl) (by kernel_rfl) (by kernel_rfl) w
def es8 : List Ent := e_Of :: es7
theorem oks8 (L : List Int) : ∀ e ∈ es8, EntOk Tryz.prog (envOf L) e := by
  intro e he
  rcases List.mem_cons.1 he with rfl | h
  · exact entOk_env rfl rfl ok_Of
  · exact oks7 L e h
def e_iAdd : Ent := ⟨135, [some 2, some 2], [.a 2], 11⟩
theorem ok_iAdd : EntOk Tryz.prog (envOf []) e_iAdd := by
  intro l w hl
  replace hl : l.length = 4 := hl
  obtain ⟨a0, l0, rfl, g0⟩ := list_succ hl
  obtain ⟨a1, l1, rfl, g1⟩ := list_succ g0
  obtain ⟨a2, l2, rfl, g2⟩ := list_succ g1
  obtain ⟨a3, l3, rfl, g3⟩ := list_succ g2
  obtain rfl := List.eq_nil_of_length_eq_zero g3
  have E : packV (conRs (envOf []) [a0, a1, a2, a3] 11 [.a 2]) = .agg ⟨[num (s_iAdd_0 a0 a1 a2 a3), num (s_iAdd_1 a0 a1 a2 a3)]⟩ := by kernel_rfl
  show Calls Tryz.prog 135 ([.agg ⟨[num a0, num a1]⟩, .agg ⟨[num a2, num a3]⟩] : List Value).toArray w fun r w' => r = .returned (packV (conRs (envOf []) [a0, a1, a2, a3] 11 [.a 2])) ∧ Below w.heap.size w w'
  rw [E]
  cases c0 : (s_valid2 a0 a1 a2 a3) with
  | true =>
    have hs : Sat (envOf [a0, a1, a2, a3]) [(mk 1004 (.bool true) [var 0, var 1, var 2, var 3], .bool true)] := sat_cons ⟨300, _, (show evS (envOf [a0, a1, a2, a3]) 300 (mk 1004 (.bool true) [var 0, var 1, var 2, var 3]) = some (.bool (s_valid2 a0 a1 a2 a3)) by kernel_rfl).trans (by rw [c0]), rfl⟩ (sat_nil _)
    have h0 : (s_iAdd_0 a0 a1 a2 a3) = (s_lim_0 (wr (a0 + a2)) (wr (a1 + a3))) := by simp only [s_iAdd_0, c0, cond_true]
    have h1 : (s_iAdd_1 a0 a1 a2 a3) = (s_lim_1 (wr (a0 + a2)) (wr (a1 + a3))) := by simp only [s_iAdd_1, c0, cond_true]
    rw [h0, h1]
    exact symCall (X := xtOf [a0, a1, a2, a3] [(mk 1004 (.bool true) [var 0, var 1, var 2, var 3], .bool true)]) Tryz.mixed Tryz.namedS (xtOf_good _ _ hs) (esc := Tryz.esc) (fuel := 200) (n := 12) (S := sumS (xtOf [a0, a1, a2, a3] [(mk 1004 (.bool true) [var 0, var 1, var 2, var 3], .bool true)]) es8) (sumS_good hs _ (oks8 _)) (sumS_pure _ _) (f := 135) (xs := [.agg ⟨[var 0, var 1]⟩, .agg ⟨[var 2, var 3]⟩]) (v := .agg ⟨[mk 1005 (.int .i64 (0)) [mk 2 (.int .i64 (0)) [var 0, var 2], mk 2 (.int .i64 (0)) [var 1, var 3]], mk 1006 (.int .i64 (0)) [mk 2 (.int .i64 (0)) [var 0, var 2], mk 2 (.int .i64 (0)) [var 1, var 3]]]⟩) (H' := []) (md := []) (by kernel_rfl) (by kernel_rfl) (by kernel_rfl) w
  | false =>
    have hs : Sat (envOf [a0, a1, a2, a3]) [(mk 1004 (.bool true) [var 0, var 1, var 2, var 3], .bool false)] := sat_cons ⟨300, _, (show evS (envOf [a0, a1, a2, a3]) 300 (mk 1004 (.bool true) [var 0, var 1, var 2, var 3]) = some (.bool (s_valid2 a0 a1 a2 a3)) by kernel_rfl).trans (by rw [c0]), rfl⟩ (sat_nil _)
    have h0 : (s_iAdd_0 a0 a1 a2 a3) = 0 := by simp only [s_iAdd_0, c0, cond_false]
    have h1 : (s_iAdd_1 a0 a1 a2 a3) = 0 := by simp only [s_iAdd_1, c0, cond_false]
    rw [h0, h1]
    exact symCall (X := xtOf [a0, a1, a2, a3] [(mk 1004 (.bool true) [var 0, var 1, var 2, var 3], .bool false)]) Tryz.mixed Tryz.namedS (xtOf_good _ _ hs) (esc := Tryz.esc) (fuel := 200) (n := 12) (S := sumS (xtOf [a0, a1, a2, a3] [(mk 1004 (.bool true) [var 0, var 1, var 2, var 3], .bool false)]) es8) (sumS_good hs _ (oks8 _)) (sumS_pure _ _) (f := 135) (xs := [.agg ⟨[var 0, var 1]⟩, .agg ⟨[var 2, var 3]⟩]) (v := .agg ⟨[.int .i64 (0), .int .i64 (0)]⟩) (H' := []) (md := []) (by kernel_rfl) (by kernel_rfl) (by kernel_rfl) w
def es9 : List Ent := e_iAdd :: es8
theorem oks9 (L : List Int) : ∀ e ∈ es9, EntOk Tryz.prog (envOf L) e := by
  intro e he
  rcases List.mem_cons.1 he with rfl | h
  · exact entOk_env rfl rfl ok_iAdd
  · exact oks8 L e h
def e_iNeg : Ent := ⟨154, [some 2], [.a 2], 13⟩
theorem ok_iNeg : EntOk Tryz.prog (envOf []) e_iNeg := by
  intro l w hl
  replace hl : l.length = 2 := hl
  obtain ⟨a0, l0, rfl, g0⟩ := list_succ hl
  obtain ⟨a1, l1, rfl, g1⟩ := list_succ g0
  obtain rfl := List.eq_nil_of_length_eq_zero g1
  have E : packV (conRs (envOf []) [a0, a1] 13 [.a 2]) = .agg ⟨[num (s_iNeg_0 a0 a1), num (s_iNeg_1 a0 a1)]⟩ := by kernel_rfl
  show Calls Tryz.prog 154 ([.agg ⟨[num a0, num a1]⟩] : List Value).toArray w fun r w' => r = .returned (packV (conRs (envOf []) [a0, a1] 13 [.a 2])) ∧ Below w.heap.size w w'
  rw [E]
  cases c0 : (s_Valid a0 a1) with
  | true =>
    have hs : Sat (envOf [a0, a1]) [(mk 1003 (.bool true) [var 0, var 1], .bool true)] := sat_cons ⟨300, _, (show evS (envOf [a0, a1]) 300 (mk 1003 (.bool true) [var 0, var 1]) = some (.bool (s_Valid a0 a1)) by kernel_rfl).trans (by rw [c0]), rfl⟩ (sat_nil _)
    have h0 : (s_iNeg_0 a0 a1) = (wr (-a1)) := by simp only [s_iNeg_0, c0, cond_true]
    have h1 : (s_iNeg_1 a0 a1) = (wr (-a0)) := by simp only [s_iNeg_1, c0, cond_true]
    rw [h0, h1]
    exact symCall (X := xtOf [a0, a1] [(mk 1003 (.bool true) [var 0, var 1], .bool true)]) Tryz.mixed Tryz.namedS (xtOf_good _ _ hs) (esc := Tryz.esc) (fuel := 200) (n := 12) (S := sumS (xtOf [a0, a1] [(mk 1003 (.bool true) [var 0, var 1], .bool true)]) es9) (sumS_good hs _ (oks9 _)) (sumS_pure _ _) (f := 154) (xs := [.agg ⟨[var 0, var 1]⟩]) (v := .agg ⟨[mk 14 (.int .i64 (0)) [var 1], mk 14 (.int .i64 (0)) [var 0]]⟩) (H' := []) (md := []) (by kernel_rfl) (by kernel_rfl) (by kernel_rfl) w
  | false =>
    have hs : Sat (envOf [a0, a1]) [(mk 1003 (.bool true) [var 0, var 1], .bool false)] := sat_cons ⟨300, _, (show evS (envOf [a0, a1]) 300 (mk 1003 (.bool true) [var 0, var 1]) = some (.bool (s_Valid a0 a1)) by kernel_rfl).trans (by rw [c0]), rfl⟩ (sat_nil _)
    have h0 : (s_iNeg_0 a0 a1) = 0 := by simp only [s_iNeg_0, c0, cond_false]
    have h1 : (s_iNeg_1 a0 a1) = 0 := by simp only [s_iNeg_1, c0, cond_false]
    rw [h0, h1]
    exact symCall (X := xtOf [a0, a1] [(mk 1003 (.bool true) [var 0, var 1], .bool false)]) Tryz.mixed Tryz.namedS (xtOf_good _ _ hs) (esc := Tryz.esc) (fuel := 200) (n := 12) (S := sumS (xtOf [a0, a1] [(mk 1003 (.bool true) [var 0, var 1], .bool false)]) es9) (sumS_good hs _ (oks9 _)) (sumS_pure _ _) (f := 154) (xs := [.agg ⟨[var 0, var 1]⟩]) (v := .agg ⟨[.int .i64 (0), .int .i64 (0)]⟩) (H' := []) (md := []) (by kernel_rfl) (by kernel_rfl) (by kernel_rfl) w
def es10 : List Ent := e_iNeg :: es9
theorem oks10 (L : List Int) : ∀ e ∈ es10, EntOk Tryz.prog (envOf L) e := by
  intro e he
  rcases List.mem_cons.1 he with rfl | h
  · exact entOk_env rfl rfl ok_iNeg
  · exact oks9 L e h
def e_iMul : Ent := ⟨136, [some 2, some 2], [.a 2], 15⟩
theorem ok_iMul : EntOk Tryz.prog (envOf []) e_iMul := by
  intro l w hl
  replace hl : l.length = 4 := hl
  obtain ⟨a0, l0, rfl, g0⟩ := list_succ hl
  obtain ⟨a1, l1, rfl, g1⟩ := list_succ g0
  obtain ⟨a2, l2, rfl, g2⟩ := list_succ g1
  obtain ⟨a3, l3, rfl, g3⟩ := list_succ g2
  obtain rfl := List.eq_nil_of_length_eq_zero g3
  have E : packV (conRs (envOf []) [a0, a1, a2, a3] 15 [.a 2]) = .agg ⟨[num (s_iMul_0 a0 a1 a2 a3), num (s_iMul_1 a0 a1 a2 a3)]⟩ := by kernel_rfl
  show Calls Tryz.prog 136 ([.agg ⟨[num a0, num a1]⟩, .agg ⟨[num a2, num a3]⟩] : List Value).toArray w fun r w' => r = .returned (packV (conRs (envOf []) [a0, a1, a2, a3] 15 [.a 2])) ∧ Below w.heap.size w w'
  rw [E]
  cases c0 : (s_valid2 a0 a1 a2 a3) with
  | true =>
    have hs : Sat (envOf [a0, a1, a2, a3]) [(mk 1004 (.bool true) [var 0, var 1, var 2, var 3], .bool true)] := sat_cons ⟨300, _, (show evS (envOf [a0, a1, a2, a3]) 300 (mk 1004 (.bool true) [var 0, var 1, var 2, var 3]) = some (.bool (s_valid2 a0 a1 a2 a3)) by kernel_rfl).trans (by rw [c0]), rfl⟩ (sat_nil _)
    have h0 : (s_iMul_0 a0 a1 a2 a3) = (s_scaled_0 (mn (mn (mn (mn (wr (a0 * a2)) (wr (a0 * a2))) (wr (a0 * a3))) (wr (a1 * a2))) (wr (a1 * a3))) (mx (mx (mx (mx (wr (a0 * a2)) (wr (a0 * a2))) (wr (a0 * a3))) (wr (a1 * a2))) (wr (a1 * a3)))) := by simp only [s_iMul_0, c0, cond_true]
    have h1 : (s_iMul_1 a0 a1 a2 a3) = (s_scaled_1 (mn (mn (mn (mn (wr (a0 * a2)) (wr (a0 * a2))) (wr (a0 * a3))) (wr (a1 * a2))) (wr (a1 * a3))) (mx (mx (mx (mx (wr (a0 * a2)) (wr (a0 * a2))) (wr (a0 * a3))) (wr (a1 * a2))) (wr (a1 * a3)))) := by simp only [s_iMul_1, c0, cond_true]
    rw [h0, h1]
    exact symCall (X := xtOf [a0, a1, a2, a3] [(mk 1004 (.bool true) [var 0, var 1, var 2, var 3], .bool true)]) Tryz.mixed Tryz.namedS (xtOf_good _ _ hs) (esc := Tryz.esc) (fuel := 200) (n := 12) (S := sumS (xtOf [a0, a1, a2, a3] [(mk 1004 (.bool true) [var 0, var 1, var 2, var 3], .bool true)]) es10) (sumS_good hs _ (oks10 _)) (sumS_pure _ _) (f := 136) (xs := [.agg ⟨[var 0, var 1]⟩, .agg ⟨[var 2, var 3]⟩]) (v := .agg ⟨[mk 1007 (.int .i64 (0)) [mk 12 (.int .i64 (0)) [mk 12 (.int .i64 (0)) [mk 12 (.int .i64 (0)) [mk 12 (.int .i64 (0)) [mk 4 (.int .i64 (0)) [var 0, var 2], mk 4 (.int .i64 (0)) [var 0, var 2]], mk 4 (.int .i64 (0)) [var 0, var 3]], mk 4 (.int .i64 (0)) [var 1, var 2]], mk 4 (.int .i64 (0)) [var 1, var 3]], mk 13 (.int .i64 (0)) [mk 13 (.int .i64 (0)) [mk 13 (.int .i64 (0)) [mk 13 (.int .i64 (0)) [mk 4 (.int .i64 (0)) [var 0, var 2], mk 4 (.int .i64 (0)) [var 0, var 2]], mk 4 (.int .i64 (0)) [var 0, var 3]], mk 4 (.int .i64 (0)) [var 1, var 2]], mk 4 (.int .i64 (0)) [var 1, var 3]]], mk 1008 (.int .i64 (0)) [mk 12 (.int .i64 (0)) [mk 12 (.int .i64 (0)) [mk 12 (.int .i64 (0)) [mk 12 (.int .i64 (0)) [mk 4 (.int .i64 (0)) [var 0, var 2], mk 4 (.int .i64 (0)) [var 0, var 2]], mk 4 (.int .i64 (0)) [var 0, var 3]], mk 4 (.int .i64 (0)) [var 1, var 2]], mk 4 (.int .i64 (0)) [var 1, var 3]], mk 13 (.int .i64 (0)) [mk 13 (.int .i64 (0)) [mk 13 (.int .i64 (0)) [mk 13 (.int .i64 (0)) [mk 4 (.int .i64 (0)) [var 0, var 2], mk 4 (.int .i64 (0)) [var 0, var 2]], mk 4 (.int .i64 (0)) [var 0, var 3]], mk 4 (.int .i64 (0)) [var 1, var 2]], mk 4 (.int .i64 (0)) [var 1, var 3]]]]⟩) (H' := []) (md := []) (by kernel_rfl) (by kernel_rfl) (by kernel_rfl) w
  | false =>
    have hs : Sat (envOf [a0, a1, a2, a3]) [(mk 1004 (.bool true) [var 0, var 1, var 2, var 3], .bool false)] := sat_cons ⟨300, _, (show evS (envOf [a0, a1, a2, a3]) 300 (mk 1004 (.bool true) [var 0, var 1, var 2, var 3]) = some (.bool (s_valid2 a0 a1 a2 a3)) by kernel_rfl).trans (by rw [c0]), rfl⟩ (sat_nil _)
    have h0 : (s_iMul_0 a0 a1 a2 a3) = 0 := by simp only [s_iMul_0, c0, cond_false]
    have h1 : (s_iMul_1 a0 a1 a2 a3) = 0 := by simp only [s_iMul_1, c0, cond_false]
    rw [h0, h1]
    exact symCall (X := xtOf [a0, a1, a2, a3] [(mk 1004 (.bool true) [var 0, var 1, var 2, var 3], .bool false)]) Tryz.mixed Tryz.namedS (xtOf_good _ _ hs) (esc := Tryz.esc) (fuel := 200) (n := 12) (S := sumS (xtOf [a0, a1, a2, a3] [(mk 1004 (.bool true) [var 0, var 1, var 2, var 3], .bool false)]) es10) (sumS_good hs _ (oks10 _)) (sumS_pure _ _) (f := 136) (xs := [.agg ⟨[var 0, var 1]⟩, .agg ⟨[var 2, var 3]⟩]) (v := .agg ⟨[.int .i64 (0), .int .i64 (0)]⟩) (H' := []) (md := []) (by kernel_rfl) (by kernel_rfl) (by kernel_rfl) w
def es11 : List Ent := e_iMul :: es10
theorem oks11 (L : List Int) : ∀ e ∈ es11, EntOk Tryz.prog (envOf L) e := by
  intro e he
  rcases List.mem_cons.1 he with rfl | h
  · exact entOk_env rfl rfl ok_iMul
  · exact oks10 L e h
def e_iHull : Ent := ⟨159, [some 2, some 2], [.a 2], 17⟩
theorem ok_iHull : EntOk Tryz.prog (envOf []) e_iHull := by
  intro l w hl
  replace hl : l.length = 4 := hl
  obtain ⟨a0, l0, rfl, g0⟩ := list_succ hl
  obtain ⟨a1, l1, rfl, g1⟩ := list_succ g0
  obtain ⟨a2, l2, rfl, g2⟩ := list_succ g1
  obtain ⟨a3, l3, rfl, g3⟩ := list_succ g2
  obtain rfl := List.eq_nil_of_length_eq_zero g3
  have E : packV (conRs (envOf []) [a0, a1, a2, a3] 17 [.a 2]) = .agg ⟨[num (s_iHull_0 a0 a1 a2 a3), num (s_iHull_1 a0 a1 a2 a3)]⟩ := by kernel_rfl
  show Calls Tryz.prog 159 ([.agg ⟨[num a0, num a1]⟩, .agg ⟨[num a2, num a3]⟩] : List Value).toArray w fun r w' => r = .returned (packV (conRs (envOf []) [a0, a1, a2, a3] 17 [.a 2])) ∧ Below w.heap.size w w'
  rw [E]
  cases c0 : (s_valid2 a0 a1 a2 a3) with
  | true =>
    have hs : Sat (envOf [a0, a1, a2, a3]) [(mk 1004 (.bool true) [var 0, var 1, var 2, var 3], .bool true)] := sat_cons ⟨300, _, (show evS (envOf [a0, a1, a2, a3]) 300 (mk 1004 (.bool true) [var 0, var 1, var 2, var 3]) = some (.bool (s_valid2 a0 a1 a2 a3)) by kernel_rfl).trans (by rw [c0]), rfl⟩ (sat_nil _)
    have h0 : (s_iHull_0 a0 a1 a2 a3) = (mn a0 a2) := by simp only [s_iHull_0, c0, cond_true]
    have h1 : (s_iHull_1 a0 a1 a2 a3) = (mx a1 a3) := by simp only [s_iHull_1, c0, cond_true]
    rw [h0, h1]
    exact symCall (X := xtOf [a0, a1, a2, a3] [(mk 1004 (.bool true) [var 0, var 1, var 2, var 3], .bool true)]) Tryz.mixed Tryz.namedS (xtOf_good _ _ hs) (esc := Tryz.esc) (fuel := 200) (n := 12) (S := sumS (xtOf [a0, a1, a2, a3] [(mk 1004 (.bool true) [var 0, var 1, var 2, var 3], .bool true)]) es11) (sumS_good hs _ (oks11 _)) (sumS_pure _ _) (f := 159) (xs := [.agg ⟨[var 0, var 1]⟩, .agg ⟨[var 2, var 3]⟩]) (v := .agg ⟨[mk 12 (.int .i64 (0)) [var 0, var 2], mk 13 (.int .i64 (0)) [var 1, var 3]]⟩) (H' := []) (md := []) (by kernel_rfl) (by kernel_rfl) (by kernel_rfl) w
  | false =>
    have hs : Sat (envOf [a0, a1, a2, a3]) [(mk 1004 (.bool true) [var 0, var 1, var 2, var 3], .bool false)] := sat_cons ⟨300, _, (show evS (envOf [a0, a1, a2, a3]) 300 (mk 1004 (.bool true) [var 0, var 1, var 2, var 3]) = some (.bool (s_valid2 a0 a1 a2 a3)) by kernel_rfl).trans (by rw [c0]), rfl⟩ (sat_nil _)
    have h0 : (s_iHull_0 a0 a1 a2 a3) = 0 := by simp only [s_iHull_0, c0, cond_false]
    have h1 : (s_iHull_1 a0 a1 a2 a3) = 0 := by simp only [s_iHull_1, c0, cond_false]
    rw [h0, h1]
    exact symCall (X := xtOf [a0, a1, a2, a3] [(mk 1004 (.bool true) [var 0, var 1, var 2, var 3], .bool false)]) Tryz.mixed Tryz.namedS (xtOf_good _ _ hs) (esc := Tryz.esc) (fuel := 200) (n := 12) (S := sumS (xtOf [a0, a1, a2, a3] [(mk 1004 (.bool true) [var 0, var 1, var 2, var 3], .bool false)]) es11) (sumS_good hs _ (oks11 _)) (sumS_pure _ _) (f := 159) (xs := [.agg ⟨[var 0, var 1]⟩, .agg ⟨[var 2, var 3]⟩]) (v := .agg ⟨[.int .i64 (0), .int .i64 (0)]⟩) (H' := []) (md := []) (by kernel_rfl) (by kernel_rfl) (by kernel_rfl) w
def es12 : List Ent := e_iHull :: es11
theorem oks12 (L : List Int) : ∀ e ∈ es12, EntOk Tryz.prog (envOf L) e := by
  intro e he
  rcases List.mem_cons.1 he with rfl | h
  · exact entOk_env rfl rfl ok_iHull
  · exact oks11 L e h
def e_iHas : Ent := ⟨163, [some 2, none], [.b], 19⟩
theorem ok_iHas : EntOk Tryz.prog (envOf []) e_iHas := by
  intro l w hl
  replace hl : l.length = 3 := hl
  obtain ⟨a0, l0, rfl, g0⟩ := list_succ hl
  obtain ⟨a1, l1, rfl, g1⟩ := list_succ g0
  obtain ⟨a2, l2, rfl, g2⟩ := list_succ g1
  obtain rfl := List.eq_nil_of_length_eq_zero g2
  have E : packV (conRs (envOf []) [a0, a1, a2] 19 [.b]) = .bool (s_iHas a0 a1 a2) := by kernel_rfl
  show Calls Tryz.prog 163 ([.agg ⟨[num a0, num a1]⟩, num a2] : List Value).toArray w fun r w' => r = .returned (packV (conRs (envOf []) [a0, a1, a2] 19 [.b])) ∧ Below w.heap.size w w'
  rw [E]
  cases c0 : (s_Valid a0 a1) with
  | true =>
    cases c1 : (decide (a0 ≤ a2)) with
    | true =>
      have hs : Sat (envOf [a0, a1, a2]) [(mk 1003 (.bool true) [var 0, var 1], .bool true), (mk 21 (.bool true) [var 0, var 2], .bool true)] := sat_cons ⟨300, _, (show evS (envOf [a0, a1, a2]) 300 (mk 1003 (.bool true) [var 0, var 1]) = some (.bool (s_Valid a0 a1)) by kernel_rfl).trans (by rw [c0]), rfl⟩ (sat_cons ⟨300, _, (show evS (envOf [a0, a1, a2]) 300 (mk 21 (.bool true) [var 0, var 2]) = some (.bool (decide (a0 ≤ a2))) by kernel_rfl).trans (by rw [c1]), rfl⟩ (sat_nil _))
      have h0 : (s_iHas a0 a1 a2) = (decide (a2 ≤ a1)) := by simp only [s_iHas, c0, c1, cond_true]
      rw [h0]
      exact symCall (X := xtOf [a0, a1, a2] [(mk 1003 (.bool true) [var 0, var 1], .bool true), (mk 21 (.bool true) [var 0, var 2], .bool true)]) Tryz.mixed Tryz.namedS (xtOf_good _ _ hs) (esc := Tryz.esc) (fuel := 200) (n := 12) (S := sumS (xtOf [a0, a1, a2] [(mk 1003 (.bool true) [var 0, var 1], .bool true), (mk 21 (.bool true) [var 0, var 2], .bool true)]) es12) (sumS_good hs _ (oks12 _)) (sumS_pure _ _) (f := 163) (xs := [.agg ⟨[var 0, var 1]⟩, var 2]) (v := mk 21 (.bool true) [var 2, var 1]) (H' := []) (md := []) (by kernel_rfl) (by kernel_rfl) (by kernel_rfl) w
    | false =>
      have hs : Sat (envOf [a0, a1, a2]) [(mk 1003 (.bool true) [var 0, var 1], .bool true), (mk 21 (.bool true) [var 0, var 2], .bool false)] := sat_cons ⟨300, _, (show evS (envOf [a0, a1, a2]) 300 (mk 1003 (.bool true) [var 0, var 1]) = some (.bool (s_Valid a0 a1)) by kernel_rfl).trans (by rw [c0]), rfl⟩ (sat_cons ⟨300, _, (show evS (envOf [a0, a1, a2]) 300 (mk 21 (.bool true) [var 0, var 2]) = some (.bool (decide (a0 ≤ a2))) by kernel_rfl).trans (by rw [c1]), rfl⟩ (sat_nil _))
      have h0 : (s_iHas a0 a1 a2) = false := by simp only [s_iHas, c0, c1, cond_true, cond_false]
      rw [h0]
      exact symCall (X := xtOf [a0, a1, a2] [(mk 1003 (.bool true) [var 0, var 1], .bool true), (mk 21 (.bool true) [var 0, var 2], .bool false)]) Tryz.mixed Tryz.namedS (xtOf_good _ _ hs) (esc := Tryz.esc) (fuel := 200) (n := 12) (S := sumS (xtOf [a0, a1, a2] [(mk 1003 (.bool true) [var 0, var 1], .bool true), (mk 21 (.bool true) [var 0, var 2], .bool false)]) es12) (sumS_good hs _ (oks12 _)) (sumS_pure _ _) (f := 163) (xs := [.agg ⟨[var 0, var 1]⟩, var 2]) (v := .bool false) (H' := []) (md := []) (by kernel_rfl) (by kernel_rfl) (by kernel_rfl) w
  | false =>
    have hs : Sat (envOf [a0, a1, a2]) [(mk 1003 (.bool true) [var 0, var 1], .bool false)] := sat_cons ⟨300, _, (show evS (envOf [a0, a1, a2]) 300 (mk 1003 (.bool true) [var 0, var 1]) = some (.bool (s_Valid a0 a1)) by kernel_rfl).trans (by rw [c0]), rfl⟩ (sat_nil _)
    have h0 : (s_iHas a0 a1 a2) = false := by simp only [s_iHas, c0, cond_false]
    rw [h0]
    exact symCall (X := xtOf [a0, a1, a2] [(mk 1003 (.bool true) [var 0, var 1], .bool false)]) Tryz.mixed Tryz.namedS (xtOf_good _ _ hs) (esc := Tryz.esc) (fuel := 200) (n := 12) (S := sumS (xtOf [a0, a1, a2] [(mk 1003 (.bool true) [var 0, var 1], .bool false)]) es12) (sumS_good hs _ (oks12 _)) (sumS_pure _ _) (f := 163) (xs := [.agg ⟨[var 0, var 1]⟩, var 2]) (v := .bool false) (H' := []) (md := []) (by kernel_rfl) (by kernel_rfl) (by kernel_rfl) w
def es13 : List Ent := e_iHas :: es12
theorem oks13 (L : List Int) : ∀ e ∈ es13, EntOk Tryz.prog (envOf L) e := by
  intro e he
  rcases List.mem_cons.1 he with rfl | h
  · exact entOk_env rfl rfl ok_iHas
  · exact oks12 L e h
def e_iWithin : Ent := ⟨95, [some 2, some 2], [.b], 20⟩
theorem ok_iWithin : EntOk Tryz.prog (envOf []) e_iWithin := by
  intro l w hl
  replace hl : l.length = 4 := hl
  obtain ⟨a0, l0, rfl, g0⟩ := list_succ hl
  obtain ⟨a1, l1, rfl, g1⟩ := list_succ g0
  obtain ⟨a2, l2, rfl, g2⟩ := list_succ g1
  obtain ⟨a3, l3, rfl, g3⟩ := list_succ g2
  obtain rfl := List.eq_nil_of_length_eq_zero g3
  have E : packV (conRs (envOf []) [a0, a1, a2, a3] 20 [.b]) = .bool (s_iWithin a0 a1 a2 a3) := by kernel_rfl
  show Calls Tryz.prog 95 ([.agg ⟨[num a0, num a1]⟩, .agg ⟨[num a2, num a3]⟩] : List Value).toArray w fun r w' => r = .returned (packV (conRs (envOf []) [a0, a1, a2, a3] 20 [.b])) ∧ Below w.heap.size w w'
  rw [E]
  cases c0 : (s_valid2 a0 a1 a2 a3) with
  | true =>
    cases c1 : (decide (a2 ≤ a0)) with
    | true =>
      have hs : Sat (envOf [a0, a1, a2, a3]) [(mk 1004 (.bool true) [var 0, var 1, var 2, var 3], .bool true), (mk 21 (.bool true) [var 2, var 0], .bool true)] := sat_cons ⟨300, _, (show evS (envOf [a0, a1, a2, a3]) 300 (mk 1004 (.bool true) [var 0, var 1, var 2, var 3]) = some (.bool (s_valid2 a0 a1 a2 a3)) by kernel_rfl).trans (by rw [c0]), rfl⟩ (sat_cons ⟨300, _, (show evS (envOf [a0, a1, a2, a3]) 300 (mk 21 (.bool true) [var 2, var 0]) = some (.bool (decide (a2 ≤ a0))) by kernel_rfl).trans (by rw [c1]), rfl⟩ (sat_nil _))
      have h0 : (s_iWithin a0 a1 a2 a3) = (decide (a1 ≤ a3)) := by simp only [s_iWithin, c0, c1, cond_true]
      rw [h0]
      exact symCall (X := xtOf [a0, a1, a2, a3] [(mk 1004 (.bool true) [var 0, var 1, var 2, var 3], .bool true), (mk 21 (.bool true) [var 2, var 0], .bool true)]) Tryz.mixed Tryz.namedS (xtOf_good _ _ hs) (esc := Tryz.esc) (fuel := 200) (n := 12) (S := sumS (xtOf [a0, a1, a2, a3] [(mk 1004 (.bool true) [var 0, var 1, var 2, var 3], .bool true), (mk 21 (.bool true) [var 2, var 0], .bool true)]) es13) (sumS_good hs _ (oks13 _)) (sumS_pure _ _) (f := 95) (xs := [.agg ⟨[var 0, var 1]⟩, .agg ⟨[var 2, var 3]⟩]) (v := mk 21 (.bool true) [var 1, var 3]) (H' := []) (md := []) (by kernel_rfl) (by kernel_rfl) (by kernel_rfl) w
    | false =>
      have hs : Sat (envOf [a0, a1, a2, a3]) [(mk 1004 (.bool true) [var 0, var 1, var 2, var 3], .bool true), (mk 21 (.bool true) [var 2, var 0], .bool false)] := sat_cons ⟨300, _, (show evS (envOf [a0, a1, a2, a3]) 300 (mk 1004 (.bool true) [var 0, var 1, var 2, var 3]) = some (.bool (s_valid2 a0 a1 a2 a3)) by kernel_rfl).trans (by rw [c0]), rfl⟩ (sat_cons ⟨300, _, (show evS (envOf [a0, a1, a2, a3]) 300 (mk 21 (.bool true) [var 2, var 0]) = some (.bool (decide (a2 ≤ a0))) by kernel_rfl).trans (by rw [c1]), rfl⟩ (sat_nil _))
      have h0 : (s_iWithin a0 a1 a2 a3) = false := by simp only [s_iWithin, c0, c1, cond_true, cond_false]
      rw [h0]
      exact symCall (X := xtOf [a0, a1, a2, a3] [(mk 1004 (.bool true) [var 0, var 1, var 2, var 3], .bool true), (mk 21 (.bool true) [var 2, var 0], .bool false)]) Tryz.mixed Tryz.namedS (xtOf_good _ _ hs) (esc := Tryz.esc) (fuel := 200) (n := 12) (S := sumS (xtOf [a0, a1, a2, a3] [(mk 1004 (.bool true) [var 0, var 1, var 2, var 3], .bool true), (mk 21 (.bool true) [var 2, var 0], .bool false)]) es13) (sumS_good hs _ (oks13 _)) (sumS_pure _ _) (f := 95) (xs := [.agg ⟨[var 0, var 1]⟩, .agg ⟨[var 2, var 3]⟩]) (v := .bool false) (H' := []) (md := []) (by kernel_rfl) (by kernel_rfl) (by kernel_rfl) w
  | false =>
    have hs : Sat (envOf [a0, a1, a2, a3]) [(mk 1004 (.bool true) [var 0, var 1, var 2, var 3], .bool false)] := sat_cons ⟨300, _, (show evS (envOf [a0, a1, a2, a3]) 300 (mk 1004 (.bool true) [var 0, var 1, var 2, var 3]) = some (.bool (s_valid2 a0 a1 a2 a3)) by kernel_rfl).trans (by rw [c0]), rfl⟩ (sat_nil _)
    have h0 : (s_iWithin a0 a1 a2 a3) = false := by simp only [s_iWithin, c0, cond_false]
    rw [h0]
    exact symCall (X := xtOf [a0, a1, a2, a3] [(mk 1004 (.bool true) [var 0, var 1, var 2, var 3], .bool false)]) Tryz.mixed Tryz.namedS (xtOf_good _ _ hs) (esc := Tryz.esc) (fuel := 200) (n := 12) (S := sumS (xtOf [a0, a1, a2, a3] [(mk 1004 (.bool true) [var 0, var 1, var 2, var 3], .bool false)]) es13) (sumS_good hs _ (oks13 _)) (sumS_pure _ _) (f := 95) (xs := [.agg ⟨[var 0, var 1]⟩, .agg ⟨[var 2, var 3]⟩]) (v := .bool false) (H' := []) (md := []) (by kernel_rfl) (by kernel_rfl) (by kernel_rfl) w
def es14 : List Ent := e_iWithin :: es13
theorem oks14 (L : List Int) : ∀ e ∈ es14, EntOk Tryz.prog (envOf L) e := by
  intro e he
  rcases List.mem_cons.1 he with rfl | h
  · exact entOk_env rfl rfl ok_iWithin
  · exact oks13 L e h
def e_iWidth : Ent := ⟨158, [some 2], [.i], 21⟩
theorem ok_iWidth : EntOk Tryz.prog (envOf []) e_iWidth := by
  intro l w hl
  replace hl : l.length = 2 := hl
  obtain ⟨a0, l0, rfl, g0⟩ := list_succ hl
  obtain ⟨a1, l1, rfl, g1⟩ := list_succ g0
  obtain rfl := List.eq_nil_of_length_eq_zero g1
  have E : packV (conRs (envOf []) [a0, a1] 21 [.i]) = num (s_iWidth a0 a1) := by kernel_rfl
  show Calls Tryz.prog 158 ([.agg ⟨[num a0, num a1]⟩] : List Value).toArray w fun r w' => r = .returned (packV (conRs (envOf []) [a0, a1] 21 [.i])) ∧ Below w.heap.size w w'
  rw [E]
  cases c0 : (s_Valid a0 a1) with
  | true =>
    have hs : Sat (envOf [a0, a1]) [(mk 1003 (.bool true) [var 0, var 1], .bool true)] := sat_cons ⟨300, _, (show evS (envOf [a0, a1]) 300 (mk 1003 (.bool true) [var 0, var 1]) = some (.bool (s_Valid a0 a1)) by kernel_rfl).trans (by rw [c0]), rfl⟩ (sat_nil _)
    have h0 : (s_iWidth a0 a1) = (wr (a1 - a0)) := by simp only [s_iWidth, c0, cond_true]
    rw [h0]
    exact symCall (X := xtOf [a0, a1] [(mk 1003 (.bool true) [var 0, var 1], .bool true)]) Tryz.mixed Tryz.namedS (xtOf_good _ _ hs) (esc := Tryz.esc) (fuel := 200) (n := 12) (S := sumS (xtOf [a0, a1] [(mk 1003 (.bool true) [var 0, var 1], .bool true)]) es14) (sumS_good hs _ (oks14 _)) (sumS_pure _ _) (f := 158) (xs := [.agg ⟨[var 0, var 1]⟩]) (v := mk 3 (.int .i64 (0)) [var 1, var 0]) (H' := []) (md := []) (by kernel_rfl) (by kernel_rfl) (by kernel_rfl) w
  | false =>
    have hs : Sat (envOf [a0, a1]) [(mk 1003 (.bool true) [var 0, var 1], .bool false)] := sat_cons ⟨300, _, (show evS (envOf [a0, a1]) 300 (mk 1003 (.bool true) [var 0, var 1]) = some (.bool (s_Valid a0 a1)) by kernel_rfl).trans (by rw [c0]), rfl⟩ (sat_nil _)
    have h0 : (s_iWidth a0 a1) = 0 := by simp only [s_iWidth, c0, cond_false]
    rw [h0]
    exact symCall (X := xtOf [a0, a1] [(mk 1003 (.bool true) [var 0, var 1], .bool false)]) Tryz.mixed Tryz.namedS (xtOf_good _ _ hs) (esc := Tryz.esc) (fuel := 200) (n := 12) (S := sumS (xtOf [a0, a1] [(mk 1003 (.bool true) [var 0, var 1], .bool false)]) es14) (sumS_good hs _ (oks14 _)) (sumS_pure _ _) (f := 158) (xs := [.agg ⟨[var 0, var 1]⟩]) (v := .int .i64 (0)) (H' := []) (md := []) (by kernel_rfl) (by kernel_rfl) (by kernel_rfl) w
def es15 : List Ent := e_iWidth :: es14
theorem oks15 (L : List Int) : ∀ e ∈ es15, EntOk Tryz.prog (envOf L) e := by
  intro e he
  rcases List.mem_cons.1 he with rfl | h
  · exact entOk_env rfl rfl ok_iWidth
  · exact oks14 L e h
def e_powers : Ent := ⟨166, [none], [.a 11, .a 11], 22⟩
theorem ok_powers : EntOk Tryz.prog (envOf []) e_powers := by
  intro l w hl
  replace hl : l.length = 1 := hl
  obtain ⟨a0, l0, rfl, g0⟩ := list_succ hl
  obtain rfl := List.eq_nil_of_length_eq_zero g0
  have E : packV (conRs (envOf []) [a0] 22 [.a 11, .a 11]) = .tuple ⟨[.agg ⟨[num (s_powers_0 a0), num (s_powers_1 a0), num (s_powers_2 a0), num (s_powers_3 a0), num (s_powers_4 a0), num (s_powers_5 a0), num (s_powers_6 a0), num (s_powers_7 a0), num (s_powers_8 a0), num (s_powers_9 a0), num (s_powers_10 a0)]⟩, .agg ⟨[num (s_powers_11 a0), num (s_powers_12 a0), num (s_powers_13 a0), num (s_powers_14 a0), num (s_powers_15 a0), num (s_powers_16 a0), num (s_powers_17 a0), num (s_powers_18 a0), num (s_powers_19 a0), num (s_powers_20 a0), num (s_powers_21 a0)]⟩]⟩ := by kernel_rfl
  show Calls Tryz.prog 166 ([num a0] : List Value).toArray w fun r w' => r = .returned (packV (conRs (envOf []) [a0] 22 [.a 11, .a 11])) ∧ Below w.heap.size w w'
  rw [E]
  have hs : Sat (envOf [a0]) [] := sat_nil _
  have h0 : (s_powers_0 a0) = 1073741824 := by rfl
  have h1 : (s_powers_1 a0) = (s_ShDown (wr (a0 * 6746518852)) 16) := by rfl
  have h2 : (s_powers_2 a0) = (s_ShDown (wr ((s_ShDown (wr (a0 * 6746518852)) 16) * (s_ShDown (wr (a0 * 6746518852)) 16))) 30) := by rfl
  have h3 : (s_powers_3 a0) = (s_ShDown (wr ((s_ShDown (wr ((s_ShDown (wr (a0 * 6746518852)) 16) * (s_ShDown (wr (a0 * 6746518852)) 16))) 30) * (s_ShDown (wr (a0 * 6746518852)) 16))) 30) := by rfl
  have h4 : (s_powers_4 a0) = (s_ShDown (wr ((s_ShDown (wr ((s_ShDown (wr ((s_ShDown (wr (a0 * 6746518852)) 16) * (s_ShDown (wr (a0 * 6746518852)) 16))) 30) * (s_ShDown (wr (a0 * 6746518852)) 16))) 30) * (s_ShDown (wr (a0 * 6746518852)) 16))) 30) := by rfl
  have h5 : (s_powers_5 a0) = (s_ShDown (wr ((s_ShDown (wr ((s_ShDown (wr ((s_ShDown (wr ((s_ShDown (wr (a0 * 6746518852)) 16) * (s_ShDown (wr (a0 * 6746518852)) 16))) 30) * (s_ShDown (wr (a0 * 6746518852)) 16))) 30) * (s_ShDown (wr (a0 * 6746518852)) 16))) 30) * (s_ShDown (wr (a0 * 6746518852)) 16))) 30) := by rfl
  have h6 : (s_powers_6 a0) = (s_ShDown (wr ((s_ShDown (wr ((s_ShDown (wr ((s_ShDown (wr ((s_ShDown (wr ((s_ShDown (wr (a0 * 6746518852)) 16) * (s_ShDown (wr (a0 * 6746518852)) 16))) 30) * (s_ShDown (wr (a0 * 6746518852)) 16))) 30) * (s_ShDown (wr (a0 * 6746518852)) 16))) 30) * (s_ShDown (wr (a0 * 6746518852)) 16))) 30) * (s_ShDown (wr (a0 * 6746518852)) 16))) 30) := by rfl
  have h7 : (s_powers_7 a0) = (s_ShDown (wr ((s_ShDown (wr ((s_ShDown (wr ((s_ShDown (wr ((s_ShDown (wr ((s_ShDown (wr ((s_ShDown (wr (a0 * 6746518852)) 16) * (s_ShDown (wr (a0 * 6746518852)) 16))) 30) * (s_ShDown (wr (a0 * 6746518852)) 16))) 30) * (s_ShDown (wr (a0 * 6746518852)) 16))) 30) * (s_ShDown (wr (a0 * 6746518852)) 16))) 30) * (s_ShDown (wr (a0 * 6746518852)) 16))) 30) * (s_ShDown (wr (a0 * 6746518852)) 16))) 30) := by rfl
  have h8 : (s_powers_8 a0) = (s_ShDown (wr ((s_ShDown (wr ((s_ShDown (wr ((s_ShDown (wr ((s_ShDown (wr ((s_ShDown (wr ((s_ShDown (wr ((s_ShDown (wr (a0 * 6746518852)) 16) * (s_ShDown (wr (a0 * 6746518852)) 16))) 30) * (s_ShDown (wr (a0 * 6746518852)) 16))) 30) * (s_ShDown (wr (a0 * 6746518852)) 16))) 30) * (s_ShDown (wr (a0 * 6746518852)) 16))) 30) * (s_ShDown (wr (a0 * 6746518852)) 16))) 30) * (s_ShDown (wr (a0 * 6746518852)) 16))) 30) * (s_ShDown (wr (a0 * 6746518852)) 16))) 30) := by rfl
  have h9 : (s_powers_9 a0) = (s_ShDown (wr ((s_ShDown (wr ((s_ShDown (wr ((s_ShDown (wr ((s_ShDown (wr ((s_ShDown (wr ((s_ShDown (wr ((s_ShDown (wr ((s_ShDown (wr (a0 * 6746518852)) 16) * (s_ShDown (wr (a0 * 6746518852)) 16))) 30) * (s_ShDown (wr (a0 * 6746518852)) 16))) 30) * (s_ShDown (wr (a0 * 6746518852)) 16))) 30) * (s_ShDown (wr (a0 * 6746518852)) 16))) 30) * (s_ShDown (wr (a0 * 6746518852)) 16))) 30) * (s_ShDown (wr (a0 * 6746518852)) 16))) 30) * (s_ShDown (wr (a0 * 6746518852)) 16))) 30) * (s_ShDown (wr (a0 * 6746518852)) 16))) 30) := by rfl
  have h10 : (s_powers_10 a0) = (s_ShDown (wr ((s_ShDown (wr ((s_ShDown (wr ((s_ShDown (wr ((s_ShDown (wr ((s_ShDown (wr ((s_ShDown (wr ((s_ShDown (wr ((s_ShDown (wr ((s_ShDown (wr (a0 * 6746518852)) 16) * (s_ShDown (wr (a0 * 6746518852)) 16))) 30) * (s_ShDown (wr (a0 * 6746518852)) 16))) 30) * (s_ShDown (wr (a0 * 6746518852)) 16))) 30) * (s_ShDown (wr (a0 * 6746518852)) 16))) 30) * (s_ShDown (wr (a0 * 6746518852)) 16))) 30) * (s_ShDown (wr (a0 * 6746518852)) 16))) 30) * (s_ShDown (wr (a0 * 6746518852)) 16))) 30) * (s_ShDown (wr (a0 * 6746518852)) 16))) 30) * (s_ShDown (wr (a0 * 6746518852)) 16))) 30) := by rfl
  have h11 : (s_powers_11 a0) = 1073741824 := by rfl
  have h12 : (s_powers_12 a0) = (s_ShUp (wr (a0 * 6746518853)) 16) := by rfl
  have h13 : (s_powers_13 a0) = (s_ShUp (wr ((s_ShUp (wr (a0 * 6746518853)) 16) * (s_ShUp (wr (a0 * 6746518853)) 16))) 30) := by rfl
  have h14 : (s_powers_14 a0) = (s_ShUp (wr ((s_ShUp (wr ((s_ShUp (wr (a0 * 6746518853)) 16) * (s_ShUp (wr (a0 * 6746518853)) 16))) 30) * (s_ShUp (wr (a0 * 6746518853)) 16))) 30) := by rfl
  have h15 : (s_powers_15 a0) = (s_ShUp (wr ((s_ShUp (wr ((s_ShUp (wr ((s_ShUp (wr (a0 * 6746518853)) 16) * (s_ShUp (wr (a0 * 6746518853)) 16))) 30) * (s_ShUp (wr (a0 * 6746518853)) 16))) 30) * (s_ShUp (wr (a0 * 6746518853)) 16))) 30) := by rfl
  have h16 : (s_powers_16 a0) = (s_ShUp (wr ((s_ShUp (wr ((s_ShUp (wr ((s_ShUp (wr ((s_ShUp (wr (a0 * 6746518853)) 16) * (s_ShUp (wr (a0 * 6746518853)) 16))) 30) * (s_ShUp (wr (a0 * 6746518853)) 16))) 30) * (s_ShUp (wr (a0 * 6746518853)) 16))) 30) * (s_ShUp (wr (a0 * 6746518853)) 16))) 30) := by rfl
  have h17 : (s_powers_17 a0) = (s_ShUp (wr ((s_ShUp (wr ((s_ShUp (wr ((s_ShUp (wr ((s_ShUp (wr ((s_ShUp (wr (a0 * 6746518853)) 16) * (s_ShUp (wr (a0 * 6746518853)) 16))) 30) * (s_ShUp (wr (a0 * 6746518853)) 16))) 30) * (s_ShUp (wr (a0 * 6746518853)) 16))) 30) * (s_ShUp (wr (a0 * 6746518853)) 16))) 30) * (s_ShUp (wr (a0 * 6746518853)) 16))) 30) := by rfl
  have h18 : (s_powers_18 a0) = (s_ShUp (wr ((s_ShUp (wr ((s_ShUp (wr ((s_ShUp (wr ((s_ShUp (wr ((s_ShUp (wr ((s_ShUp (wr (a0 * 6746518853)) 16) * (s_ShUp (wr (a0 * 6746518853)) 16))) 30) * (s_ShUp (wr (a0 * 6746518853)) 16))) 30) * (s_ShUp (wr (a0 * 6746518853)) 16))) 30) * (s_ShUp (wr (a0 * 6746518853)) 16))) 30) * (s_ShUp (wr (a0 * 6746518853)) 16))) 30) * (s_ShUp (wr (a0 * 6746518853)) 16))) 30) := by rfl
  have h19 : (s_powers_19 a0) = (s_ShUp (wr ((s_ShUp (wr ((s_ShUp (wr ((s_ShUp (wr ((s_ShUp (wr ((s_ShUp (wr ((s_ShUp (wr ((s_ShUp (wr (a0 * 6746518853)) 16) * (s_ShUp (wr (a0 * 6746518853)) 16))) 30) * (s_ShUp (wr (a0 * 6746518853)) 16))) 30) * (s_ShUp (wr (a0 * 6746518853)) 16))) 30) * (s_ShUp (wr (a0 * 6746518853)) 16))) 30) * (s_ShUp (wr (a0 * 6746518853)) 16))) 30) * (s_ShUp (wr (a0 * 6746518853)) 16))) 30) * (s_ShUp (wr (a0 * 6746518853)) 16))) 30) := by rfl
  have h20 : (s_powers_20 a0) = (s_ShUp (wr ((s_ShUp (wr ((s_ShUp (wr ((s_ShUp (wr ((s_ShUp (wr ((s_ShUp (wr ((s_ShUp (wr ((s_ShUp (wr ((s_ShUp (wr (a0 * 6746518853)) 16) * (s_ShUp (wr (a0 * 6746518853)) 16))) 30) * (s_ShUp (wr (a0 * 6746518853)) 16))) 30) * (s_ShUp (wr (a0 * 6746518853)) 16))) 30) * (s_ShUp (wr (a0 * 6746518853)) 16))) 30) * (s_ShUp (wr (a0 * 6746518853)) 16))) 30) * (s_ShUp (wr (a0 * 6746518853)) 16))) 30) * (s_ShUp (wr (a0 * 6746518853)) 16))) 30) * (s_ShUp (wr (a0 * 6746518853)) 16))) 30) := by rfl
  have h21 : (s_powers_21 a0) = (s_ShUp (wr ((s_ShUp (wr ((s_ShUp (wr ((s_ShUp (wr ((s_ShUp (wr ((s_ShUp (wr ((s_ShUp (wr ((s_ShUp (wr ((s_ShUp (wr ((s_ShUp (wr (a0 * 6746518853)) 16) * (s_ShUp (wr (a0 * 6746518853)) 16))) 30) * (s_ShUp (wr (a0 * 6746518853)) 16))) 30) * (s_ShUp (wr (a0 * 6746518853)) 16))) 30) * (s_ShUp (wr (a0 * 6746518853)) 16))) 30) * (s_ShUp (wr (a0 * 6746518853)) 16))) 30) * (s_ShUp (wr (a0 * 6746518853)) 16))) 30) * (s_ShUp (wr (a0 * 6746518853)) 16))) 30) * (s_ShUp (wr (a0 * 6746518853)) 16))) 30) * (s_ShUp (wr (a0 * 6746518853)) 16))) 30) := by rfl
  rw [h0, h1, h2, h3, h4, h5, h6, h7, h8, h9, h10, h11, h12, h13, h14, h15, h16, h17, h18, h19, h20, h21]
  exact symCall (X := xtOf [a0] []) Tryz.mixed Tryz.namedS (xtOf_good _ _ hs) (esc := Tryz.esc) (fuel := 200) (n := 12) (S := sumS (xtOf [a0] []) es15) (sumS_good hs _ (oks15 _)) (sumS_pure _ _) (f := 166) (xs := [var 0]) (v := .tuple ⟨[.agg ⟨[.int .i64 (1073741824), mk 1000 (.int .i64 (0)) [mk 4 (.int .i64 (0)) [var 0, .int .i64 (6746518852)], .int .i64 (16)], mk 1000 (.int .i64 (0)) [mk 4 (.int .i64 (0)) [mk 1000 (.int .i64 (0)) [mk 4 (.int .i64 (0)) [var 0, .int .i64 (6746518852)], .int .i64 (16)], mk 1000 (.int .i64 (0)) [mk 4 (.int .i64 (0)) [var 0, .int .i64 (6746518852)], .int .i64 (16)]], .int .i64 (30)], mk 1000 (.int .i64 (0)) [mk 4 (.int .i64 (0)) [mk 1000 (.int .i64 (0)) [mk 4 (.int .i64 (0)) [mk 1000 (.int .i64 (0)) [mk 4 (.int .i64 (0)) [var 0, .int .i64 (6746518852)], .int .i64 (16)], mk 1000 (.int .i64 (0)) [mk 4 (.int .i64 (0)) [var 0, .int .i64 (6746518852)], .int .i64 (16)]], .int .i64 (30)], mk 1000 (.int .i64 (0)) [mk 4 (.int .i64 (0)) [var 0, .int .i64 (6746518852)], .int .i64 (16)]], .int .i64 (30)], mk 1000 (.int .i64 (0)) [mk 4 (.int .i64 (0)) [mk 1000 (.int .i64 (0)) [mk 4 (.int .i64 (0)) [mk 1000 (.int .i64 (0)) [mk 4 (.int .i64 (0)) [mk 1000 (.int .i64 (0)) [mk 4 (.int .i64 (0)) [var 0, .int .i64 (6746518852)], .int .i64 (16)], mk 1000 (.int .i64 (0)) [mk 4 (.int .i64 (0)) [var 0, .int .i64 (6746518852)], .int .i64 (16)]], .int .i64 (30)], mk 1000 (.int .i64 (0)) [mk 4 (.int .i64 (0)) [var 0, .int .i64 (6746518852)], .int .i64 (16)]], .int .i64 (30)], mk 1000 (.int .i64 (0)) [mk 4 (.int .i64 (0)) [var 0, .int .i64 (6746518852)], .int .i64 (16)]], .int .i64 (30)], mk 1000 (.int .i64 (0)) [mk 4 (.int .i64 (0)) [mk 1000 (.int .i64 (0)) [mk 4 (.int .i64 (0)) [mk 1000 (.int .i64 (0)) [mk 4 (.int .i64 (0)) [mk 1000 (.int .i64 (0)) [mk 4 (.int .i64 (0)) [mk 1000 (.int .i64 (0)) [mk 4 (.int .i64 (0)) [var 0, .int .i64 (6746518852)], .int .i64 (16)], mk 1000 (.int .i64 (0)) [mk 4 (.int .i64 (0)) [var 0, .int .i64 (6746518852)], .int .i64 (16)]], .int .i64 (30)], mk 1000 (.int .i64 (0)) [mk 4 (.int .i64 (0)) [var 0, .int .i64 (6746518852)], .int .i64 (16)]], .int .i64 (30)], mk 1000 (.int .i64 (0)) [mk 4 (.int .i64 (0)) [var 0, .int .i64 (6746518852)], .int .i64 (16)]], .int .i64 (30)], mk 1000 (.int .i64 (0)) [mk 4 (.int .i64 (0)) [var 0, .int .i64 (6746518852)], .int .i64 (16)]], .int .i64 (30)], mk 1000 (.int .i64 (0)) [mk 4 (.int .i64 (0)) [mk 1000 (.int .i64 (0)) [mk 4 (.int .i64 (0)) [mk 1000 (.int .i64 (0)) [mk 4 (.int .i64 (0)) [mk 1000 (.int .i64 (0)) [mk 4 (.int .i64 (0)) [mk 1000 (.int .i64 (0)) [mk 4 (.int .i64 (0)) [mk 1000 (.int .i64 (0)) [mk 4 (.int .i64 (0)) [var 0, .int .i64 (6746518852)], .int .i64 (16)], mk 1000 (.int .i64 (0)) [mk 4 (.int .i64 (0)) [var 0, .int .i64 (6746518852)], .int .i64 (16)]], .int .i64 (30)], mk 1000 (.int .i64 (0)) [mk 4 (.int .i64 (0)) [var 0, .int .i64 (6746518852)], .int .i64 (16)]], .int .i64 (30)], mk 1000 (.int .i64 (0)) [mk 4 (.int .i64 (0)) [var 0, .int .i64 (6746518852)], .int .i64 (16)]], .int .i64 (30)], mk 1000 (.int .i64 (0)) [mk 4 (.int .i64 (0)) [var 0, .int .i64 (6746518852)], .int .i64 (16)]], .int .i64 (30)], mk 1000 (.int .i64 (0)) [mk 4 (.int .i64 (0)) [var 0, .int .i64 (6746518852)], .int .i64 (16)]], .int .i64 (30)], mk 1000 (.int .i64 (0)) [mk 4 (.int .i64 (0)) [mk 1000 (.int .i64 (0)) [mk 4 (.int .i64 (0)) [mk 1000 (.int .i64 (0)) [mk 4 (.int .i64 (0)) [mk 1000 (.int .i64 (0)) [mk 4 (.int .i64 (0)) [mk 1000 (.int .i64 (0)) [mk 4 (.int .i64 (0)) [mk 1000 (.int .i64 (0)) [mk 4 (.int .i64 (0)) [mk 1000 (.int .i64 (0)) [mk 4 (.int .i64 (0)) [var 0, .int .i64 (6746518852)], .int .i64 (16)], mk 1000 (.int .i64 (0)) [mk 4 (.int .i64 (0)) [var 0, .int .i64 (6746518852)], .int .i64 (16)]], .int .i64 (30)], mk 1000 (.int .i64 (0)) [mk 4 (.int .i64 (0)) [var 0, .int .i64 (6746518852)], .int .i64 (16)]], .int .i64 (30)], mk 1000 (.int .i64 (0)) [mk 4 (.int .i64 (0)) [var 0, .int .i64 (6746518852)], .int .i64 (16)]], .int .i64 (30)], mk 1000 (.int .i64 (0)) [mk 4 (.int .i64 (0)) [var 0, .int .i64 (6746518852)], .int .i64 (16)]], .int .i64 (30)], mk 1000 (.int .i64 (0)) [mk 4 (.int .i64 (0)) [var 0, .int .i64 (6746518852)], .int .i64 (16)]], .int .i64 (30)], mk 1000 (.int .i64 (0)) [mk 4 (.int .i64 (0)) [var 0, .int .i64 (6746518852)], .int .i64 (16)]], .int .i64 (30)], mk 1000 (.int .i64 (0)) [mk 4 (.int .i64 (0)) [mk 1000 (.int .i64 (0)) [mk 4 (.int .i64 (0)) [mk 1000 (.int .i64 (0)) [mk 4 (.int .i64 (0)) [mk 1000 (.int .i64 (0)) [mk 4 (.int .i64 (0)) [mk 1000 (.int .i64 (0)) [mk 4 (.int .i64 (0)) [mk 1000 (.int .i64 (0)) [mk 4 (.int .i64 (0)) [mk 1000 (.int .i64 (0)) [mk 4 (.int .i64 (0)) [mk 1000 (.int .i64 (0)) [mk 4 (.int .i64 (0)) [var 0, .int .i64 (6746518852)], .int .i64 (16)], mk 1000 (.int .i64 (0)) [mk 4 (.int .i64 (0)) [var 0, .int .i64 (6746518852)], .int .i64 (16)]], .int .i64 (30)], mk 1000 (.int .i64 (0)) [mk 4 (.int .i64 (0)) [var 0, .int .i64 (6746518852)], .int .i64 (16)]], .int .i64 (30)], mk 1000 (.int .i64 (0)) [mk 4 (.int .i64 (0)) [var 0, .int .i64 (6746518852)], .int .i64 (16)]], .int .i64 (30)], mk 1000 (.int .i64 (0)) [mk 4 (.int .i64 (0)) [var 0, .int .i64 (6746518852)], .int .i64 (16)]], .int .i64 (30)], mk 1000 (.int .i64 (0)) [mk 4 (.int .i64 (0)) [var 0, .int .i64 (6746518852)], .int .i64 (16)]], .int .i64 (30)], mk 1000 (.int .i64 (0)) [mk 4 (.int .i64 (0)) [var 0, .int .i64 (6746518852)], .int .i64 (16)]], .int .i64 (30)], mk 1000 (.int .i64 (0)) [mk 4 (.int .i64 (0)) [var 0, .int .i64 (6746518852)], .int .i64 (16)]], .int .i64 (30)], mk 1000 (.int .i64 (0)) [mk 4 (.int .i64 (0)) [mk 1000 (.int .i64 (0)) [mk 4 (.int .i64 (0)) [mk 1000 (.int .i64 (0)) [mk 4 (.int .i64 (0)) [mk 1000 (.int .i64 (0)) [mk 4 (.int .i64 (0)) [mk 1000 (.int .i64 (0)) [mk 4 (.int .i64 (0)) [mk 1000 (.int .i64 (0)) [mk 4 (.int .i64 (0)) [mk 1000 (.int .i64 (0)) [mk 4 (.int .i64 (0)) [mk 1000 (.int .i64 (0)) [mk 4 (.int .i64 (0)) [mk 1000 (.int .i64 (0)) [mk 4 (.int .i64 (0)) [var 0, .int .i64 (6746518852)], .int .i64 (16)], mk 1000 (.int .i64 (0)) [mk 4 (.int .i64 (0)) [var 0, .int .i64 (6746518852)], .int .i64 (16)]], .int .i64 (30)], mk 1000 (.int .i64 (0)) [mk 4 (.int .i64 (0)) [var 0, .int .i64 (6746518852)], .int .i64 (16)]], .int .i64 (30)], mk 1000 (.int .i64 (0)) [mk 4 (.int .i64 (0)) [var 0, .int .i64 (6746518852)], .int .i64 (16)]], .int .i64 (30)], mk 1000 (.int .i64 (0)) [mk 4 (.int .i64 (0)) [var 0, .int .i64 (6746518852)], .int .i64 (16)]], .int .i64 (30)], mk 1000 (.int .i64 (0)) [mk 4 (.int .i64 (0)) [var 0, .int .i64 (6746518852)], .int .i64 (16)]], .int .i64 (30)], mk 1000 (.int .i64 (0)) [mk 4 (.int .i64 (0)) [var 0, .int .i64 (6746518852)], .int .i64 (16)]], .int .i64 (30)], mk 1000 (.int .i64 (0)) [mk 4 (.int .i64 (0)) [var 0, .int .i64 (6746518852)], .int .i64 (16)]], .int .i64 (30)], mk 1000 (.int .i64 (0)) [mk 4 (.int .i64 (0)) [var 0, .int .i64 (6746518852)], .int .i64 (16)]], .int .i64 (30)], mk 1000 (.int .i64 (0)) [mk 4 (.int .i64 (0)) [mk 1000 (.int .i64 (0)) [mk 4 (.int .i64 (0)) [mk 1000 (.int .i64 (0)) [mk 4 (.int .i64 (0)) [mk 1000 (.int .i64 (0)) [mk 4 (.int .i64 (0)) [mk 1000 (.int .i64 (0)) [mk 4 (.int .i64 (0)) [mk 1000 (.int .i64 (0)) [mk 4 (.int .i64 (0)) [mk 1000 (.int .i64 (0)) [mk 4 (.int .i64 (0)) [mk 1000 (.int .i64 (0)) [mk 4 (.int .i64 (0)) [mk 1000 (.int .i64 (0)) [mk 4 (.int .i64 (0)) [mk 1000 (.int .i64 (0)) [mk 4 (.int .i64 (0)) [var 0, .int .i64 (6746518852)], .int .i64 (16)], mk 1000 (.int .i64 (0)) [mk 4 (.int .i64 (0)) [var 0, .int .i64 (6746518852)], .int .i64 (16)]], .int .i64 (30)], mk 1000 (.int .i64 (0)) [mk 4 (.int .i64 (0)) [var 0, .int .i64 (6746518852)], .int .i64 (16)]], .int .i64 (30)], mk 1000 (.int .i64 (0)) [mk 4 (.int .i64 (0)) [var 0, .int .i64 (6746518852)], .int .i64 (16)]], .int .i64 (30)], mk 1000 (.int .i64 (0)) [mk 4 (.int .i64 (0)) [var 0, .int .i64 (6746518852)], .int .i64 (16)]], .int .i64 (30)], mk 1000 (.int .i64 (0)) [mk 4 (.int .i64 (0)) [var 0, .int .i64 (6746518852)], .int .i64 (16)]], .int .i64 (30)], mk 1000 (.int .i64 (0)) [mk 4 (.int .i64 (0)) [var 0, .int .i64 (6746518852)], .int .i64 (16)]], .int .i64 (30)], mk 1000 (.int .i64 (0)) [mk 4 (.int .i64 (0)) [var 0, .int .i64 (6746518852)], .int .i64 (16)]], .int .i64 (30)], mk 1000 (.int .i64 (0)) [mk 4 (.int .i64 (0)) [var 0, .int .i64 (6746518852)], .int .i64 (16)]], .int .i64 (30)], mk 1000 (.int .i64 (0)) [mk 4 (.int .i64 (0)) [var 0, .int .i64 (6746518852)], .int .i64 (16)]], .int .i64 (30)]]⟩, .agg ⟨[.int .i64 (1073741824), mk 1001 (.int .i64 (0)) [mk 4 (.int .i64 (0)) [var 0, .int .i64 (6746518853)], .int .i64 (16)], mk 1001 (.int .i64 (0)) [mk 4 (.int .i64 (0)) [mk 1001 (.int .i64 (0)) [mk 4 (.int .i64 (0)) [var 0, .int .i64 (6746518853)], .int .i64 (16)], mk 1001 (.int .i64 (0)) [mk 4 (.int .i64 (0)) [var 0, .int .i64 (6746518853)], .int .i64 (16)]], .int .i64 (30)], mk 1001 (.int .i64 (0)) [mk 4 (.int .i64 (0)) [mk 1001 (.int .i64 (0)) [mk 4 (.int .i64 (0)) [mk 1001 (.int .i64 (0)) [mk 4 (.int .i64 (0)) [var 0, .int .i64 (6746518853)], .int .i64 (16)], mk 1001 (.int .i64 (0)) [mk 4 (.int .i64 (0)) [var 0, .int .i64 (6746518853)], .int .i64 (16)]], .int .i64 (30)], mk 1001 (.int .i64 (0)) [mk 4 (.int .i64 (0)) [var 0, .int .i64 (6746518853)], .int .i64 (16)]], .int .i64 (30)], mk 1001 (.int .i64 (0)) [mk 4 (.int .i64 (0)) [mk 1001 (.int .i64 (0)) [mk 4 (.int .i64 (0)) [mk 1001 (.int .i64 (0)) [mk 4 (.int .i64 (0)) [mk 1001 (.int .i64 (0)) [mk 4 (.int .i64 (0)) [var 0, .int .i64 (6746518853)], .int .i64 (16)], mk 1001 (.int .i64 (0)) [mk 4 (.int .i64 (0)) [var 0, .int .i64 (6746518853)], .int .i64 (16)]], .int .i64 (30)], mk 1001 (.int .i64 (0)) [mk 4 (.int .i64 (0)) [var 0, .int .i64 (6746518853)], .int .i64 (16)]], .int .i64 (30)], mk 1001 (.int .i64 (0)) [mk 4 (.int .i64 (0)) [var 0, .int .i64 (6746518853)], .int .i64 (16)]], .int .i64 (30)], mk 1001 (.int .i64 (0)) [mk 4 (.int .i64 (0)) [mk 1001 (.int .i64 (0)) [mk 4 (.int .i64 (0)) [mk 1001 (.int .i64 (0)) [mk 4 (.int .i64 (0)) [mk 1001 (.int .i64 (0)) [mk 4 (.int .i64 (0)) [mk 1001 (.int .i64 (0)) [mk 4 (.int .i64 (0)) [var 0, .int .i64 (6746518853)], .int .i64 (16)], mk 1001 (.int .i64 (0)) [mk 4 (.int .i64 (0)) [var 0, .int .i64 (6746518853)], .int .i64 (16)]], .int .i64 (30)], mk 1001 (.int .i64 (0)) [mk 4 (.int .i64 (0)) [var 0, .int .i64 (6746518853)], .int .i64 (16)]], .int .i64 (30)], mk 1001 (.int .i64 (0)) [mk 4 (.int .i64 (0)) [var 0, .int .i64 (6746518853)], .int .i64 (16)]], .int .i64 (30)], mk 1001 (.int .i64 (0)) [mk 4 (.int .i64 (0)) [var 0, .int .i64 (6746518853)], .int .i64 (16)]], .int .i64 (30)], mk 1001 (.int .i64 (0)) [mk 4 (.int .i64 (0)) [mk 1001 (.int .i64 (0)) [mk 4 (.int .i64 (0)) [mk 1001 (.int .i64 (0)) [mk 4 (.int .i64 (0)) [mk 1001 (.int .i64 (0)) [mk 4 (.int .i64 (0)) [mk 1001 (.int .i64 (0)) [mk 4 (.int .i64 (0)) [mk 1001 (.int .i64 (0)) [mk 4 (.int .i64 (0)) [var 0, .int .i64 (6746518853)], .int .i64 (16)], mk 1001 (.int .i64 (0)) [mk 4 (.int .i64 (0)) [var 0, .int .i64 (6746518853)], .int .i64 (16)]], .int .i64 (30)], mk 1001 (.int .i64 (0)) [mk 4 (.int .i64 (0)) [var 0, .int .i64 (6746518853)], .int .i64 (16)]], .int .i64 (30)], mk 1001 (.int .i64 (0)) [mk 4 (.int .i64 (0)) [var 0, .int .i64 (6746518853)], .int .i64 (16)]], .int .i64 (30)], mk 1001 (.int .i64 (0)) [mk 4 (.int .i64 (0)) [var 0, .int .i64 (6746518853)], .int .i64 (16)]], .int .i64 (30)], mk 1001 (.int .i64 (0)) [mk 4 (.int .i64 (0)) [var 0, .int .i64 (6746518853)], .int .i64 (16)]], .int .i64 (30)], mk 1001 (.int .i64 (0)) [mk 4 (.int .i64 (0)) [mk 1001 (.int .i64 (0)) [mk 4 (.int .i64 (0)) [mk 1001 (.int .i64 (0)) [mk 4 (.int .i64 (0)) [mk 1001 (.int .i64 (0)) [mk 4 (.int .i64 (0)) [mk 1001 (.int .i64 (0)) [mk 4 (.int .i64 (0)) [mk 1001 (.int .i64 (0)) [mk 4 (.int .i64 (0)) [mk 1001 (.int .i64 (0)) [mk 4 (.int .i64 (0)) [var 0, .int .i64 (6746518853)], .int .i64 (16)], mk 1001 (.int .i64 (0)) [mk 4 (.int .i64 (0)) [var 0, .int .i64 (6746518853)], .int .i64 (16)]], .int .i64 (30)], mk 1001 (.int .i64 (0)) [mk 4 (.int .i64 (0)) [var 0, .int .i64 (6746518853)], .int .i64 (16)]], .int .i64 (30)], mk 1001 (.int .i64 (0)) [mk 4 (.int .i64 (0)) [var 0, .int .i64 (6746518853)], .int .i64 (16)]], .int .i64 (30)], mk 1001 (.int .i64 (0)) [mk 4 (.int .i64 (0)) [var 0, .int .i64 (6746518853)], .int .i64 (16)]], .int .i64 (30)], mk 1001 (.int .i64 (0)) [mk 4 (.int .i64 (0)) [var 0, .int .i64 (6746518853)], .int .i64 (16)]], .int .i64 (30)], mk 1001 (.int .i64 (0)) [mk 4 (.int .i64 (0)) [var 0, .int .i64 (6746518853)], .int .i64 (16)]], .int .i64 (30)], mk 1001 (.int .i64 (0)) [mk 4 (.int .i64 (0)) [mk 1001 (.int .i64 (0)) [mk 4 (.int .i64 (0)) [mk 1001 (.int .i64 (0)) [mk 4 (.int .i64 (0)) [mk 1001 (.int .i64 (0)) [mk 4 (.int .i64 (0)) [mk 1001 (.int .i64 (0)) [mk 4 (.int .i64 (0)) [mk 1001 (.int .i64 (0)) [mk 4 (.int .i64 (0)) [mk 1001 (.int .i64 (0)) [mk 4 (.int .i64 (0)) [mk 1001 (.int .i64 (0)) [mk 4 (.int .i64 (0)) [var 0, .int .i64 (6746518853)], .int .i64 (16)], mk 1001 (.int .i64 (0)) [mk 4 (.int .i64 (0)) [var 0, .int .i64 (6746518853)], .int .i64 (16)]], .int .i64 (30)], mk 1001 (.int .i64 (0)) [mk 4 (.int .i64 (0)) [var 0, .int .i64 (6746518853)], .int .i64 (16)]], .int .i64 (30)], mk 1001 (.int .i64 (0)) [mk 4 (.int .i64 (0)) [var 0, .int .i64 (6746518853)], .int .i64 (16)]], .int .i64 (30)], mk 1001 (.int .i64 (0)) [mk 4 (.int .i64 (0)) [var 0, .int .i64 (6746518853)], .int .i64 (16)]], .int .i64 (30)], mk 1001 (.int .i64 (0)) [mk 4 (.int .i64 (0)) [var 0, .int .i64 (6746518853)], .int .i64 (16)]], .int .i64 (30)], mk 1001 (.int .i64 (0)) [mk 4 (.int .i64 (0)) [var 0, .int .i64 (6746518853)], .int .i64 (16)]], .int .i64 (30)], mk 1001 (.int .i64 (0)) [mk 4 (.int .i64 (0)) [var 0, .int .i64 (6746518853)], .int .i64 (16)]], .int .i64 (30)], mk 1001 (.int .i64 (0)) [mk 4 (.int .i64 (0)) [mk 1001 (.int .i64 (0)) [mk 4 (.int .i64 (0)) [mk 1001 (.int .i64 (0)) [mk 4 (.int .i64 (0)) [mk 1001 (.int .i64 (0)) [mk 4 (.int .i64 (0)) [mk 1001 (.int .i64 (0)) [mk 4 (.int .i64 (0)) [mk 1001 (.int .i64 (0)) [mk 4 (.int .i64 (0)) [mk 1001 (.int .i64 (0)) [mk 4 (.int .i64 (0)) [mk 1001 (.int .i64 (0)) [mk 4 (.int .i64 (0)) [mk 1001 (.int .i64 (0)) [mk 4 (.int .i64 (0)) [var 0, .int .i64 (6746518853)], .int .i64 (16)], mk 1001 (.int .i64 (0)) [mk 4 (.int .i64 (0)) [var 0, .int .i64 (6746518853)], .int .i64 (16)]], .int .i64 (30)], mk 1001 (.int .i64 (0)) [mk 4 (.int .i64 (0)) [var 0, .int .i64 (6746518853)], .int .i64 (16)]], .int .i64 (30)], mk 1001 (.int .i64 (0)) [mk 4 (.int .i64 (0)) [var 0, .int .i64 (6746518853)], .int .i64 (16)]], .int .i64 (30)], mk 1001 (.int .i64 (0)) [mk 4 (.int .i64 (0)) [var 0, .int .i64 (6746518853)], .int .i64 (16)]], .int .i64 (30)], mk 1001 (.int .i64 (0)) [mk 4 (.int .i64 (0)) [var 0, .int .i64 (6746518853)], .int .i64 (16)]], .int .i64 (30)], mk 1001 (.int .i64 (0)) [mk 4 (.int .i64 (0)) [var 0, .int .i64 (6746518853)], .int .i64 (16)]], .int .i64 (30)], mk 1001 (.int .i64 (0)) [mk 4 (.int .i64 (0)) [var 0, .int .i64 (6746518853)], .int .i64 (16)]], .int .i64 (30)], mk 1001 (.int .i64 (0)) [mk 4 (.int .i64 (0)) [var 0, .int .i64 (6746518853)], .int .i64 (16)]], .int .i64 (30)], mk 1001 (.int .i64 (0)) [mk 4 (.int .i64 (0)) [mk 1001 (.int .i64 (0)) [mk 4 (.int .i64 (0)) [mk 1001 (.int .i64 (0)) [mk 4 (.int .i64 (0)) [mk 1001 (.int .i64 (0)) [mk 4 (.int .i64 (0)) [mk 1001 (.int .i64 (0)) [mk 4 (.int .i64 (0)) [mk 1001 (.int .i64 (0)) [mk 4 (.int .i64 (0)) [mk 1001 (.int .i64 (0)) [mk 4 (.int .i64 (0)) [mk 1001 (.int .i64 (0)) [mk 4 (.int .i64 (0)) [mk 1001 (.int .i64 (0)) [mk 4 (.int .i64 (0)) [mk 1001 (.int .i64 (0)) [mk 4 (.int .i64 (0)) [var 0, .int .i64 (6746518853)], .int .i64 (16)], mk 1001 (.int .i64 (0)) [mk 4 (.int .i64 (0)) [var 0, .int .i64 (6746518853)], .int .i64 (16)]], .int .i64 (30)], mk 1001 (.int .i64 (0)) [mk 4 (.int .i64 (0)) [var 0, .int .i64 (6746518853)], .int .i64 (16)]], .int .i64 (30)], mk 1001 (.int .i64 (0)) [mk 4 (.int .i64 (0)) [var 0, .int .i64 (6746518853)], .int .i64 (16)]], .int .i64 (30)], mk 1001 (.int .i64 (0)) [mk 4 (.int .i64 (0)) [var 0, .int .i64 (6746518853)], .int .i64 (16)]], .int .i64 (30)], mk 1001 (.int .i64 (0)) [mk 4 (.int .i64 (0)) [var 0, .int .i64 (6746518853)], .int .i64 (16)]], .int .i64 (30)], mk 1001 (.int .i64 (0)) [mk 4 (.int .i64 (0)) [var 0, .int .i64 (6746518853)], .int .i64 (16)]], .int .i64 (30)], mk 1001 (.int .i64 (0)) [mk 4 (.int .i64 (0)) [var 0, .int .i64 (6746518853)], .int .i64 (16)]], .int .i64 (30)], mk 1001 (.int .i64 (0)) [mk 4 (.int .i64 (0)) [var 0, .int .i64 (6746518853)], .int .i64 (16)]], .int .i64 (30)], mk 1001 (.int .i64 (0)) [mk 4 (.int .i64 (0)) [var 0, .int .i64 (6746518853)], .int .i64 (16)]], .int .i64 (30)]]⟩]⟩) (H' := []) (md := []) (by kernel_rfl) (by kernel_rfl) (by kernel_rfl) w
def es16 : List Ent := e_powers :: es15
theorem oks16 (L : List Int) : ∀ e ∈ es16, EntOk Tryz.prog (envOf L) e := by
  intro e he
  rcases List.mem_cons.1 he with rfl | h
  · exact entOk_env rfl rfl ok_powers
  · exact oks15 L e h
def e_encl : Ent := ⟨169, [none, none], [.a 2], 44⟩
theorem ok_encl : EntOk Tryz.prog (envOf []) e_encl := by
  intro l w hl
  replace hl : l.length = 2 := hl
  obtain ⟨a0, l0, rfl, g0⟩ := list_succ hl
  obtain ⟨a1, l1, rfl, g1⟩ := list_succ g0
  obtain rfl := List.eq_nil_of_length_eq_zero g1
  have E : packV (conRs (envOf []) [a0, a1] 44 [.a 2]) = .agg ⟨[num (s_encl_0 a0 a1), num (s_encl_1 a0 a1)]⟩ := by kernel_rfl
  show Calls Tryz.prog 169 ([num a0, num a1] : List Value).toArray w fun r w' => r = .returned (packV (conRs (envOf []) [a0, a1] 44 [.a 2])) ∧ Below w.heap.size w w'
  rw [E]
  have hs : Sat (envOf [a0, a1]) [] := sat_nil _
  have h0 : (s_encl_0 a0 a1) = (mx 0 (s_ShDown a0 14)) := by rfl
  have h1 : (s_encl_1 a0 a1) = (mn 65536 (s_ShUp a1 14)) := by rfl
  rw [h0, h1]
  exact symCall (X := xtOf [a0, a1] []) Tryz.mixed Tryz.namedS (xtOf_good _ _ hs) (esc := Tryz.esc) (fuel := 200) (n := 12) (S := sumS (xtOf [a0, a1] []) es16) (sumS_good hs _ (oks16 _)) (sumS_pure _ _) (f := 169) (xs := [var 0, var 1]) (v := .agg ⟨[mk 13 (.int .i64 (0)) [.int .i64 (0), mk 1000 (.int .i64 (0)) [var 0, .int .i64 (14)]], mk 12 (.int .i64 (0)) [.int .i64 (65536), mk 1001 (.int .i64 (0)) [var 1, .int .i64 (14)]]]⟩) (H' := []) (md := []) (by kernel_rfl) (by kernel_rfl) (by kernel_rfl) w
def es17 : List Ent := e_encl :: es16
theorem oks17 (L : List Int) : ∀ e ∈ es17, EntOk Tryz.prog (envOf L) e := by
  intro e he
  rcases List.mem_cons.1 he with rfl | h
  · exact entOk_env rfl rfl ok_encl
  · exact oks16 L e h
def e_sine : Ent := ⟨164, [none], [.a 2], 46⟩
theorem ok_sine : EntOk Tryz.prog (envOf []) e_sine := by
  intro l w hl
  replace hl : l.length = 1 := hl
  obtain ⟨a0, l0, rfl, g0⟩ := list_succ hl
  obtain rfl := List.eq_nil_of_length_eq_zero g0
  have E : packV (conRs (envOf []) [a0] 46 [.a 2]) = .agg ⟨[num (s_sine_0 a0), num (s_sine_1 a0)]⟩ := by kernel_rfl
  show Calls Tryz.prog 164 ([num a0] : List Value).toArray w fun r w' => r = .returned (packV (conRs (envOf []) [a0] 46 [.a 2])) ∧ Below w.heap.size w w'
  rw [E]
  have hs : Sat (envOf [a0]) [] := sat_nil _
  have h0 : (s_sine_0 a0) = (s_encl_0 (wr ((wr ((wr ((wr (0 + (wr (1 * (s_powers_1 a0))))) + (wr ((-1) * (wr (Int.tdiv (wr ((wr ((s_powers_14 a0) + 6)) - 1)) 6)))))) + (wr (1 * (wr (Int.tdiv (s_powers_5 a0) 120)))))) + (wr ((-1) * (wr (Int.tdiv (wr ((wr ((s_powers_18 a0) + 5040)) - 1)) 5040)))))) (wr ((wr ((wr ((wr ((wr (0 + (wr (1 * (s_powers_12 a0))))) + (wr ((-1) * (wr (Int.tdiv (s_powers_3 a0) 6)))))) + (wr (1 * (wr (Int.tdiv (wr ((wr ((s_powers_16 a0) + 120)) - 1)) 120)))))) + (wr ((-1) * (wr (Int.tdiv (s_powers_7 a0) 5040)))))) + (wr (1 * (wr (Int.tdiv (wr ((wr ((s_powers_20 a0) + 362880)) - 1)) 362880))))))) := by rfl
  have h1 : (s_sine_1 a0) = (s_encl_1 (wr ((wr ((wr ((wr (0 + (wr (1 * (s_powers_1 a0))))) + (wr ((-1) * (wr (Int.tdiv (wr ((wr ((s_powers_14 a0) + 6)) - 1)) 6)))))) + (wr (1 * (wr (Int.tdiv (s_powers_5 a0) 120)))))) + (wr ((-1) * (wr (Int.tdiv (wr ((wr ((s_powers_18 a0) + 5040)) - 1)) 5040)))))) (wr ((wr ((wr ((wr ((wr (0 + (wr (1 * (s_powers_12 a0))))) + (wr ((-1) * (wr (Int.tdiv (s_powers_3 a0) 6)))))) + (wr (1 * (wr (Int.tdiv (wr ((wr ((s_powers_16 a0) + 120)) - 1)) 120)))))) + (wr ((-1) * (wr (Int.tdiv (s_powers_7 a0) 5040)))))) + (wr (1 * (wr (Int.tdiv (wr ((wr ((s_powers_20 a0) + 362880)) - 1)) 362880))))))) := by rfl
  rw [h0, h1]
  exact symCall (X := xtOf [a0] []) Tryz.mixed Tryz.namedS (xtOf_good _ _ hs) (esc := Tryz.esc) (fuel := 200) (n := 12) (S := sumS (xtOf [a0] []) es17) (sumS_good hs _ (oks17 _)) (sumS_pure _ _) (f := 164) (xs := [var 0]) (v := .agg ⟨[mk 1044 (.int .i64 (0)) [mk 2 (.int .i64 (0)) [mk 2 (.int .i64 (0)) [mk 2 (.int .i64 (0)) [mk 2 (.int .i64 (0)) [.int .i64 (0), mk 4 (.int .i64 (0)) [.int .i64 (1), mk 1023 (.int .i64 (0)) [var 0]]], mk 4 (.int .i64 (0)) [.int .i64 (-1), mk 5 (.int .i64 (0)) [mk 3 (.int .i64 (0)) [mk 2 (.int .i64 (0)) [mk 1036 (.int .i64 (0)) [var 0], .int .i64 (6)], .int .i64 (1)], .int .i64 (6)]]], mk 4 (.int .i64 (0)) [.int .i64 (1), mk 5 (.int .i64 (0)) [mk 1027 (.int .i64 (0)) [var 0], .int .i64 (120)]]], mk 4 (.int .i64 (0)) [.int .i64 (-1), mk 5 (.int .i64 (0)) [mk 3 (.int .i64 (0)) [mk 2 (.int .i64 (0)) [mk 1040 (.int .i64 (0)) [var 0], .int .i64 (5040)], .int .i64 (1)], .int .i64 (5040)]]], mk 2 (.int .i64 (0)) [mk 2 (.int .i64 (0)) [mk 2 (.int .i64 (0)) [mk 2 (.int .i64 (0)) [mk 2 (.int .i64 (0)) [.int .i64 (0), mk 4 (.int .i64 (0)) [.int .i64 (1), mk 1034 (.int .i64 (0)) [var 0]]], mk 4 (.int .i64 (0)) [.int .i64 (-1), mk 5 (.int .i64 (0)) [mk 1025 (.int .i64 (0)) [var 0], .int .i64 (6)]]], mk 4 (.int .i64 (0)) [.int .i64 (1), mk 5 (.int .i64 (0)) [mk 3 (.int .i64 (0)) [mk 2 (.int .i64 (0)) [mk 1038 (.int .i64 (0)) [var 0], .int .i64 (120)], .int .i64 (1)], .int .i64 (120)]]], mk 4 (.int .i64 (0)) [.int .i64 (-1), mk 5 (.int .i64 (0)) [mk 1029 (.int .i64 (0)) [var 0], .int .i64 (5040)]]], mk 4 (.int .i64 (0)) [.int .i64 (1), mk 5 (.int .i64 (0)) [mk 3 (.int .i64 (0)) [mk 2 (.int .i64 (0)) [mk 1042 (.int .i64 (0)) [var 0], .int .i64 (362880)], .int .i64 (1)], .int .i64 (362880)]]]], mk 1045 (.int .i64 (0)) [mk 2 (.int .i64 (0)) [mk 2 (.int .i64 (0)) [mk 2 (.int .i64 (0)) [mk 2 (.int .i64 (0)) [.int .i64 (0), mk 4 (.int .i64 (0)) [.int .i64 (1), mk 1023 (.int .i64 (0)) [var 0]]], mk 4 (.int .i64 (0)) [.int .i64 (-1), mk 5 (.int .i64 (0)) [mk 3 (.int .i64 (0)) [mk 2 (.int .i64 (0)) [mk 1036 (.int .i64 (0)) [var 0], .int .i64 (6)], .int .i64 (1)], .int .i64 (6)]]], mk 4 (.int .i64 (0)) [.int .i64 (1), mk 5 (.int .i64 (0)) [mk 1027 (.int .i64 (0)) [var 0], .int .i64 (120)]]], mk 4 (.int .i64 (0)) [.int .i64 (-1), mk 5 (.int .i64 (0)) [mk 3 (.int .i64 (0)) [mk 2 (.int .i64 (0)) [mk 1040 (.int .i64 (0)) [var 0], .int .i64 (5040)], .int .i64 (1)], .int .i64 (5040)]]], mk 2 (.int .i64 (0)) [mk 2 (.int .i64 (0)) [mk 2 (.int .i64 (0)) [mk 2 (.int .i64 (0)) [mk 2 (.int .i64 (0)) [.int .i64 (0), mk 4 (.int .i64 (0)) [.int .i64 (1), mk 1034 (.int .i64 (0)) [var 0]]], mk 4 (.int .i64 (0)) [.int .i64 (-1), mk 5 (.int .i64 (0)) [mk 1025 (.int .i64 (0)) [var 0], .int .i64 (6)]]], mk 4 (.int .i64 (0)) [.int .i64 (1), mk 5 (.int .i64 (0)) [mk 3 (.int .i64 (0)) [mk 2 (.int .i64 (0)) [mk 1038 (.int .i64 (0)) [var 0], .int .i64 (120)], .int .i64 (1)], .int .i64 (120)]]], mk 4 (.int .i64 (0)) [.int .i64 (-1), mk 5 (.int .i64 (0)) [mk 1029 (.int .i64 (0)) [var 0], .int .i64 (5040)]]], mk 4 (.int .i64 (0)) [.int .i64 (1), mk 5 (.int .i64 (0)) [mk 3 (.int .i64 (0)) [mk 2 (.int .i64 (0)) [mk 1042 (.int .i64 (0)) [var 0], .int .i64 (362880)], .int .i64 (1)], .int .i64 (362880)]]]]]⟩) (H' := []) (md := []) (by kernel_rfl) (by kernel_rfl) (by kernel_rfl) w
def es18 : List Ent := e_sine :: es17
theorem oks18 (L : List Int) : ∀ e ∈ es18, EntOk Tryz.prog (envOf L) e := by
  intro e he
  rcases List.mem_cons.1 he with rfl | h
  · exact entOk_env rfl rfl ok_sine
  · exact oks17 L e h
def e_cosine : Ent := ⟨165, [none], [.a 2], 48⟩
theorem ok_cosine : EntOk Tryz.prog (envOf []) e_cosine := by
  intro l w hl
  replace hl : l.length = 1 := hl
  obtain ⟨a0, l0, rfl, g0⟩ := list_succ hl
  obtain rfl := List.eq_nil_of_length_eq_zero g0
  have E : packV (conRs (envOf []) [a0] 48 [.a 2]) = .agg ⟨[num (s_cosine_0 a0), num (s_cosine_1 a0)]⟩ := by kernel_rfl
  show Calls Tryz.prog 165 ([num a0] : List Value).toArray w fun r w' => r = .returned (packV (conRs (envOf []) [a0] 48 [.a 2])) ∧ Below w.heap.size w w'
  rw [E]
  have hs : Sat (envOf [a0]) [] := sat_nil _
  have h0 : (s_cosine_0 a0) = (s_encl_0 (wr ((wr ((wr ((wr ((wr (1073741824 + (wr ((-1) * (wr (Int.tdiv (wr ((wr ((s_powers_13 a0) + 2)) - 1)) 2)))))) + (wr (1 * (wr (Int.tdiv (s_powers_4 a0) 24)))))) + (wr ((-1) * (wr (Int.tdiv (wr ((wr ((s_powers_17 a0) + 720)) - 1)) 720)))))) + (wr (1 * (wr (Int.tdiv (s_powers_8 a0) 40320)))))) + (wr ((-1) * (wr (Int.tdiv (wr ((wr ((s_powers_21 a0) + 3628800)) - 1)) 3628800)))))) (wr ((wr ((wr ((wr (1073741824 + (wr ((-1) * (wr (Int.tdiv (s_powers_2 a0) 2)))))) + (wr (1 * (wr (Int.tdiv (wr ((wr ((s_powers_15 a0) + 24)) - 1)) 24)))))) + (wr ((-1) * (wr (Int.tdiv (s_powers_6 a0) 720)))))) + (wr (1 * (wr (Int.tdiv (wr ((wr ((s_powers_19 a0) + 40320)) - 1)) 40320))))))) := by rfl
  have h1 : (s_cosine_1 a0) = (s_encl_1 (wr ((wr ((wr ((wr ((wr (1073741824 + (wr ((-1) * (wr (Int.tdiv (wr ((wr ((s_powers_13 a0) + 2)) - 1)) 2)))))) + (wr (1 * (wr (Int.tdiv (s_powers_4 a0) 24)))))) + (wr ((-1) * (wr (Int.tdiv (wr ((wr ((s_powers_17 a0) + 720)) - 1)) 720)))))) + (wr (1 * (wr (Int.tdiv (s_powers_8 a0) 40320)))))) + (wr ((-1) * (wr (Int.tdiv (wr ((wr ((s_powers_21 a0) + 3628800)) - 1)) 3628800)))))) (wr ((wr ((wr ((wr (1073741824 + (wr ((-1) * (wr (Int.tdiv (s_powers_2 a0) 2)))))) + (wr (1 * (wr (Int.tdiv (wr ((wr ((s_powers_15 a0) + 24)) - 1)) 24)))))) + (wr ((-1) * (wr (Int.tdiv (s_powers_6 a0) 720)))))) + (wr (1 * (wr (Int.tdiv (wr ((wr ((s_powers_19 a0) + 40320)) - 1)) 40320))))))) := by rfl
  rw [h0, h1]
  exact symCall (X := xtOf [a0] []) Tryz.mixed Tryz.namedS (xtOf_good _ _ hs) (esc := Tryz.esc) (fuel := 200) (n := 12) (S := sumS (xtOf [a0] []) es18) (sumS_good hs _ (oks18 _)) (sumS_pure _ _) (f := 165) (xs := [var 0]) (v := .agg ⟨[mk 1044 (.int .i64 (0)) [mk 2 (.int .i64 (0)) [mk 2 (.int .i64 (0)) [mk 2 (.int .i64 (0)) [mk 2 (.int .i64 (0)) [mk 2 (.int .i64 (0)) [.int .i64 (1073741824), mk 4 (.int .i64 (0)) [.int .i64 (-1), mk 5 (.int .i64 (0)) [mk 3 (.int .i64 (0)) [mk 2 (.int .i64 (0)) [mk 1035 (.int .i64 (0)) [var 0], .int .i64 (2)], .int .i64 (1)], .int .i64 (2)]]], mk 4 (.int .i64 (0)) [.int .i64 (1), mk 5 (.int .i64 (0)) [mk 1026 (.int .i64 (0)) [var 0], .int .i64 (24)]]], mk 4 (.int .i64 (0)) [.int .i64 (-1), mk 5 (.int .i64 (0)) [mk 3 (.int .i64 (0)) [mk 2 (.int .i64 (0)) [mk 1039 (.int .i64 (0)) [var 0], .int .i64 (720)], .int .i64 (1)], .int .i64 (720)]]], mk 4 (.int .i64 (0)) [.int .i64 (1), mk 5 (.int .i64 (0)) [mk 1030 (.int .i64 (0)) [var 0], .int .i64 (40320)]]], mk 4 (.int .i64 (0)) [.int .i64 (-1), mk 5 (.int .i64 (0)) [mk 3 (.int .i64 (0)) [mk 2 (.int .i64 (0)) [mk 1043 (.int .i64 (0)) [var 0], .int .i64 (3628800)], .int .i64 (1)], .int .i64 (3628800)]]], mk 2 (.int .i64 (0)) [mk 2 (.int .i64 (0)) [mk 2 (.int .i64 (0)) [mk 2 (.int .i64 (0)) [.int .i64 (1073741824), mk 4 (.int .i64 (0)) [.int .i64 (-1), mk 5 (.int .i64 (0)) [mk 1024 (.int .i64 (0)) [var 0], .int .i64 (2)]]], mk 4 (.int .i64 (0)) [.int .i64 (1), mk 5 (.int .i64 (0)) [mk 3 (.int .i64 (0)) [mk 2 (.int .i64 (0)) [mk 1037 (.int .i64 (0)) [var 0], .int .i64 (24)], .int .i64 (1)], .int .i64 (24)]]], mk 4 (.int .i64 (0)) [.int .i64 (-1), mk 5 (.int .i64 (0)) [mk 1028 (.int .i64 (0)) [var 0], .int .i64 (720)]]], mk 4 (.int .i64 (0)) [.int .i64 (1), mk 5 (.int .i64 (0)) [mk 3 (.int .i64 (0)) [mk 2 (.int .i64 (0)) [mk 1041 (.int .i64 (0)) [var 0], .int .i64 (40320)], .int .i64 (1)], .int .i64 (40320)]]]], mk 1045 (.int .i64 (0)) [mk 2 (.int .i64 (0)) [mk 2 (.int .i64 (0)) [mk 2 (.int .i64 (0)) [mk 2 (.int .i64 (0)) [mk 2 (.int .i64 (0)) [.int .i64 (1073741824), mk 4 (.int .i64 (0)) [.int .i64 (-1), mk 5 (.int .i64 (0)) [mk 3 (.int .i64 (0)) [mk 2 (.int .i64 (0)) [mk 1035 (.int .i64 (0)) [var 0], .int .i64 (2)], .int .i64 (1)], .int .i64 (2)]]], mk 4 (.int .i64 (0)) [.int .i64 (1), mk 5 (.int .i64 (0)) [mk 1026 (.int .i64 (0)) [var 0], .int .i64 (24)]]], mk 4 (.int .i64 (0)) [.int .i64 (-1), mk 5 (.int .i64 (0)) [mk 3 (.int .i64 (0)) [mk 2 (.int .i64 (0)) [mk 1039 (.int .i64 (0)) [var 0], .int .i64 (720)], .int .i64 (1)], .int .i64 (720)]]], mk 4 (.int .i64 (0)) [.int .i64 (1), mk 5 (.int .i64 (0)) [mk 1030 (.int .i64 (0)) [var 0], .int .i64 (40320)]]], mk 4 (.int .i64 (0)) [.int .i64 (-1), mk 5 (.int .i64 (0)) [mk 3 (.int .i64 (0)) [mk 2 (.int .i64 (0)) [mk 1043 (.int .i64 (0)) [var 0], .int .i64 (3628800)], .int .i64 (1)], .int .i64 (3628800)]]], mk 2 (.int .i64 (0)) [mk 2 (.int .i64 (0)) [mk 2 (.int .i64 (0)) [mk 2 (.int .i64 (0)) [.int .i64 (1073741824), mk 4 (.int .i64 (0)) [.int .i64 (-1), mk 5 (.int .i64 (0)) [mk 1024 (.int .i64 (0)) [var 0], .int .i64 (2)]]], mk 4 (.int .i64 (0)) [.int .i64 (1), mk 5 (.int .i64 (0)) [mk 3 (.int .i64 (0)) [mk 2 (.int .i64 (0)) [mk 1037 (.int .i64 (0)) [var 0], .int .i64 (24)], .int .i64 (1)], .int .i64 (24)]]], mk 4 (.int .i64 (0)) [.int .i64 (-1), mk 5 (.int .i64 (0)) [mk 1028 (.int .i64 (0)) [var 0], .int .i64 (720)]]], mk 4 (.int .i64 (0)) [.int .i64 (1), mk 5 (.int .i64 (0)) [mk 3 (.int .i64 (0)) [mk 2 (.int .i64 (0)) [mk 1041 (.int .i64 (0)) [var 0], .int .i64 (40320)], .int .i64 (1)], .int .i64 (40320)]]]]]⟩) (H' := []) (md := []) (by kernel_rfl) (by kernel_rfl) (by kernel_rfl) w
def es19 : List Ent := e_cosine :: es18
theorem oks19 (L : List Int) : ∀ e ∈ es19, EntOk Tryz.prog (envOf L) e := by
  intro e he
  rcases List.mem_cons.1 he with rfl | h
  · exact entOk_env rfl rfl ok_cosine
  · exact oks18 L e h
def e_first : Ent := ⟨162, [none], [.a 2], 50⟩
theorem ok_first : EntOk Tryz.prog (envOf []) e_first := by
  intro l w hl
  replace hl : l.length = 1 := hl
  obtain ⟨a0, l0, rfl, g0⟩ := list_succ hl
  obtain rfl := List.eq_nil_of_length_eq_zero g0
  have E : packV (conRs (envOf []) [a0] 50 [.a 2]) = .agg ⟨[num (s_first_0 a0), num (s_first_1 a0)]⟩ := by kernel_rfl
  show Calls Tryz.prog 162 ([num a0] : List Value).toArray w fun r w' => r = .returned (packV (conRs (envOf []) [a0] 50 [.a 2])) ∧ Below w.heap.size w w'
  rw [E]
  cases c0 : (decide (a0 ≤ 8192)) with
  | true =>
    have hs : Sat (envOf [a0]) [(mk 21 (.bool true) [var 0, .int .i64 (8192)], .bool true)] := sat_cons ⟨300, _, (show evS (envOf [a0]) 300 (mk 21 (.bool true) [var 0, .int .i64 (8192)]) = some (.bool (decide (a0 ≤ 8192))) by kernel_rfl).trans (by rw [c0]), rfl⟩ (sat_nil _)
    have h0 : (s_first_0 a0) = (s_sine_0 a0) := by simp only [s_first_0, c0, cond_true]
    have h1 : (s_first_1 a0) = (s_sine_1 a0) := by simp only [s_first_1, c0, cond_true]
    rw [h0, h1]
    exact symCall (X := xtOf [a0] [(mk 21 (.bool true) [var 0, .int .i64 (8192)], .bool true)]) Tryz.mixed Tryz.namedS (xtOf_good _ _ hs) (esc := Tryz.esc) (fuel := 200) (n := 12) (S := sumS (xtOf [a0] [(mk 21 (.bool true) [var 0, .int .i64 (8192)], .bool true)]) es19) (sumS_good hs _ (oks19 _)) (sumS_pure _ _) (f := 162) (xs := [var 0]) (v := .agg ⟨[mk 1046 (.int .i64 (0)) [var 0], mk 1047 (.int .i64 (0)) [var 0]]⟩) (H' := []) (md := []) (by kernel_rfl) (by kernel_rfl) (by kernel_rfl) w
  | false =>
    have hs : Sat (envOf [a0]) [(mk 21 (.bool true) [var 0, .int .i64 (8192)], .bool false)] := sat_cons ⟨300, _, (show evS (envOf [a0]) 300 (mk 21 (.bool true) [var 0, .int .i64 (8192)]) = some (.bool (decide (a0 ≤ 8192))) by kernel_rfl).trans (by rw [c0]), rfl⟩ (sat_nil _)
    have h0 : (s_first_0 a0) = (s_cosine_0 (wr (16384 - a0))) := by simp only [s_first_0, c0, cond_false]
    have h1 : (s_first_1 a0) = (s_cosine_1 (wr (16384 - a0))) := by simp only [s_first_1, c0, cond_false]
    rw [h0, h1]
    exact symCall (X := xtOf [a0] [(mk 21 (.bool true) [var 0, .int .i64 (8192)], .bool false)]) Tryz.mixed Tryz.namedS (xtOf_good _ _ hs) (esc := Tryz.esc) (fuel := 200) (n := 12) (S := sumS (xtOf [a0] [(mk 21 (.bool true) [var 0, .int .i64 (8192)], .bool false)]) es19) (sumS_good hs _ (oks19 _)) (sumS_pure _ _) (f := 162) (xs := [var 0]) (v := .agg ⟨[mk 1048 (.int .i64 (0)) [mk 3 (.int .i64 (0)) [.int .i64 (16384), var 0]], mk 1049 (.int .i64 (0)) [mk 3 (.int .i64 (0)) [.int .i64 (16384), var 0]]]⟩) (H' := []) (md := []) (by kernel_rfl) (by kernel_rfl) (by kernel_rfl) w
def es20 : List Ent := e_first :: es19
theorem oks20 (L : List Int) : ∀ e ∈ es20, EntOk Tryz.prog (envOf L) e := by
  intro e he
  rcases List.mem_cons.1 he with rfl | h
  · exact entOk_env rfl rfl ok_first
  · exact oks19 L e h
def e_modTurn : Ent := ⟨161, [none], [.i], 52⟩
theorem ok_modTurn : EntOk Tryz.prog (envOf []) e_modTurn := by
  intro l w hl
  replace hl : l.length = 1 := hl
  obtain ⟨a0, l0, rfl, g0⟩ := list_succ hl
  obtain rfl := List.eq_nil_of_length_eq_zero g0
  have E : packV (conRs (envOf []) [a0] 52 [.i]) = num (s_modTurn a0) := by kernel_rfl
  show Calls Tryz.prog 161 ([num a0] : List Value).toArray w fun r w' => r = .returned (packV (conRs (envOf []) [a0] 52 [.i])) ∧ Below w.heap.size w w'
  rw [E]
  have hs : Sat (envOf [a0]) [] := sat_nil _
  have h0 : (s_modTurn a0) = (band a0 65535) := by rfl
  rw [h0]
  exact symCall (X := xtOf [a0] []) Tryz.mixed Tryz.namedS (xtOf_good _ _ hs) (esc := Tryz.esc) (fuel := 200) (n := 12) (S := sumS (xtOf [a0] []) es20) (sumS_good hs _ (oks20 _)) (sumS_pure _ _) (f := 161) (xs := [var 0]) (v := mk 7 (.int .i64 (0)) [var 0, .int .i64 (65535)]) (H' := []) (md := []) (by kernel_rfl) (by kernel_rfl) (by kernel_rfl) w
def es21 : List Ent := e_modTurn :: es20
theorem oks21 (L : List Int) : ∀ e ∈ es21, EntOk Tryz.prog (envOf L) e := by
  intro e he
  rcases List.mem_cons.1 he with rfl | h
  · exact entOk_env rfl rfl ok_modTurn
  · exact oks20 L e h
def e_Sin : Ent := ⟨157, [none], [.a 2], 53⟩
theorem ok_Sin : EntOk Tryz.prog (envOf []) e_Sin := by
  intro l w hl
  replace hl : l.length = 1 := hl
  obtain ⟨a0, l0, rfl, g0⟩ := list_succ hl
  obtain rfl := List.eq_nil_of_length_eq_zero g0
  have E : packV (conRs (envOf []) [a0] 53 [.a 2]) = .agg ⟨[num (s_Sin_0 a0), num (s_Sin_1 a0)]⟩ := by kernel_rfl
  show Calls Tryz.prog 157 ([num a0] : List Value).toArray w fun r w' => r = .returned (packV (conRs (envOf []) [a0] 53 [.a 2])) ∧ Below w.heap.size w w'
  rw [E]
  cases c0 : ((wr (Int.tdiv (s_modTurn a0) 16384)) == 0) with
  | true =>
    have hs : Sat (envOf [a0]) [(mk 24 (.bool true) [mk 5 (.int .i64 (0)) [mk 1052 (.int .i64 (0)) [var 0], .int .i64 (16384)], .int .i64 (0)], .bool true)] := sat_cons ⟨300, _, (show evS (envOf [a0]) 300 (mk 24 (.bool true) [mk 5 (.int .i64 (0)) [mk 1052 (.int .i64 (0)) [var 0], .int .i64 (16384)], .int .i64 (0)]) = some (.bool ((wr (Int.tdiv (s_modTurn a0) 16384)) == 0)) by kernel_rfl).trans (by rw [c0]), rfl⟩ (sat_nil _)
    have h0 : (s_Sin_0 a0) = (s_first_0 (Int.tmod (s_modTurn a0) 16384)) := by simp only [s_Sin_0, c0, cond_true]
    have h1 : (s_Sin_1 a0) = (s_first_1 (Int.tmod (s_modTurn a0) 16384)) := by simp only [s_Sin_1, c0, cond_true]
    rw [h0, h1]
    exact symCall (X := xtOf [a0] [(mk 24 (.bool true) [mk 5 (.int .i64 (0)) [mk 1052 (.int .i64 (0)) [var 0], .int .i64 (16384)], .int .i64 (0)], .bool true)]) Tryz.mixed Tryz.namedS (xtOf_good _ _ hs) (esc := Tryz.esc) (fuel := 200) (n := 12) (S := sumS (xtOf [a0] [(mk 24 (.bool true) [mk 5 (.int .i64 (0)) [mk 1052 (.int .i64 (0)) [var 0], .int .i64 (16384)], .int .i64 (0)], .bool true)]) es21) (sumS_good hs _ (oks21 _)) (sumS_pure _ _) (f := 157) (xs := [var 0]) (v := .agg ⟨[mk 1050 (.int .i64 (0)) [mk 6 (.int .i64 (0)) [mk 1052 (.int .i64 (0)) [var 0], .int .i64 (16384)]], mk 1051 (.int .i64 (0)) [mk 6 (.int .i64 (0)) [mk 1052 (.int .i64 (0)) [var 0], .int .i64 (16384)]]]⟩) (H' := []) (md := []) (by kernel_rfl) (by kernel_rfl) (by kernel_rfl) w
  | false =>
    cases c1 : ((wr (Int.tdiv (s_modTurn a0) 16384)) == 1) with
    | true =>
      have hs : Sat (envOf [a0]) [(mk 24 (.bool true) [mk 5 (.int .i64 (0)) [mk 1052 (.int .i64 (0)) [var 0], .int .i64 (16384)], .int .i64 (0)], .bool false), (mk 24 (.bool true) [mk 5 (.int .i64 (0)) [mk 1052 (.int .i64 (0)) [var 0], .int .i64 (16384)], .int .i64 (1)], .bool true)] := sat_cons ⟨300, _, (show evS (envOf [a0]) 300 (mk 24 (.bool true) [mk 5 (.int .i64 (0)) [mk 1052 (.int .i64 (0)) [var 0], .int .i64 (16384)], .int .i64 (0)]) = some (.bool ((wr (Int.tdiv (s_modTurn a0) 16384)) == 0)) by kernel_rfl).trans (by rw [c0]), rfl⟩ (sat_cons ⟨300, _, (show evS (envOf [a0]) 300 (mk 24 (.bool true) [mk 5 (.int .i64 (0)) [mk 1052 (.int .i64 (0)) [var 0], .int .i64 (16384)], .int .i64 (1)]) = some (.bool ((wr (Int.tdiv (s_modTurn a0) 16384)) == 1)) by kernel_rfl).trans (by rw [c1]), rfl⟩ (sat_nil _))
      have h0 : (s_Sin_0 a0) = (s_first_0 (wr (16384 - (Int.tmod (s_modTurn a0) 16384)))) := by simp only [s_Sin_0, c0, c1, cond_true, cond_false]
      have h1 : (s_Sin_1 a0) = (s_first_1 (wr (16384 - (Int.tmod (s_modTurn a0) 16384)))) := by simp only [s_Sin_1, c0, c1, cond_true, cond_false]
      rw [h0, h1]
      exact symCall (X := xtOf [a0] [(mk 24 (.bool true) [mk 5 (.int .i64 (0)) [mk 1052 (.int .i64 (0)) [var 0], .int .i64 (16384)], .int .i64 (0)], .bool false), (mk 24 (.bool true) [mk 5 (.int .i64 (0)) [mk 1052 (.int .i64 (0)) [var 0], .int .i64 (16384)], .int .i64 (1)], .bool true)]) Tryz.mixed Tryz.namedS (xtOf_good _ _ hs) (esc := Tryz.esc) (fuel := 200) (n := 12) (S := sumS (xtOf [a0] [(mk 24 (.bool true) [mk 5 (.int .i64 (0)) [mk 1052 (.int .i64 (0)) [var 0], .int .i64 (16384)], .int .i64 (0)], .bool false), (mk 24 (.bool true) [mk 5 (.int .i64 (0)) [mk 1052 (.int .i64 (0)) [var 0], .int .i64 (16384)], .int .i64 (1)], .bool true)]) es21) (sumS_good hs _ (oks21 _)) (sumS_pure _ _) (f := 157) (xs := [var 0]) (v := .agg ⟨[mk 1050 (.int .i64 (0)) [mk 3 (.int .i64 (0)) [.int .i64 (16384), mk 6 (.int .i64 (0)) [mk 1052 (.int .i64 (0)) [var 0], .int .i64 (16384)]]], mk 1051 (.int .i64 (0)) [mk 3 (.int .i64 (0)) [.int .i64 (16384), mk 6 (.int .i64 (0)) [mk 1052 (.int .i64 (0)) [var 0], .int .i64 (16384)]]]]⟩) (H' := []) (md := []) (by kernel_rfl) (by kernel_rfl) (by kernel_rfl) w
    | false =>
      cases c2 : ((wr (Int.tdiv (s_modTurn a0) 16384)) == 2) with
      | true =>
        have hs : Sat (envOf [a0]) [(mk 24 (.bool true) [mk 5 (.int .i64 (0)) [mk 1052 (.int .i64 (0)) [var 0], .int .i64 (16384)], .int .i64 (0)], .bool false), (mk 24 (.bool true) [mk 5 (.int .i64 (0)) [mk 1052 (.int .i64 (0)) [var 0], .int .i64 (16384)], .int .i64 (1)], .bool false), (mk 24 (.bool true) [mk 5 (.int .i64 (0)) [mk 1052 (.int .i64 (0)) [var 0], .int .i64 (16384)], .int .i64 (2)], .bool true)] := sat_cons ⟨300, _, (show evS (envOf [a0]) 300 (mk 24 (.bool true) [mk 5 (.int .i64 (0)) [mk 1052 (.int .i64 (0)) [var 0], .int .i64 (16384)], .int .i64 (0)]) = some (.bool ((wr (Int.tdiv (s_modTurn a0) 16384)) == 0)) by kernel_rfl).trans (by rw [c0]), rfl⟩ (sat_cons ⟨300, _, (show evS (envOf [a0]) 300 (mk 24 (.bool true) [mk 5 (.int .i64 (0)) [mk 1052 (.int .i64 (0)) [var 0], .int .i64 (16384)], .int .i64 (1)]) = some (.bool ((wr (Int.tdiv (s_modTurn a0) 16384)) == 1)) by kernel_rfl).trans (by rw [c1]), rfl⟩ (sat_cons ⟨300, _, (show evS (envOf [a0]) 300 (mk 24 (.bool true) [mk 5 (.int .i64 (0)) [mk 1052 (.int .i64 (0)) [var 0], .int .i64 (16384)], .int .i64 (2)]) = some (.bool ((wr (Int.tdiv (s_modTurn a0) 16384)) == 2)) by kernel_rfl).trans (by rw [c2]), rfl⟩ (sat_nil _)))
        have h0 : (s_Sin_0 a0) = (s_iNeg_0 (s_first_0 (Int.tmod (s_modTurn a0) 16384)) (s_first_1 (Int.tmod (s_modTurn a0) 16384))) := by simp only [s_Sin_0, c0, c1, c2, cond_true, cond_false]
        have h1 : (s_Sin_1 a0) = (s_iNeg_1 (s_first_0 (Int.tmod (s_modTurn a0) 16384)) (s_first_1 (Int.tmod (s_modTurn a0) 16384))) := by simp only [s_Sin_1, c0, c1, c2, cond_true, cond_false]
        rw [h0, h1]
        exact symCall (X := xtOf [a0] [(mk 24 (.bool true) [mk 5 (.int .i64 (0)) [mk 1052 (.int .i64 (0)) [var 0], .int .i64 (16384)], .int .i64 (0)], .bool false), (mk 24 (.bool true) [mk 5 (.int .i64 (0)) [mk 1052 (.int .i64 (0)) [var 0], .int .i64 (16384)], .int .i64 (1)], .bool false), (mk 24 (.bool true) [mk 5 (.int .i64 (0)) [mk 1052 (.int .i64 (0)) [var 0], .int .i64 (16384)], .int .i64 (2)], .bool true)]) Tryz.mixed Tryz.namedS (xtOf_good _ _ hs) (esc := Tryz.esc) (fuel := 200) (n := 12) (S := sumS (xtOf [a0] [(mk 24 (.bool true) [mk 5 (.int .i64 (0)) [mk 1052 (.int .i64 (0)) [var 0], .int .i64 (16384)], .int .i64 (0)], .bool false), (mk 24 (.bool true) [mk 5 (.int .i64 (0)) [mk 1052 (.int .i64 (0)) [var 0], .int .i64 (16384)], .int .i64 (1)], .bool false), (mk 24 (.bool true) [mk 5 (.int .i64 (0)) [mk 1052 (.int .i64 (0)) [var 0], .int .i64 (16384)], .int .i64 (2)], .bool true)]) es21) (sumS_good hs _ (oks21 _)) (sumS_pure _ _) (f := 157) (xs := [var 0]) (v := .agg ⟨[mk 1013 (.int .i64 (0)) [mk 1050 (.int .i64 (0)) [mk 6 (.int .i64 (0)) [mk 1052 (.int .i64 (0)) [var 0], .int .i64 (16384)]], mk 1051 (.int .i64 (0)) [mk 6 (.int .i64 (0)) [mk 1052 (.int .i64 (0)) [var 0], .int .i64 (16384)]]], mk 1014 (.int .i64 (0)) [mk 1050 (.int .i64 (0)) [mk 6 (.int .i64 (0)) [mk 1052 (.int .i64 (0)) [var 0], .int .i64 (16384)]], mk 1051 (.int .i64 (0)) [mk 6 (.int .i64 (0)) [mk 1052 (.int .i64 (0)) [var 0], .int .i64 (16384)]]]]⟩) (H' := []) (md := []) (by kernel_rfl) (by kernel_rfl) (by kernel_rfl) w
      | false =>
        have hs : Sat (envOf [a0]) [(mk 24 (.bool true) [mk 5 (.int .i64 (0)) [mk 1052 (.int .i64 (0)) [var 0], .int .i64 (16384)], .int .i64 (0)], .bool false), (mk 24 (.bool true) [mk 5 (.int .i64 (0)) [mk 1052 (.int .i64 (0)) [var 0], .int .i64 (16384)], .int .i64 (1)], .bool false), (mk 24 (.bool true) [mk 5 (.int .i64 (0)) [mk 1052 (.int .i64 (0)) [var 0], .int .i64 (16384)], .int .i64 (2)], .bool false)] := sat_cons ⟨300, _, (show evS (envOf [a0]) 300 (mk 24 (.bool true) [mk 5 (.int .i64 (0)) [mk 1052 (.int .i64 (0)) [var 0], .int .i64 (16384)], .int .i64 (0)]) = some (.bool ((wr (Int.tdiv (s_modTurn a0) 16384)) == 0)) by kernel_rfl).trans (by rw [c0]), rfl⟩ (sat_cons ⟨300, _, (show evS (envOf [a0]) 300 (mk 24 (.bool true) [mk 5 (.int .i64 (0)) [mk 1052 (.int .i64 (0)) [var 0], .int .i64 (16384)], .int .i64 (1)]) = some (.bool ((wr (Int.tdiv (s_modTurn a0) 16384)) == 1)) by kernel_rfl).trans (by rw [c1]), rfl⟩ (sat_cons ⟨300, _, (show evS (envOf [a0]) 300 (mk 24 (.bool true) [mk 5 (.int .i64 (0)) [mk 1052 (.int .i64 (0)) [var 0], .int .i64 (16384)], .int .i64 (2)]) = some (.bool ((wr (Int.tdiv (s_modTurn a0) 16384)) == 2)) by kernel_rfl).trans (by rw [c2]), rfl⟩ (sat_nil _)))
        have h0 : (s_Sin_0 a0) = (s_iNeg_0 (s_first_0 (wr (16384 - (Int.tmod (s_modTurn a0) 16384)))) (s_first_1 (wr (16384 - (Int.tmod (s_modTurn a0) 16384))))) := by simp only [s_Sin_0, c0, c1, c2, cond_false]
        have h1 : (s_Sin_1 a0) = (s_iNeg_1 (s_first_0 (wr (16384 - (Int.tmod (s_modTurn a0) 16384)))) (s_first_1 (wr (16384 - (Int.tmod (s_modTurn a0) 16384))))) := by simp only [s_Sin_1, c0, c1, c2, cond_false]
        rw [h0, h1]
        exact symCall (X := xtOf [a0] [(mk 24 (.bool true) [mk 5 (.int .i64 (0)) [mk 1052 (.int .i64 (0)) [var 0], .int .i64 (16384)], .int .i64 (0)], .bool false), (mk 24 (.bool true) [mk 5 (.int .i64 (0)) [mk 1052 (.int .i64 (0)) [var 0], .int .i64 (16384)], .int .i64 (1)], .bool false), (mk 24 (.bool true) [mk 5 (.int .i64 (0)) [mk 1052 (.int .i64 (0)) [var 0], .int .i64 (16384)], .int .i64 (2)], .bool false)]) Tryz.mixed Tryz.namedS (xtOf_good _ _ hs) (esc := Tryz.esc) (fuel := 200) (n := 12) (S := sumS (xtOf [a0] [(mk 24 (.bool true) [mk 5 (.int .i64 (0)) [mk 1052 (.int .i64 (0)) [var 0], .int .i64 (16384)], .int .i64 (0)], .bool false), (mk 24 (.bool true) [mk 5 (.int .i64 (0)) [mk 1052 (.int .i64 (0)) [var 0], .int .i64 (16384)], .int .i64 (1)], .bool false), (mk 24 (.bool true) [mk 5 (.int .i64 (0)) [mk 1052 (.int .i64 (0)) [var 0], .int .i64 (16384)], .int .i64 (2)], .bool false)]) es21) (sumS_good hs _ (oks21 _)) (sumS_pure _ _) (f := 157) (xs := [var 0]) (v := .agg ⟨[mk 1013 (.int .i64 (0)) [mk 1050 (.int .i64 (0)) [mk 3 (.int .i64 (0)) [.int .i64 (16384), mk 6 (.int .i64 (0)) [mk 1052 (.int .i64 (0)) [var 0], .int .i64 (16384)]]], mk 1051 (.int .i64 (0)) [mk 3 (.int .i64 (0)) [.int .i64 (16384), mk 6 (.int .i64 (0)) [mk 1052 (.int .i64 (0)) [var 0], .int .i64 (16384)]]]], mk 1014 (.int .i64 (0)) [mk 1050 (.int .i64 (0)) [mk 3 (.int .i64 (0)) [.int .i64 (16384), mk 6 (.int .i64 (0)) [mk 1052 (.int .i64 (0)) [var 0], .int .i64 (16384)]]], mk 1051 (.int .i64 (0)) [mk 3 (.int .i64 (0)) [.int .i64 (16384), mk 6 (.int .i64 (0)) [mk 1052 (.int .i64 (0)) [var 0], .int .i64 (16384)]]]]]⟩) (H' := []) (md := []) (by kernel_rfl) (by kernel_rfl) (by kernel_rfl) w
def es22 : List Ent := e_Sin :: es21
theorem oks22 (L : List Int) : ∀ e ∈ es22, EntOk Tryz.prog (envOf L) e := by
  intro e he
  rcases List.mem_cons.1 he with rfl | h
  · exact entOk_env rfl rfl ok_Sin
  · exact oks21 L e h
def e_Cos : Ent := ⟨156, [none], [.a 2], 55⟩
theorem ok_Cos : EntOk Tryz.prog (envOf []) e_Cos := by
  intro l w hl
  replace hl : l.length = 1 := hl
  obtain ⟨a0, l0, rfl, g0⟩ := list_succ hl
  obtain rfl := List.eq_nil_of_length_eq_zero g0
  have E : packV (conRs (envOf []) [a0] 55 [.a 2]) = .agg ⟨[num (s_Cos_0 a0), num (s_Cos_1 a0)]⟩ := by kernel_rfl
  show Calls Tryz.prog 156 ([num a0] : List Value).toArray w fun r w' => r = .returned (packV (conRs (envOf []) [a0] 55 [.a 2])) ∧ Below w.heap.size w w'
  rw [E]
  have hs : Sat (envOf [a0]) [] := sat_nil _
  have h0 : (s_Cos_0 a0) = (s_Sin_0 (wr ((s_modTurn a0) + 16384))) := by rfl
  have h1 : (s_Cos_1 a0) = (s_Sin_1 (wr ((s_modTurn a0) + 16384))) := by rfl
  rw [h0, h1]
  exact symCall (X := xtOf [a0] []) Tryz.mixed Tryz.namedS (xtOf_good _ _ hs) (esc := Tryz.esc) (fuel := 200) (n := 12) (S := sumS (xtOf [a0] []) es22) (sumS_good hs _ (oks22 _)) (sumS_pure _ _) (f := 156) (xs := [var 0]) (v := .agg ⟨[mk 1053 (.int .i64 (0)) [mk 2 (.int .i64 (0)) [mk 1052 (.int .i64 (0)) [var 0], .int .i64 (16384)]], mk 1054 (.int .i64 (0)) [mk 2 (.int .i64 (0)) [mk 1052 (.int .i64 (0)) [var 0], .int .i64 (16384)]]]⟩) (H' := []) (md := []) (by kernel_rfl) (by kernel_rfl) (by kernel_rfl) w
def es23 : List Ent := e_Cos :: es22
theorem oks23 (L : List Int) : ∀ e ∈ es23, EntOk Tryz.prog (envOf L) e := by
  intro e he
  rcases List.mem_cons.1 he with rfl | h
  · exact entOk_env rfl rfl ok_Cos
  · exact oks22 L e h
def e_meets : Ent := ⟨160, [some 2, none], [.b], 57⟩
theorem ok_meets : EntOk Tryz.prog (envOf []) e_meets := by
  intro l w hl
  replace hl : l.length = 3 := hl
  obtain ⟨a0, l0, rfl, g0⟩ := list_succ hl
  obtain ⟨a1, l1, rfl, g1⟩ := list_succ g0
  obtain ⟨a2, l2, rfl, g2⟩ := list_succ g1
  obtain rfl := List.eq_nil_of_length_eq_zero g2
  have E : packV (conRs (envOf []) [a0, a1, a2] 57 [.b]) = .bool (s_meets a0 a1 a2) := by kernel_rfl
  show Calls Tryz.prog 160 ([.agg ⟨[num a0, num a1]⟩, num a2] : List Value).toArray w fun r w' => r = .returned (packV (conRs (envOf []) [a0, a1, a2] 57 [.b])) ∧ Below w.heap.size w w'
  rw [E]
  have hs : Sat (envOf [a0, a1, a2]) [] := sat_nil _
  have h0 : (s_meets a0 a1 a2) = (s_iHas a0 a1 (wr (a0 + (s_modTurn (wr (a2 - a0)))))) := by rfl
  rw [h0]
  exact symCall (X := xtOf [a0, a1, a2] []) Tryz.mixed Tryz.namedS (xtOf_good _ _ hs) (esc := Tryz.esc) (fuel := 200) (n := 12) (S := sumS (xtOf [a0, a1, a2] []) es23) (sumS_good hs _ (oks23 _)) (sumS_pure _ _) (f := 160) (xs := [.agg ⟨[var 0, var 1]⟩, var 2]) (v := mk 1019 (.bool true) [var 0, var 1, mk 2 (.int .i64 (0)) [var 0, mk 1052 (.int .i64 (0)) [mk 3 (.int .i64 (0)) [var 2, var 0]]]]) (H' := []) (md := []) (by kernel_rfl) (by kernel_rfl) (by kernel_rfl) w
def es24 : List Ent := e_meets :: es23
theorem oks24 (L : List Int) : ∀ e ∈ es24, EntOk Tryz.prog (envOf L) e := by
  intro e he
  rcases List.mem_cons.1 he with rfl | h
  · exact entOk_env rfl rfl ok_meets
  · exact oks23 L e h
def e_SinOver : Ent := ⟨153, [some 2], [.a 2], 58⟩
theorem ok_SinOver : EntOk Tryz.prog (envOf []) e_SinOver := by
  intro l w hl
  replace hl : l.length = 2 := hl
  obtain ⟨a0, l0, rfl, g0⟩ := list_succ hl
  obtain ⟨a1, l1, rfl, g1⟩ := list_succ g0
  obtain rfl := List.eq_nil_of_length_eq_zero g1
  have E : packV (conRs (envOf []) [a0, a1] 58 [.a 2]) = .agg ⟨[num (s_SinOver_0 a0 a1), num (s_SinOver_1 a0 a1)]⟩ := by kernel_rfl
  show Calls Tryz.prog 153 ([.agg ⟨[num a0, num a1]⟩] : List Value).toArray w fun r w' => r = .returned (packV (conRs (envOf []) [a0, a1] 58 [.a 2])) ∧ Below w.heap.size w w'
  rw [E]
  cases c0 : (s_Valid a0 a1) with
  | true =>
    cases c1 : (decide (65536 ≤ (s_iWidth a0 a1))) with
    | true =>
      have hs : Sat (envOf [a0, a1]) [(mk 1003 (.bool true) [var 0, var 1], .bool true), (mk 23 (.bool true) [mk 1021 (.int .i64 (0)) [var 0, var 1], .int .i64 (65536)], .bool true)] := sat_cons ⟨300, _, (show evS (envOf [a0, a1]) 300 (mk 1003 (.bool true) [var 0, var 1]) = some (.bool (s_Valid a0 a1)) by kernel_rfl).trans (by rw [c0]), rfl⟩ (sat_cons ⟨300, _, (show evS (envOf [a0, a1]) 300 (mk 23 (.bool true) [mk 1021 (.int .i64 (0)) [var 0, var 1], .int .i64 (65536)]) = some (.bool (decide (65536 ≤ (s_iWidth a0 a1)))) by kernel_rfl).trans (by rw [c1]), rfl⟩ (sat_nil _))
      have h0 : (s_SinOver_0 a0 a1) = (-65536) := by simp only [s_SinOver_0, c0, c1, cond_true]
      have h1 : (s_SinOver_1 a0 a1) = 65536 := by simp only [s_SinOver_1, c0, c1, cond_true]
      rw [h0, h1]
      exact symCall (X := xtOf [a0, a1] [(mk 1003 (.bool true) [var 0, var 1], .bool true), (mk 23 (.bool true) [mk 1021 (.int .i64 (0)) [var 0, var 1], .int .i64 (65536)], .bool true)]) Tryz.mixed Tryz.namedS (xtOf_good _ _ hs) (esc := Tryz.esc) (fuel := 200) (n := 12) (S := sumS (xtOf [a0, a1] [(mk 1003 (.bool true) [var 0, var 1], .bool true), (mk 23 (.bool true) [mk 1021 (.int .i64 (0)) [var 0, var 1], .int .i64 (65536)], .bool true)]) es24) (sumS_good hs _ (oks24 _)) (sumS_pure _ _) (f := 153) (xs := [.agg ⟨[var 0, var 1]⟩]) (v := .agg ⟨[.int .i64 (-65536), .int .i64 (65536)]⟩) (H' := []) (md := []) (by kernel_rfl) (by kernel_rfl) (by kernel_rfl) w
    | false =>
      cases c2 : (s_meets a0 a1 16384) with
      | true =>
        cases c3 : (s_meets a0 a1 49152) with
        | true =>
          have hs : Sat (envOf [a0, a1]) [(mk 1003 (.bool true) [var 0, var 1], .bool true), (mk 23 (.bool true) [mk 1021 (.int .i64 (0)) [var 0, var 1], .int .i64 (65536)], .bool false), (mk 1057 (.bool true) [var 0, var 1, .int .i64 (16384)], .bool true), (mk 1057 (.bool true) [var 0, var 1, .int .i64 (49152)], .bool true)] := sat_cons ⟨300, _, (show evS (envOf [a0, a1]) 300 (mk 1003 (.bool true) [var 0, var 1]) = some (.bool (s_Valid a0 a1)) by kernel_rfl).trans (by rw [c0]), rfl⟩ (sat_cons ⟨300, _, (show evS (envOf [a0, a1]) 300 (mk 23 (.bool true) [mk 1021 (.int .i64 (0)) [var 0, var 1], .int .i64 (65536)]) = some (.bool (decide (65536 ≤ (s_iWidth a0 a1)))) by kernel_rfl).trans (by rw [c1]), rfl⟩ (sat_cons ⟨300, _, (show evS (envOf [a0, a1]) 300 (mk 1057 (.bool true) [var 0, var 1, .int .i64 (16384)]) = some (.bool (s_meets a0 a1 16384)) by kernel_rfl).trans (by rw [c2]), rfl⟩ (sat_cons ⟨300, _, (show evS (envOf [a0, a1]) 300 (mk 1057 (.bool true) [var 0, var 1, .int .i64 (49152)]) = some (.bool (s_meets a0 a1 49152)) by kernel_rfl).trans (by rw [c3]), rfl⟩ (sat_nil _))))
          have h0 : (s_SinOver_0 a0 a1) = (s_iHull_0 (s_iHull_0 (s_iHull_0 (s_Sin_0 a0) (s_Sin_1 a0) (s_Sin_0 a1) (s_Sin_1 a1)) (s_iHull_1 (s_Sin_0 a0) (s_Sin_1 a0) (s_Sin_0 a1) (s_Sin_1 a1)) 65536 65536) (s_iHull_1 (s_iHull_0 (s_Sin_0 a0) (s_Sin_1 a0) (s_Sin_0 a1) (s_Sin_1 a1)) (s_iHull_1 (s_Sin_0 a0) (s_Sin_1 a0) (s_Sin_0 a1) (s_Sin_1 a1)) 65536 65536) (-65536) (-65536)) := by simp only [s_SinOver_0, c0, c1, c2, c3, cond_true, cond_false]
          have h1 : (s_SinOver_1 a0 a1) = (s_iHull_1 (s_iHull_0 (s_iHull_0 (s_Sin_0 a0) (s_Sin_1 a0) (s_Sin_0 a1) (s_Sin_1 a1)) (s_iHull_1 (s_Sin_0 a0) (s_Sin_1 a0) (s_Sin_0 a1) (s_Sin_1 a1)) 65536 65536) (s_iHull_1 (s_iHull_0 (s_Sin_0 a0) (s_Sin_1 a0) (s_Sin_0 a1) (s_Sin_1 a1)) (s_iHull_1 (s_Sin_0 a0) (s_Sin_1 a0) (s_Sin_0 a1) (s_Sin_1 a1)) 65536 65536) (-65536) (-65536)) := by simp only [s_SinOver_1, c0, c1, c2, c3, cond_true, cond_false]
          rw [h0, h1]
          exact symCall (X := xtOf [a0, a1] [(mk 1003 (.bool true) [var 0, var 1], .bool true), (mk 23 (.bool true) [mk 1021 (.int .i64 (0)) [var 0, var 1], .int .i64 (65536)], .bool false), (mk 1057 (.bool true) [var 0, var 1, .int .i64 (16384)], .bool true), (mk 1057 (.bool true) [var 0, var 1, .int .i64 (49152)], .bool true)]) Tryz.mixed Tryz.namedS (xtOf_good _ _ hs) (esc := Tryz.esc) (fuel := 200) (n := 12) (S := sumS (xtOf [a0, a1] [(mk 1003 (.bool true) [var 0, var 1], .bool true), (mk 23 (.bool true) [mk 1021 (.int .i64 (0)) [var 0, var 1], .int .i64 (65536)], .bool false), (mk 1057 (.bool true) [var 0, var 1, .int .i64 (16384)], .bool true), (mk 1057 (.bool true) [var 0, var 1, .int .i64 (49152)], .bool true)]) es24) (sumS_good hs _ (oks24 _)) (sumS_pure _ _) (f := 153) (xs := [.agg ⟨[var 0, var 1]⟩]) (v := .agg ⟨[mk 1017 (.int .i64 (0)) [mk 1017 (.int .i64 (0)) [mk 1017 (.int .i64 (0)) [mk 1053 (.int .i64 (0)) [var 0], mk 1054 (.int .i64 (0)) [var 0], mk 1053 (.int .i64 (0)) [var 1], mk 1054 (.int .i64 (0)) [var 1]], mk 1018 (.int .i64 (0)) [mk 1053 (.int .i64 (0)) [var 0], mk 1054 (.int .i64 (0)) [var 0], mk 1053 (.int .i64 (0)) [var 1], mk 1054 (.int .i64 (0)) [var 1]], .int .i64 (65536), .int .i64 (65536)], mk 1018 (.int .i64 (0)) [mk 1017 (.int .i64 (0)) [mk 1053 (.int .i64 (0)) [var 0], mk 1054 (.int .i64 (0)) [var 0], mk 1053 (.int .i64 (0)) [var 1], mk 1054 (.int .i64 (0)) [var 1]], mk 1018 (.int .i64 (0)) [mk 1053 (.int .i64 (0)) [var 0], mk 1054 (.int .i64 (0)) [var 0], mk 1053 (.int .i64 (0)) [var 1], mk 1054 (.int .i64 (0)) [var 1]], .int .i64 (65536), .int .i64 (65536)], .int .i64 (-65536), .int .i64 (-65536)], mk 1018 (.int .i64 (0)) [mk 1017 (.int .i64 (0)) [mk 1017 (.int .i64 (0)) [mk 1053 (.int .i64 (0)) [var 0], mk 1054 (.int .i64 (0)) [var 0], mk 1053 (.int .i64 (0)) [var 1], mk 1054 (.int .i64 (0)) [var 1]], mk 1018 (.int .i64 (0)) [mk 1053 (.int .i64 (0)) [var 0], mk 1054 (.int .i64 (0)) [var 0], mk 1053 (.int .i64 (0)) [var 1], mk 1054 (.int .i64 (0)) [var 1]], .int .i64 (65536), .int .i64 (65536)], mk 1018 (.int .i64 (0)) [mk 1017 (.int .i64 (0)) [mk 1053 (.int .i64 (0)) [var 0], mk 1054 (.int .i64 (0)) [var 0], mk 1053 (.int .i64 (0)) [var 1], mk 1054 (.int .i64 (0)) [var 1]], mk 1018 (.int .i64 (0)) [mk 1053 (.int .i64 (0)) [var 0], mk 1054 (.int .i64 (0)) [var 0], mk 1053 (.int .i64 (0)) [var 1], mk 1054 (.int .i64 (0)) [var 1]], .int .i64 (65536), .int .i64 (65536)], .int .i64 (-65536), .int .i64 (-65536)]]⟩) (H' := []) (md := []) (by kernel_rfl) (by kernel_rfl) (by kernel_rfl) w
        | false =>
          have hs : Sat (envOf [a0, a1]) [(mk 1003 (.bool true) [var 0, var 1], .bool true), (mk 23 (.bool true) [mk 1021 (.int .i64 (0)) [var 0, var 1], .int .i64 (65536)], .bool false), (mk 1057 (.bool true) [var 0, var 1, .int .i64 (16384)], .bool true), (mk 1057 (.bool true) [var 0, var 1, .int .i64 (49152)], .bool false)] := sat_cons ⟨300, _, (show evS (envOf [a0, a1]) 300 (mk 1003 (.bool true) [var 0, var 1]) = some (.bool (s_Valid a0 a1)) by kernel_rfl).trans (by rw [c0]), rfl⟩ (sat_cons ⟨300, _, (show evS (envOf [a0, a1]) 300 (mk 23 (.bool true) [mk 1021 (.int .i64 (0)) [var 0, var 1], .int .i64 (65536)]) = some (.bool (decide (65536 ≤ (s_iWidth a0 a1)))) by kernel_rfl).trans (by rw [c1]), rfl⟩ (sat_cons ⟨300, _, (show evS (envOf [a0, a1]) 300 (mk 1057 (.bool true) [var 0, var 1, .int .i64 (16384)]) = some (.bool (s_meets a0 a1 16384)) by kernel_rfl).trans (by rw [c2]), rfl⟩ (sat_cons ⟨300, _, (show evS (envOf [a0, a1]) 300 (mk 1057 (.bool true) [var 0, var 1, .int .i64 (49152)]) = some (.bool (s_meets a0 a1 49152)) by kernel_rfl).trans (by rw [c3]), rfl⟩ (sat_nil _))))
          have h0 : (s_SinOver_0 a0 a1) = (s_iHull_0 (s_iHull_0 (s_Sin_0 a0) (s_Sin_1 a0) (s_Sin_0 a1) (s_Sin_1 a1)) (s_iHull_1 (s_Sin_0 a0) (s_Sin_1 a0) (s_Sin_0 a1) (s_Sin_1 a1)) 65536 65536) := by simp only [s_SinOver_0, c0, c1, c2, c3, cond_true, cond_false]
          have h1 : (s_SinOver_1 a0 a1) = (s_iHull_1 (s_iHull_0 (s_Sin_0 a0) (s_Sin_1 a0) (s_Sin_0 a1) (s_Sin_1 a1)) (s_iHull_1 (s_Sin_0 a0) (s_Sin_1 a0) (s_Sin_0 a1) (s_Sin_1 a1)) 65536 65536) := by simp only [s_SinOver_1, c0, c1, c2, c3, cond_true, cond_false]
          rw [h0, h1]
          exact symCall (X := xtOf [a0, a1] [(mk 1003 (.bool true) [var 0, var 1], .bool true), (mk 23 (.bool true) [mk 1021 (.int .i64 (0)) [var 0, var 1], .int .i64 (65536)], .bool false), (mk 1057 (.bool true) [var 0, var 1, .int .i64 (16384)], .bool true), (mk 1057 (.bool true) [var 0, var 1, .int .i64 (49152)], .bool false)]) Tryz.mixed Tryz.namedS (xtOf_good _ _ hs) (esc := Tryz.esc) (fuel := 200) (n := 12) (S := sumS (xtOf [a0, a1] [(mk 1003 (.bool true) [var 0, var 1], .bool true), (mk 23 (.bool true) [mk 1021 (.int .i64 (0)) [var 0, var 1], .int .i64 (65536)], .bool false), (mk 1057 (.bool true) [var 0, var 1, .int .i64 (16384)], .bool true), (mk 1057 (.bool true) [var 0, var 1, .int .i64 (49152)], .bool false)]) es24) (sumS_good hs _ (oks24 _)) (sumS_pure _ _) (f := 153) (xs := [.agg ⟨[var 0, var 1]⟩]) (v := .agg ⟨[mk 1017 (.int .i64 (0)) [mk 1017 (.int .i64 (0)) [mk 1053 (.int .i64 (0)) [var 0], mk 1054 (.int .i64 (0)) [var 0], mk 1053 (.int .i64 (0)) [var 1], mk 1054 (.int .i64 (0)) [var 1]], mk 1018 (.int .i64 (0)) [mk 1053 (.int .i64 (0)) [var 0], mk 1054 (.int .i64 (0)) [var 0], mk 1053 (.int .i64 (0)) [var 1], mk 1054 (.int .i64 (0)) [var 1]], .int .i64 (65536), .int .i64 (65536)], mk 1018 (.int .i64 (0)) [mk 1017 (.int .i64 (0)) [mk 1053 (.int .i64 (0)) [var 0], mk 1054 (.int .i64 (0)) [var 0], mk 1053 (.int .i64 (0)) [var 1], mk 1054 (.int .i64 (0)) [var 1]], mk 1018 (.int .i64 (0)) [mk 1053 (.int .i64 (0)) [var 0], mk 1054 (.int .i64 (0)) [var 0], mk 1053 (.int .i64 (0)) [var 1], mk 1054 (.int .i64 (0)) [var 1]], .int .i64 (65536), .int .i64 (65536)]]⟩) (H' := []) (md := []) (by kernel_rfl) (by kernel_rfl) (by kernel_rfl) w
      | false =>
        cases c3 : (s_meets a0 a1 49152) with
        | true =>
          have hs : Sat (envOf [a0, a1]) [(mk 1003 (.bool true) [var 0, var 1], .bool true), (mk 23 (.bool true) [mk 1021 (.int .i64 (0)) [var 0, var 1], .int .i64 (65536)], .bool false), (mk 1057 (.bool true) [var 0, var 1, .int .i64 (16384)], .bool false), (mk 1057 (.bool true) [var 0, var 1, .int .i64 (49152)], .bool true)] := sat_cons ⟨300, _, (show evS (envOf [a0, a1]) 300 (mk 1003 (.bool true) [var 0, var 1]) = some (.bool (s_Valid a0 a1)) by kernel_rfl).trans (by rw [c0]), rfl⟩ (sat_cons ⟨300, _, (show evS (envOf [a0, a1]) 300 (mk 23 (.bool true) [mk 1021 (.int .i64 (0)) [var 0, var 1], .int .i64 (65536)]) = some (.bool (decide (65536 ≤ (s_iWidth a0 a1)))) by kernel_rfl).trans (by rw [c1]), rfl⟩ (sat_cons ⟨300, _, (show evS (envOf [a0, a1]) 300 (mk 1057 (.bool true) [var 0, var 1, .int .i64 (16384)]) = some (.bool (s_meets a0 a1 16384)) by kernel_rfl).trans (by rw [c2]), rfl⟩ (sat_cons ⟨300, _, (show evS (envOf [a0, a1]) 300 (mk 1057 (.bool true) [var 0, var 1, .int .i64 (49152)]) = some (.bool (s_meets a0 a1 49152)) by kernel_rfl).trans (by rw [c3]), rfl⟩ (sat_nil _))))
          have h0 : (s_SinOver_0 a0 a1) = (s_iHull_0 (s_iHull_0 (s_Sin_0 a0) (s_Sin_1 a0) (s_Sin_0 a1) (s_Sin_1 a1)) (s_iHull_1 (s_Sin_0 a0) (s_Sin_1 a0) (s_Sin_0 a1) (s_Sin_1 a1)) (-65536) (-65536)) := by simp only [s_SinOver_0, c0, c1, c2, c3, cond_true, cond_false]
          have h1 : (s_SinOver_1 a0 a1) = (s_iHull_1 (s_iHull_0 (s_Sin_0 a0) (s_Sin_1 a0) (s_Sin_0 a1) (s_Sin_1 a1)) (s_iHull_1 (s_Sin_0 a0) (s_Sin_1 a0) (s_Sin_0 a1) (s_Sin_1 a1)) (-65536) (-65536)) := by simp only [s_SinOver_1, c0, c1, c2, c3, cond_true, cond_false]
          rw [h0, h1]
          exact symCall (X := xtOf [a0, a1] [(mk 1003 (.bool true) [var 0, var 1], .bool true), (mk 23 (.bool true) [mk 1021 (.int .i64 (0)) [var 0, var 1], .int .i64 (65536)], .bool false), (mk 1057 (.bool true) [var 0, var 1, .int .i64 (16384)], .bool false), (mk 1057 (.bool true) [var 0, var 1, .int .i64 (49152)], .bool true)]) Tryz.mixed Tryz.namedS (xtOf_good _ _ hs) (esc := Tryz.esc) (fuel := 200) (n := 12) (S := sumS (xtOf [a0, a1] [(mk 1003 (.bool true) [var 0, var 1], .bool true), (mk 23 (.bool true) [mk 1021 (.int .i64 (0)) [var 0, var 1], .int .i64 (65536)], .bool false), (mk 1057 (.bool true) [var 0, var 1, .int .i64 (16384)], .bool false), (mk 1057 (.bool true) [var 0, var 1, .int .i64 (49152)], .bool true)]) es24) (sumS_good hs _ (oks24 _)) (sumS_pure _ _) (f := 153) (xs := [.agg ⟨[var 0, var 1]⟩]) (v := .agg ⟨[mk 1017 (.int .i64 (0)) [mk 1017 (.int .i64 (0)) [mk 1053 (.int .i64 (0)) [var 0], mk 1054 (.int .i64 (0)) [var 0], mk 1053 (.int .i64 (0)) [var 1], mk 1054 (.int .i64 (0)) [var 1]], mk 1018 (.int .i64 (0)) [mk 1053 (.int .i64 (0)) [var 0], mk 1054 (.int .i64 (0)) [var 0], mk 1053 (.int .i64 (0)) [var 1], mk 1054 (.int .i64 (0)) [var 1]], .int .i64 (-65536), .int .i64 (-65536)], mk 1018 (.int .i64 (0)) [mk 1017 (.int .i64 (0)) [mk 1053 (.int .i64 (0)) [var 0], mk 1054 (.int .i64 (0)) [var 0], mk 1053 (.int .i64 (0)) [var 1], mk 1054 (.int .i64 (0)) [var 1]], mk 1018 (.int .i64 (0)) [mk 1053 (.int .i64 (0)) [var 0], mk 1054 (.int .i64 (0)) [var 0], mk 1053 (.int .i64 (0)) [var 1], mk 1054 (.int .i64 (0)) [var 1]], .int .i64 (-65536), .int .i64 (-65536)]]⟩) (H' := []) (md := []) (by kernel_rfl) (by kernel_rfl) (by kernel_rfl) w
        | false =>
          have hs : Sat (envOf [a0, a1]) [(mk 1003 (.bool true) [var 0, var 1], .bool true), (mk 23 (.bool true) [mk 1021 (.int .i64 (0)) [var 0, var 1], .int .i64 (65536)], .bool false), (mk 1057 (.bool true) [var 0, var 1, .int .i64 (16384)], .bool false), (mk 1057 (.bool true) [var 0, var 1, .int .i64 (49152)], .bool false)] := sat_cons ⟨300, _, (show evS (envOf [a0, a1]) 300 (mk 1003 (.bool true) [var 0, var 1]) = some (.bool (s_Valid a0 a1)) by kernel_rfl).trans (by rw [c0]), rfl⟩ (sat_cons ⟨300, _, (show evS (envOf [a0, a1]) 300 (mk 23 (.bool true) [mk 1021 (.int .i64 (0)) [var 0, var 1], .int .i64 (65536)]) = some (.bool (decide (65536 ≤ (s_iWidth a0 a1)))) by kernel_rfl).trans (by rw [c1]), rfl⟩ (sat_cons ⟨300, _, (show evS (envOf [a0, a1]) 300 (mk 1057 (.bool true) [var 0, var 1, .int .i64 (16384)]) = some (.bool (s_meets a0 a1 16384)) by kernel_rfl).trans (by rw [c2]), rfl⟩ (sat_cons ⟨300, _, (show evS (envOf [a0, a1]) 300 (mk 1057 (.bool true) [var 0, var 1, .int .i64 (49152)]) = some (.bool (s_meets a0 a1 49152)) by kernel_rfl).trans (by rw [c3]), rfl⟩ (sat_nil _))))
          have h0 : (s_SinOver_0 a0 a1) = (s_iHull_0 (s_Sin_0 a0) (s_Sin_1 a0) (s_Sin_0 a1) (s_Sin_1 a1)) := by simp only [s_SinOver_0, c0, c1, c2, c3, cond_true, cond_false]
          have h1 : (s_SinOver_1 a0 a1) = (s_iHull_1 (s_Sin_0 a0) (s_Sin_1 a0) (s_Sin_0 a1) (s_Sin_1 a1)) := by simp only [s_SinOver_1, c0, c1, c2, c3, cond_true, cond_false]
          rw [h0, h1]
          exact symCall (X := xtOf [a0, a1] [(mk 1003 (.bool true) [var 0, var 1], .bool true), (mk 23 (.bool true) [mk 1021 (.int .i64 (0)) [var 0, var 1], .int .i64 (65536)], .bool false), (mk 1057 (.bool true) [var 0, var 1, .int .i64 (16384)], .bool false), (mk 1057 (.bool true) [var 0, var 1, .int .i64 (49152)], .bool false)]) Tryz.mixed Tryz.namedS (xtOf_good _ _ hs) (esc := Tryz.esc) (fuel := 200) (n := 12) (S := sumS (xtOf [a0, a1] [(mk 1003 (.bool true) [var 0, var 1], .bool true), (mk 23 (.bool true) [mk 1021 (.int .i64 (0)) [var 0, var 1], .int .i64 (65536)], .bool false), (mk 1057 (.bool true) [var 0, var 1, .int .i64 (16384)], .bool false), (mk 1057 (.bool true) [var 0, var 1, .int .i64 (49152)], .bool false)]) es24) (sumS_good hs _ (oks24 _)) (sumS_pure _ _) (f := 153) (xs := [.agg ⟨[var 0, var 1]⟩]) (v := .agg ⟨[mk 1017 (.int .i64 (0)) [mk 1053 (.int .i64 (0)) [var 0], mk 1054 (.int .i64 (0)) [var 0], mk 1053 (.int .i64 (0)) [var 1], mk 1054 (.int .i64 (0)) [var 1]], mk 1018 (.int .i64 (0)) [mk 1053 (.int .i64 (0)) [var 0], mk 1054 (.int .i64 (0)) [var 0], mk 1053 (.int .i64 (0)) [var 1], mk 1054 (.int .i64 (0)) [var 1]]]⟩) (H' := []) (md := []) (by kernel_rfl) (by kernel_rfl) (by kernel_rfl) w
  | false =>
    have hs : Sat (envOf [a0, a1]) [(mk 1003 (.bool true) [var 0, var 1], .bool false)] := sat_cons ⟨300, _, (show evS (envOf [a0, a1]) 300 (mk 1003 (.bool true) [var 0, var 1]) = some (.bool (s_Valid a0 a1)) by kernel_rfl).trans (by rw [c0]), rfl⟩ (sat_nil _)
    have h0 : (s_SinOver_0 a0 a1) = 0 := by simp only [s_SinOver_0, c0, cond_false]
    have h1 : (s_SinOver_1 a0 a1) = 0 := by simp only [s_SinOver_1, c0, cond_false]
    rw [h0, h1]
    exact symCall (X := xtOf [a0, a1] [(mk 1003 (.bool true) [var 0, var 1], .bool false)]) Tryz.mixed Tryz.namedS (xtOf_good _ _ hs) (esc := Tryz.esc) (fuel := 200) (n := 12) (S := sumS (xtOf [a0, a1] [(mk 1003 (.bool true) [var 0, var 1], .bool false)]) es24) (sumS_good hs _ (oks24 _)) (sumS_pure _ _) (f := 153) (xs := [.agg ⟨[var 0, var 1]⟩]) (v := .agg ⟨[.int .i64 (0), .int .i64 (0)]⟩) (H' := []) (md := []) (by kernel_rfl) (by kernel_rfl) (by kernel_rfl) w
def es25 : List Ent := e_SinOver :: es24
theorem oks25 (L : List Int) : ∀ e ∈ es25, EntOk Tryz.prog (envOf L) e := by
  intro e he
  rcases List.mem_cons.1 he with rfl | h
  · exact entOk_env rfl rfl ok_SinOver
  · exact oks24 L e h
def e_CosOver : Ent := ⟨152, [some 2], [.a 2], 60⟩
theorem ok_CosOver : EntOk Tryz.prog (envOf []) e_CosOver := by
  intro l w hl
  replace hl : l.length = 2 := hl
  obtain ⟨a0, l0, rfl, g0⟩ := list_succ hl
  obtain ⟨a1, l1, rfl, g1⟩ := list_succ g0
  obtain rfl := List.eq_nil_of_length_eq_zero g1
  have E : packV (conRs (envOf []) [a0, a1] 60 [.a 2]) = .agg ⟨[num (s_CosOver_0 a0 a1), num (s_CosOver_1 a0 a1)]⟩ := by kernel_rfl
  show Calls Tryz.prog 152 ([.agg ⟨[num a0, num a1]⟩] : List Value).toArray w fun r w' => r = .returned (packV (conRs (envOf []) [a0, a1] 60 [.a 2])) ∧ Below w.heap.size w w'
  rw [E]
  cases c0 : (s_Valid a0 a1) with
  | true =>
    cases c1 : (decide (65536 ≤ (s_iWidth a0 a1))) with
    | true =>
      have hs : Sat (envOf [a0, a1]) [(mk 1003 (.bool true) [var 0, var 1], .bool true), (mk 23 (.bool true) [mk 1021 (.int .i64 (0)) [var 0, var 1], .int .i64 (65536)], .bool true)] := sat_cons ⟨300, _, (show evS (envOf [a0, a1]) 300 (mk 1003 (.bool true) [var 0, var 1]) = some (.bool (s_Valid a0 a1)) by kernel_rfl).trans (by rw [c0]), rfl⟩ (sat_cons ⟨300, _, (show evS (envOf [a0, a1]) 300 (mk 23 (.bool true) [mk 1021 (.int .i64 (0)) [var 0, var 1], .int .i64 (65536)]) = some (.bool (decide (65536 ≤ (s_iWidth a0 a1)))) by kernel_rfl).trans (by rw [c1]), rfl⟩ (sat_nil _))
      have h0 : (s_CosOver_0 a0 a1) = (-65536) := by simp only [s_CosOver_0, c0, c1, cond_true]
      have h1 : (s_CosOver_1 a0 a1) = 65536 := by simp only [s_CosOver_1, c0, c1, cond_true]
      rw [h0, h1]
      exact symCall (X := xtOf [a0, a1] [(mk 1003 (.bool true) [var 0, var 1], .bool true), (mk 23 (.bool true) [mk 1021 (.int .i64 (0)) [var 0, var 1], .int .i64 (65536)], .bool true)]) Tryz.mixed Tryz.namedS (xtOf_good _ _ hs) (esc := Tryz.esc) (fuel := 200) (n := 12) (S := sumS (xtOf [a0, a1] [(mk 1003 (.bool true) [var 0, var 1], .bool true), (mk 23 (.bool true) [mk 1021 (.int .i64 (0)) [var 0, var 1], .int .i64 (65536)], .bool true)]) es25) (sumS_good hs _ (oks25 _)) (sumS_pure _ _) (f := 152) (xs := [.agg ⟨[var 0, var 1]⟩]) (v := .agg ⟨[.int .i64 (-65536), .int .i64 (65536)]⟩) (H' := []) (md := []) (by kernel_rfl) (by kernel_rfl) (by kernel_rfl) w
    | false =>
      cases c2 : (s_meets a0 a1 0) with
      | true =>
        cases c3 : (s_meets a0 a1 32768) with
        | true =>
          have hs : Sat (envOf [a0, a1]) [(mk 1003 (.bool true) [var 0, var 1], .bool true), (mk 23 (.bool true) [mk 1021 (.int .i64 (0)) [var 0, var 1], .int .i64 (65536)], .bool false), (mk 1057 (.bool true) [var 0, var 1, .int .i64 (0)], .bool true), (mk 1057 (.bool true) [var 0, var 1, .int .i64 (32768)], .bool true)] := sat_cons ⟨300, _, (show evS (envOf [a0, a1]) 300 (mk 1003 (.bool true) [var 0, var 1]) = some (.bool (s_Valid a0 a1)) by kernel_rfl).trans (by rw [c0]), rfl⟩ (sat_cons ⟨300, _, (show evS (envOf [a0, a1]) 300 (mk 23 (.bool true) [mk 1021 (.int .i64 (0)) [var 0, var 1], .int .i64 (65536)]) = some (.bool (decide (65536 ≤ (s_iWidth a0 a1)))) by kernel_rfl).trans (by rw [c1]), rfl⟩ (sat_cons ⟨300, _, (show evS (envOf [a0, a1]) 300 (mk 1057 (.bool true) [var 0, var 1, .int .i64 (0)]) = some (.bool (s_meets a0 a1 0)) by kernel_rfl).trans (by rw [c2]), rfl⟩ (sat_cons ⟨300, _, (show evS (envOf [a0, a1]) 300 (mk 1057 (.bool true) [var 0, var 1, .int .i64 (32768)]) = some (.bool (s_meets a0 a1 32768)) by kernel_rfl).trans (by rw [c3]), rfl⟩ (sat_nil _))))
          have h0 : (s_CosOver_0 a0 a1) = (s_iHull_0 (s_iHull_0 (s_iHull_0 (s_Cos_0 a0) (s_Cos_1 a0) (s_Cos_0 a1) (s_Cos_1 a1)) (s_iHull_1 (s_Cos_0 a0) (s_Cos_1 a0) (s_Cos_0 a1) (s_Cos_1 a1)) 65536 65536) (s_iHull_1 (s_iHull_0 (s_Cos_0 a0) (s_Cos_1 a0) (s_Cos_0 a1) (s_Cos_1 a1)) (s_iHull_1 (s_Cos_0 a0) (s_Cos_1 a0) (s_Cos_0 a1) (s_Cos_1 a1)) 65536 65536) (-65536) (-65536)) := by simp only [s_CosOver_0, c0, c1, c2, c3, cond_true, cond_false]
          have h1 : (s_CosOver_1 a0 a1) = (s_iHull_1 (s_iHull_0 (s_iHull_0 (s_Cos_0 a0) (s_Cos_1 a0) (s_Cos_0 a1) (s_Cos_1 a1)) (s_iHull_1 (s_Cos_0 a0) (s_Cos_1 a0) (s_Cos_0 a1) (s_Cos_1 a1)) 65536 65536) (s_iHull_1 (s_iHull_0 (s_Cos_0 a0) (s_Cos_1 a0) (s_Cos_0 a1) (s_Cos_1 a1)) (s_iHull_1 (s_Cos_0 a0) (s_Cos_1 a0) (s_Cos_0 a1) (s_Cos_1 a1)) 65536 65536) (-65536) (-65536)) := by simp only [s_CosOver_1, c0, c1, c2, c3, cond_true, cond_false]
          rw [h0, h1]
          exact symCall (X := xtOf [a0, a1] [(mk 1003 (.bool true) [var 0, var 1], .bool true), (mk 23 (.bool true) [mk 1021 (.int .i64 (0)) [var 0, var 1], .int .i64 (65536)], .bool false), (mk 1057 (.bool true) [var 0, var 1, .int .i64 (0)], .bool true), (mk 1057 (.bool true) [var 0, var 1, .int .i64 (32768)], .bool true)]) Tryz.mixed Tryz.namedS (xtOf_good _ _ hs) (esc := Tryz.esc) (fuel := 200) (n := 12) (S := sumS (xtOf [a0, a1] [(mk 1003 (.bool true) [var 0, var 1], .bool true), (mk 23 (.bool true) [mk 1021 (.int .i64 (0)) [var 0, var 1], .int .i64 (65536)], .bool false), (mk 1057 (.bool true) [var 0, var 1, .int .i64 (0)], .bool true), (mk 1057 (.bool true) [var 0, var 1, .int .i64 (32768)], .bool true)]) es25) (sumS_good hs _ (oks25 _)) (sumS_pure _ _) (f := 152) (xs := [.agg ⟨[var 0, var 1]⟩]) (v := .agg ⟨[mk 1017 (.int .i64 (0)) [mk 1017 (.int .i64 (0)) [mk 1017 (.int .i64 (0)) [mk 1055 (.int .i64 (0)) [var 0], mk 1056 (.int .i64 (0)) [var 0], mk 1055 (.int .i64 (0)) [var 1], mk 1056 (.int .i64 (0)) [var 1]], mk 1018 (.int .i64 (0)) [mk 1055 (.int .i64 (0)) [var 0], mk 1056 (.int .i64 (0)) [var 0], mk 1055 (.int .i64 (0)) [var 1], mk 1056 (.int .i64 (0)) [var 1]], .int .i64 (65536), .int .i64 (65536)], mk 1018 (.int .i64 (0)) [mk 1017 (.int .i64 (0)) [mk 1055 (.int .i64 (0)) [var 0], mk 1056 (.int .i64 (0)) [var 0], mk 1055 (.int .i64 (0)) [var 1], mk 1056 (.int .i64 (0)) [var 1]], mk 1018 (.int .i64 (0)) [mk 1055 (.int .i64 (0)) [var 0], mk 1056 (.int .i64 (0)) [var 0], mk 1055 (.int .i64 (0)) [var 1], mk 1056 (.int .i64 (0)) [var 1]], .int .i64 (65536), .int .i64 (65536)], .int .i64 (-65536), .int .i64 (-65536)], mk 1018 (.int .i64 (0)) [mk 1017 (.int .i64 (0)) [mk 1017 (.int .i64 (0)) [mk 1055 (.int .i64 (0)) [var 0], mk 1056 (.int .i64 (0)) [var 0], mk 1055 (.int .i64 (0)) [var 1], mk 1056 (.int .i64 (0)) [var 1]], mk 1018 (.int .i64 (0)) [mk 1055 (.int .i64 (0)) [var 0], mk 1056 (.int .i64 (0)) [var 0], mk 1055 (.int .i64 (0)) [var 1], mk 1056 (.int .i64 (0)) [var 1]], .int .i64 (65536), .int .i64 (65536)], mk 1018 (.int .i64 (0)) [mk 1017 (.int .i64 (0)) [mk 1055 (.int .i64 (0)) [var 0], mk 1056 (.int .i64 (0)) [var 0], mk 1055 (.int .i64 (0)) [var 1], mk 1056 (.int .i64 (0)) [var 1]], mk 1018 (.int .i64 (0)) [mk 1055 (.int .i64 (0)) [var 0], mk 1056 (.int .i64 (0)) [var 0], mk 1055 (.int .i64 (0)) [var 1], mk 1056 (.int .i64 (0)) [var 1]], .int .i64 (65536), .int .i64 (65536)], .int .i64 (-65536), .int .i64 (-65536)]]⟩) (H' := []) (md := []) (by kernel_rfl) (by kernel_rfl) (by kernel_rfl) w
        | false =>
          have hs : Sat (envOf [a0, a1]) [(mk 1003 (.bool true) [var 0, var 1], .bool true), (mk 23 (.bool true) [mk 1021 (.int .i64 (0)) [var 0, var 1], .int .i64 (65536)], .bool false), (mk 1057 (.bool true) [var 0, var 1, .int .i64 (0)], .bool true), (mk 1057 (.bool true) [var 0, var 1, .int .i64 (32768)], .bool false)] := sat_cons ⟨300, _, (show evS (envOf [a0, a1]) 300 (mk 1003 (.bool true) [var 0, var 1]) = some (.bool (s_Valid a0 a1)) by kernel_rfl).trans (by rw [c0]), rfl⟩ (sat_cons ⟨300, _, (show evS (envOf [a0, a1]) 300 (mk 23 (.bool true) [mk 1021 (.int .i64 (0)) [var 0, var 1], .int .i64 (65536)]) = some (.bool (decide (65536 ≤ (s_iWidth a0 a1)))) by kernel_rfl).trans (by rw [c1]), rfl⟩ (sat_cons ⟨300, _, (show evS (envOf [a0, a1]) 300 (mk 1057 (.bool true) [var 0, var 1, .int .i64 (0)]) = some (.bool (s_meets a0 a1 0)) by kernel_rfl).trans (by rw [c2]), rfl⟩ (sat_cons ⟨300, _, (show evS (envOf [a0, a1]) 300 (mk 1057 (.bool true) [var 0, var 1, .int .i64 (32768)]) = some (.bool (s_meets a0 a1 32768)) by kernel_rfl).trans (by rw [c3]), rfl⟩ (sat_nil _))))
          have h0 : (s_CosOver_0 a0 a1) = (s_iHull_0 (s_iHull_0 (s_Cos_0 a0) (s_Cos_1 a0) (s_Cos_0 a1) (s_Cos_1 a1)) (s_iHull_1 (s_Cos_0 a0) (s_Cos_1 a0) (s_Cos_0 a1) (s_Cos_1 a1)) 65536 65536) := by simp only [s_CosOver_0, c0, c1, c2, c3, cond_true, cond_false]
          have h1 : (s_CosOver_1 a0 a1) = (s_iHull_1 (s_iHull_0 (s_Cos_0 a0) (s_Cos_1 a0) (s_Cos_0 a1) (s_Cos_1 a1)) (s_iHull_1 (s_Cos_0 a0) (s_Cos_1 a0) (s_Cos_0 a1) (s_Cos_1 a1)) 65536 65536) := by simp only [s_CosOver_1, c0, c1, c2, c3, cond_true, cond_false]
          rw [h0, h1]
          exact symCall (X := xtOf [a0, a1] [(mk 1003 (.bool true) [var 0, var 1], .bool true), (mk 23 (.bool true) [mk 1021 (.int .i64 (0)) [var 0, var 1], .int .i64 (65536)], .bool false), (mk 1057 (.bool true) [var 0, var 1, .int .i64 (0)], .bool true), (mk 1057 (.bool true) [var 0, var 1, .int .i64 (32768)], .bool false)]) Tryz.mixed Tryz.namedS (xtOf_good _ _ hs) (esc := Tryz.esc) (fuel := 200) (n := 12) (S := sumS (xtOf [a0, a1] [(mk 1003 (.bool true) [var 0, var 1], .bool true), (mk 23 (.bool true) [mk 1021 (.int .i64 (0)) [var 0, var 1], .int .i64 (65536)], .bool false), (mk 1057 (.bool true) [var 0, var 1, .int .i64 (0)], .bool true), (mk 1057 (.bool true) [var 0, var 1, .int .i64 (32768)], .bool false)]) es25) (sumS_good hs _ (oks25 _)) (sumS_pure _ _) (f := 152) (xs := [.agg ⟨[var 0, var 1]⟩]) (v := .agg ⟨[mk 1017 (.int .i64 (0)) [mk 1017 (.int .i64 (0)) [mk 1055 (.int .i64 (0)) [var 0], mk 1056 (.int .i64 (0)) [var 0], mk 1055 (.int .i64 (0)) [var 1], mk 1056 (.int .i64 (0)) [var 1]], mk 1018 (.int .i64 (0)) [mk 1055 (.int .i64 (0)) [var 0], mk 1056 (.int .i64 (0)) [var 0], mk 1055 (.int .i64 (0)) [var 1], mk 1056 (.int .i64 (0)) [var 1]], .int .i64 (65536), .int .i64 (65536)], mk 1018 (.int .i64 (0)) [mk 1017 (.int .i64 (0)) [mk 1055 (.int .i64 (0)) [var 0], mk 1056 (.int .i64 (0)) [var 0], mk 1055 (.int .i64 (0)) [var 1], mk 1056 (.int .i64 (0)) [var 1]], mk 1018 (.int .i64 (0)) [mk 1055 (.int .i64 (0)) [var 0], mk 1056 (.int .i64 (0)) [var 0], mk 1055 (.int .i64 (0)) [var 1], mk 1056 (.int .i64 (0)) [var 1]], .int .i64 (65536), .int .i64 (65536)]]⟩) (H' := []) (md := []) (by kernel_rfl) (by kernel_rfl) (by kernel_rfl) w
      | false =>
        cases c3 : (s_meets a0 a1 32768) with
        | true =>
          have hs : Sat (envOf [a0, a1]) [(mk 1003 (.bool true) [var 0, var 1], .bool true), (mk 23 (.bool true) [mk 1021 (.int .i64 (0)) [var 0, var 1], .int .i64 (65536)], .bool false), (mk 1057 (.bool true) [var 0, var 1, .int .i64 (0)], .bool false), (mk 1057 (.bool true) [var 0, var 1, .int .i64 (32768)], .bool true)] := sat_cons ⟨300, _, (show evS (envOf [a0, a1]) 300 (mk 1003 (.bool true) [var 0, var 1]) = some (.bool (s_Valid a0 a1)) by kernel_rfl).trans (by rw [c0]), rfl⟩ (sat_cons ⟨300, _, (show evS (envOf [a0, a1]) 300 (mk 23 (.bool true) [mk 1021 (.int .i64 (0)) [var 0, var 1], .int .i64 (65536)]) = some (.bool (decide (65536 ≤ (s_iWidth a0 a1)))) by kernel_rfl).trans (by rw [c1]), rfl⟩ (sat_cons ⟨300, _, (show evS (envOf [a0, a1]) 300 (mk 1057 (.bool true) [var 0, var 1, .int .i64 (0)]) = some (.bool (s_meets a0 a1 0)) by kernel_rfl).trans (by rw [c2]), rfl⟩ (sat_cons ⟨300, _, (show evS (envOf [a0, a1]) 300 (mk 1057 (.bool true) [var 0, var 1, .int .i64 (32768)]) = some (.bool (s_meets a0 a1 32768)) by kernel_rfl).trans (by rw [c3]), rfl⟩ (sat_nil _))))
          have h0 : (s_CosOver_0 a0 a1) = (s_iHull_0 (s_iHull_0 (s_Cos_0 a0) (s_Cos_1 a0) (s_Cos_0 a1) (s_Cos_1 a1)) (s_iHull_1 (s_Cos_0 a0) (s_Cos_1 a0) (s_Cos_0 a1) (s_Cos_1 a1)) (-65536) (-65536)) := by simp only [s_CosOver_0, c0, c1, c2, c3, cond_true, cond_false]
          have h1 : (s_CosOver_1 a0 a1) = (s_iHull_1 (s_iHull_0 (s_Cos_0 a0) (s_Cos_1 a0) (s_Cos_0 a1) (s_Cos_1 a1)) (s_iHull_1 (s_Cos_0 a0) (s_Cos_1 a0) (s_Cos_0 a1) (s_Cos_1 a1)) (-65536) (-65536)) := by simp only [s_CosOver_1, c0, c1, c2, c3, cond_true, cond_false]
          rw [h0, h1]
          exact symCall (X := xtOf [a0, a1] [(mk 1003 (.bool true) [var 0, var 1], .bool true), (mk 23 (.bool true) [mk 1021 (.int .i64 (0)) [var 0, var 1], .int .i64 (65536)], .bool false), (mk 1057 (.bool true) [var 0, var 1, .int .i64 (0)], .bool false), (mk 1057 (.bool true) [var 0, var 1, .int .i64 (32768)], .bool true)]) Tryz.mixed Tryz.namedS (xtOf_good _ _ hs) (esc := Tryz.esc) (fuel := 200) (n := 12) (S := sumS (xtOf [a0, a1] [(mk 1003 (.bool true) [var 0, var 1], .bool true), (mk 23 (.bool true) [mk 1021 (.int .i64 (0)) [var 0, var 1], .int .i64 (65536)], .bool false), (mk 1057 (.bool true) [var 0, var 1, .int .i64 (0)], .bool false), (mk 1057 (.bool true) [var 0, var 1, .int .i64 (32768)], .bool true)]) es25) (sumS_good hs _ (oks25 _)) (sumS_pure _ _) (f := 152) (xs := [.agg ⟨[var 0, var 1]⟩]) (v := .agg ⟨[mk 1017 (.int .i64 (0)) [mk 1017 (.int .i64 (0)) [mk 1055 (.int .i64 (0)) [var 0], mk 1056 (.int .i64 (0)) [var 0], mk 1055 (.int .i64 (0)) [var 1], mk 1056 (.int .i64 (0)) [var 1]], mk 1018 (.int .i64 (0)) [mk 1055 (.int .i64 (0)) [var 0], mk 1056 (.int .i64 (0)) [var 0], mk 1055 (.int .i64 (0)) [var 1], mk 1056 (.int .i64 (0)) [var 1]], .int .i64 (-65536), .int .i64 (-65536)], mk 1018 (.int .i64 (0)) [mk 1017 (.int .i64 (0)) [mk 1055 (.int .i64 (0)) [var 0], mk 1056 (.int .i64 (0)) [var 0], mk 1055 (.int .i64 (0)) [var 1], mk 1056 (.int .i64 (0)) [var 1]], mk 1018 (.int .i64 (0)) [mk 1055 (.int .i64 (0)) [var 0], mk 1056 (.int .i64 (0)) [var 0], mk 1055 (.int .i64 (0)) [var 1], mk 1056 (.int .i64 (0)) [var 1]], .int .i64 (-65536), .int .i64 (-65536)]]⟩) (H' := []) (md := []) (by kernel_rfl) (by kernel_rfl) (by kernel_rfl) w
        | false =>
          have hs : Sat (envOf [a0, a1]) [(mk 1003 (.bool true) [var 0, var 1], .bool true), (mk 23 (.bool true) [mk 1021 (.int .i64 (0)) [var 0, var 1], .int .i64 (65536)], .bool false), (mk 1057 (.bool true) [var 0, var 1, .int .i64 (0)], .bool false), (mk 1057 (.bool true) [var 0, var 1, .int .i64 (32768)], .bool false)] := sat_cons ⟨300, _, (show evS (envOf [a0, a1]) 300 (mk 1003 (.bool true) [var 0, var 1]) = some (.bool (s_Valid a0 a1)) by kernel_rfl).trans (by rw [c0]), rfl⟩ (sat_cons ⟨300, _, (show evS (envOf [a0, a1]) 300 (mk 23 (.bool true) [mk 1021 (.int .i64 (0)) [var 0, var 1], .int .i64 (65536)]) = some (.bool (decide (65536 ≤ (s_iWidth a0 a1)))) by kernel_rfl).trans (by rw [c1]), rfl⟩ (sat_cons ⟨300, _, (show evS (envOf [a0, a1]) 300 (mk 1057 (.bool true) [var 0, var 1, .int .i64 (0)]) = some (.bool (s_meets a0 a1 0)) by kernel_rfl).trans (by rw [c2]), rfl⟩ (sat_cons ⟨300, _, (show evS (envOf [a0, a1]) 300 (mk 1057 (.bool true) [var 0, var 1, .int .i64 (32768)]) = some (.bool (s_meets a0 a1 32768)) by kernel_rfl).trans (by rw [c3]), rfl⟩ (sat_nil _))))
          have h0 : (s_CosOver_0 a0 a1) = (s_iHull_0 (s_Cos_0 a0) (s_Cos_1 a0) (s_Cos_0 a1) (s_Cos_1 a1)) := by simp only [s_CosOver_0, c0, c1, c2, c3, cond_true, cond_false]
          have h1 : (s_CosOver_1 a0 a1) = (s_iHull_1 (s_Cos_0 a0) (s_Cos_1 a0) (s_Cos_0 a1) (s_Cos_1 a1)) := by simp only [s_CosOver_1, c0, c1, c2, c3, cond_true, cond_false]
          rw [h0, h1]
          exact symCall (X := xtOf [a0, a1] [(mk 1003 (.bool true) [var 0, var 1], .bool true), (mk 23 (.bool true) [mk 1021 (.int .i64 (0)) [var 0, var 1], .int .i64 (65536)], .bool false), (mk 1057 (.bool true) [var 0, var 1, .int .i64 (0)], .bool false), (mk 1057 (.bool true) [var 0, var 1, .int .i64 (32768)], .bool false)]) Tryz.mixed Tryz.namedS (xtOf_good _ _ hs) (esc := Tryz.esc) (fuel := 200) (n := 12) (S := sumS (xtOf [a0, a1] [(mk 1003 (.bool true) [var 0, var 1], .bool true), (mk 23 (.bool true) [mk 1021 (.int .i64 (0)) [var 0, var 1], .int .i64 (65536)], .bool false), (mk 1057 (.bool true) [var 0, var 1, .int .i64 (0)], .bool false), (mk 1057 (.bool true) [var 0, var 1, .int .i64 (32768)], .bool false)]) es25) (sumS_good hs _ (oks25 _)) (sumS_pure _ _) (f := 152) (xs := [.agg ⟨[var 0, var 1]⟩]) (v := .agg ⟨[mk 1017 (.int .i64 (0)) [mk 1055 (.int .i64 (0)) [var 0], mk 1056 (.int .i64 (0)) [var 0], mk 1055 (.int .i64 (0)) [var 1], mk 1056 (.int .i64 (0)) [var 1]], mk 1018 (.int .i64 (0)) [mk 1055 (.int .i64 (0)) [var 0], mk 1056 (.int .i64 (0)) [var 0], mk 1055 (.int .i64 (0)) [var 1], mk 1056 (.int .i64 (0)) [var 1]]]⟩) (H' := []) (md := []) (by kernel_rfl) (by kernel_rfl) (by kernel_rfl) w
  | false =>
    have hs : Sat (envOf [a0, a1]) [(mk 1003 (.bool true) [var 0, var 1], .bool false)] := sat_cons ⟨300, _, (show evS (envOf [a0, a1]) 300 (mk 1003 (.bool true) [var 0, var 1]) = some (.bool (s_Valid a0 a1)) by kernel_rfl).trans (by rw [c0]), rfl⟩ (sat_nil _)
    have h0 : (s_CosOver_0 a0 a1) = 0 := by simp only [s_CosOver_0, c0, cond_false]
    have h1 : (s_CosOver_1 a0 a1) = 0 := by simp only [s_CosOver_1, c0, cond_false]
    rw [h0, h1]
    exact symCall (X := xtOf [a0, a1] [(mk 1003 (.bool true) [var 0, var 1], .bool false)]) Tryz.mixed Tryz.namedS (xtOf_good _ _ hs) (esc := Tryz.esc) (fuel := 200) (n := 12) (S := sumS (xtOf [a0, a1] [(mk 1003 (.bool true) [var 0, var 1], .bool false)]) es25) (sumS_good hs _ (oks25 _)) (sumS_pure _ _) (f := 152) (xs := [.agg ⟨[var 0, var 1]⟩]) (v := .agg ⟨[.int .i64 (0), .int .i64 (0)]⟩) (H' := []) (md := []) (by kernel_rfl) (by kernel_rfl) (by kernel_rfl) w
def es26 : List Ent := e_CosOver :: es25
theorem oks26 (L : List Int) : ∀ e ∈ es26, EntOk Tryz.prog (envOf L) e := by
  intro e he
  rcases List.mem_cons.1 he with rfl | h
  · exact entOk_env rfl rfl ok_CosOver
  · exact oks25 L e h
end Go.Proofs
