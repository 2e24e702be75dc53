/-
  The contracts of the functions of fixed form (printed by gen_sy.py).
-/
import Derived.Test.YthbfmjlcnfgnbaaGreatYd
namespace Go.Proofs
open Go.Sm Go.RowKit

def e_pApply : Ent := ⟨71, [some 24, some 6], [.a 6], 231⟩
theorem ok_pApply : EntOk Tryz.prog (envOf []) e_pApply := by
  intro l w hl
  replace hl : l.length = 30 := hl
  obtain ⟨a0, l0, rfl, g0⟩ := list_succ hl
  obtain ⟨a1, l1, rfl, g1⟩ := list_succ g0
  obtain ⟨a2, l2, rfl, g2⟩ := list_succ g1
  obtain ⟨a3, l3, rfl, g3⟩ := list_succ g2
  obtain ⟨a4, l4, rfl, g4⟩ := list_succ g3
  obtain ⟨a5, l5, rfl, g5⟩ := list_succ g4
  obtain ⟨a6, l6, rfl, g6⟩ := list_succ g5
  obtain ⟨a7, l7, rfl, g7⟩ := list_succ g6
  obtain ⟨a8, l8, rfl, g8⟩ := list_succ g7
  obtain ⟨a9, l9, rfl, g9⟩ := list_succ g8
  obtain ⟨a10, l10, rfl, g10⟩ := list_succ g9
  obtain ⟨a11, l11, rfl, g11⟩ := list_succ g10
  obtain ⟨a12, l12, rfl, g12⟩ := list_succ g11
  obtain ⟨a13, l13, rfl, g13⟩ := list_succ g12
  obtain ⟨a14, l14, rfl, g14⟩ := list_succ g13
  obtain ⟨a15, l15, rfl, g15⟩ := list_succ g14
  obtain ⟨a16, l16, rfl, g16⟩ := list_succ g15
  obtain ⟨a17, l17, rfl, g17⟩ := list_succ g16
  obtain ⟨a18, l18, rfl, g18⟩ := list_succ g17
  obtain ⟨a19, l19, rfl, g19⟩ := list_succ g18
  obtain ⟨a20, l20, rfl, g20⟩ := list_succ g19
  obtain ⟨a21, l21, rfl, g21⟩ := list_succ g20
  obtain ⟨a22, l22, rfl, g22⟩ := list_succ g21
  obtain ⟨a23, l23, rfl, g23⟩ := list_succ g22
  obtain ⟨a24, l24, rfl, g24⟩ := list_succ g23
  obtain ⟨a25, l25, rfl, g25⟩ := list_succ g24
  obtain ⟨a26, l26, rfl, g26⟩ := list_succ g25
  obtain ⟨a27, l27, rfl, g27⟩ := list_succ g26
  obtain ⟨a28, l28, rfl, g28⟩ := list_succ g27
  obtain ⟨a29, l29, rfl, g29⟩ := list_succ g28
  obtain rfl := List.eq_nil_of_length_eq_zero g29
  have E : packV (conRs (envOf []) [a0, a1, a2, a3, a4, a5, a6, a7, a8, a9, a10, a11, a12, a13, a14, a15, a16, a17, a18, a19, a20, a21, a22, a23, a24, a25, a26, a27, a28, a29] 231 [.a 6]) = .agg ⟨[num (s_pApply_0 a0 a1 a2 a3 a4 a5 a6 a7 a8 a9 a10 a11 a12 a13 a14 a15 a16 a17 a18 a19 a20 a21 a22 a23 a24 a25 a26 a27 a28 a29), num (s_pApply_1 a0 a1 a2 a3 a4 a5 a6 a7 a8 a9 a10 a11 a12 a13 a14 a15 a16 a17 a18 a19 a20 a21 a22 a23 a24 a25 a26 a27 a28 a29), num (s_pApply_2 a0 a1 a2 a3 a4 a5 a6 a7 a8 a9 a10 a11 a12 a13 a14 a15 a16 a17 a18 a19 a20 a21 a22 a23 a24 a25 a26 a27 a28 a29), num (s_pApply_3 a0 a1 a2 a3 a4 a5 a6 a7 a8 a9 a10 a11 a12 a13 a14 a15 a16 a17 a18 a19 a20 a21 a22 a23 a24 a25 a26 a27 a28 a29), num (s_pApply_4 a0 a1 a2 a3 a4 a5 a6 a7 a8 a9 a10 a11 a12 a13 a14 a15 a16 a17 a18 a19 a20 a21 a22 a23 a24 a25 a26 a27 a28 a29), num (s_pApply_5 a0 a1 a2 a3 a4 a5 a6 a7 a8 a9 a10 a11 a12 a13 a14 a15 a16 a17 a18 a19 a20 a21 a22 a23 a24 a25 a26 a27 a28 a29)]⟩ := by kernel_rfl
  show Calls Tryz.prog 71 ([.agg ⟨[num a0, num a1, num a2, num a3, num a4, num a5, num a6, num a7, num a8, num a9, num a10, num a11, num a12, num a13, num a14, num a15, num a16, num a17, num a18, num a19, num a20, num a21, num a22, num a23]⟩, .agg ⟨[num a24, num a25, num a26, num a27, num a28, num a29]⟩] : List Value).toArray w fun r w' => r = .returned (packV (conRs (envOf []) [a0, a1, a2, a3, a4, a5, a6, a7, a8, a9, a10, a11, a12, a13, a14, a15, a16, a17, a18, a19, a20, a21, a22, a23, a24, a25, a26, a27, a28, a29] 231 [.a 6])) ∧ Below w.heap.size w w'
  rw [E]
  have hs : Sat (envOf [a0, a1, a2, a3, a4, a5, a6, a7, a8, a9, a10, a11, a12, a13, a14, a15, a16, a17, a18, a19, a20, a21, a22, a23, a24, a25, a26, a27, a28, a29]) [] := sat_nil _
  have h0 : (s_pApply_0 a0 a1 a2 a3 a4 a5 a6 a7 a8 a9 a10 a11 a12 a13 a14 a15 a16 a17 a18 a19 a20 a21 a22 a23 a24 a25 a26 a27 a28 a29) = (s_mAdd_0 a18 a19 a20 a21 a22 a23 (s_mApply_0 a0 a1 a2 a3 a4 a5 a6 a7 a8 a9 a10 a11 a12 a13 a14 a15 a16 a17 a24 a25 a26 a27 a28 a29) (s_mApply_1 a0 a1 a2 a3 a4 a5 a6 a7 a8 a9 a10 a11 a12 a13 a14 a15 a16 a17 a24 a25 a26 a27 a28 a29) (s_mApply_2 a0 a1 a2 a3 a4 a5 a6 a7 a8 a9 a10 a11 a12 a13 a14 a15 a16 a17 a24 a25 a26 a27 a28 a29) (s_mApply_3 a0 a1 a2 a3 a4 a5 a6 a7 a8 a9 a10 a11 a12 a13 a14 a15 a16 a17 a24 a25 a26 a27 a28 a29) (s_mApply_4 a0 a1 a2 a3 a4 a5 a6 a7 a8 a9 a10 a11 a12 a13 a14 a15 a16 a17 a24 a25 a26 a27 a28 a29) (s_mApply_5 a0 a1 a2 a3 a4 a5 a6 a7 a8 a9 a10 a11 a12 a13 a14 a15 a16 a17 a24 a25 a26 a27 a28 a29)) := by rfl
  have h1 : (s_pApply_1 a0 a1 a2 a3 a4 a5 a6 a7 a8 a9 a10 a11 a12 a13 a14 a15 a16 a17 a18 a19 a20 a21 a22 a23 a24 a25 a26 a27 a28 a29) = (s_mAdd_1 a18 a19 a20 a21 a22 a23 (s_mApply_0 a0 a1 a2 a3 a4 a5 a6 a7 a8 a9 a10 a11 a12 a13 a14 a15 a16 a17 a24 a25 a26 a27 a28 a29) (s_mApply_1 a0 a1 a2 a3 a4 a5 a6 a7 a8 a9 a10 a11 a12 a13 a14 a15 a16 a17 a24 a25 a26 a27 a28 a29) (s_mApply_2 a0 a1 a2 a3 a4 a5 a6 a7 a8 a9 a10 a11 a12 a13 a14 a15 a16 a17 a24 a25 a26 a27 a28 a29) (s_mApply_3 a0 a1 a2 a3 a4 a5 a6 a7 a8 a9 a10 a11 a12 a13 a14 a15 a16 a17 a24 a25 a26 a27 a28 a29) (s_mApply_4 a0 a1 a2 a3 a4 a5 a6 a7 a8 a9 a10 a11 a12 a13 a14 a15 a16 a17 a24 a25 a26 a27 a28 a29) (s_mApply_5 a0 a1 a2 a3 a4 a5 a6 a7 a8 a9 a10 a11 a12 a13 a14 a15 a16 a17 a24 a25 a26 a27 a28 a29)) := by rfl
  have h2 : (s_pApply_2 a0 a1 a2 a3 a4 a5 a6 a7 a8 a9 a10 a11 a12 a13 a14 a15 a16 a17 a18 a19 a20 a21 a22 a23 a24 a25 a26 a27 a28 a29) = (s_mAdd_2 a18 a19 a20 a21 a22 a23 (s_mApply_0 a0 a1 a2 a3 a4 a5 a6 a7 a8 a9 a10 a11 a12 a13 a14 a15 a16 a17 a24 a25 a26 a27 a28 a29) (s_mApply_1 a0 a1 a2 a3 a4 a5 a6 a7 a8 a9 a10 a11 a12 a13 a14 a15 a16 a17 a24 a25 a26 a27 a28 a29) (s_mApply_2 a0 a1 a2 a3 a4 a5 a6 a7 a8 a9 a10 a11 a12 a13 a14 a15 a16 a17 a24 a25 a26 a27 a28 a29) (s_mApply_3 a0 a1 a2 a3 a4 a5 a6 a7 a8 a9 a10 a11 a12 a13 a14 a15 a16 a17 a24 a25 a26 a27 a28 a29) (s_mApply_4 a0 a1 a2 a3 a4 a5 a6 a7 a8 a9 a10 a11 a12 a13 a14 a15 a16 a17 a24 a25 a26 a27 a28 a29) (s_mApply_5 a0 a1 a2 a3 a4 a5 a6 a7 a8 a9 a10 a11 a12 a13 a14 a15 a16 a17 a24 a25 a26 a27 a28 a29)) := by rfl
  have h3 : (s_pApply_3 a0 a1 a2 a3 a4 a5 a6 a7 a8 a9 a10 a11 a12 a13 a14 a15 a16 a17 a18 a19 a20 a21 a22 a23 a24 a25 a26 a27 a28 a29) = (s_mAdd_3 a18 a19 a20 a21 a22 a23 (s_mApply_0 a0 a1 a2 a3 a4 a5 a6 a7 a8 a9 a10 a11 a12 a13 a14 a15 a16 a17 a24 a25 a26 a27 a28 a29) (s_mApply_1 a0 a1 a2 a3 a4 a5 a6 a7 a8 a9 a10 a11 a12 a13 a14 a15 a16 a17 a24 a25 a26 a27 a28 a29) (s_mApply_2 a0 a1 a2 a3 a4 a5 a6 a7 a8 a9 a10 a11 a12 a13 a14 a15 a16 a17 a24 a25 a26 a27 a28 a29) (s_mApply_3 a0 a1 a2 a3 a4 a5 a6 a7 a8 a9 a10 a11 a12 a13 a14 a15 a16 a17 a24 a25 a26 a27 a28 a29) (s_mApply_4 a0 a1 a2 a3 a4 a5 a6 a7 a8 a9 a10 a11 a12 a13 a14 a15 a16 a17 a24 a25 a26 a27 a28 a29) (s_mApply_5 a0 a1 a2 a3 a4 a5 a6 a7 a8 a9 a10 a11 a12 a13 a14 a15 a16 a17 a24 a25 a26 a27 a28 a29)) := by rfl
  have h4 : (s_pApply_4 a0 a1 a2 a3 a4 a5 a6 a7 a8 a9 a10 a11 a12 a13 a14 a15 a16 a17 a18 a19 a20 a21 a22 a23 a24 a25 a26 a27 a28 a29) = (s_mAdd_4 a18 a19 a20 a21 a22 a23 (s_mApply_0 a0 a1 a2 a3 a4 a5 a6 a7 a8 a9 a10 a11 a12 a13 a14 a15 a16 a17 a24 a25 a26 a27 a28 a29) (s_mApply_1 a0 a1 a2 a3 a4 a5 a6 a7 a8 a9 a10 a11 a12 a13 a14 a15 a16 a17 a24 a25 a26 a27 a28 a29) (s_mApply_2 a0 a1 a2 a3 a4 a5 a6 a7 a8 a9 a10 a11 a12 a13 a14 a15 a16 a17 a24 a25 a26 a27 a28 a29) (s_mApply_3 a0 a1 a2 a3 a4 a5 a6 a7 a8 a9 a10 a11 a12 a13 a14 a15 a16 a17 a24 a25 a26 a27 a28 a29) (s_mApply_4 a0 a1 a2 a3 a4 a5 a6 a7 a8 a9 a10 a11 a12 a13 a14 a15 a16 a17 a24 a25 a26 a27 a28 a29) (s_mApply_5 a0 a1 a2 a3 a4 a5 a6 a7 a8 a9 a10 a11 a12 a13 a14 a15 a16 a17 a24 a25 a26 a27 a28 a29)) := by rfl
  have h5 : (s_pApply_5 a0 a1 a2 a3 a4 a5 a6 a7 a8 a9 a10 a11 a12 a13 a14 a15 a16 a17 a18 a19 a20 a21 a22 a23 a24 a25 a26 a27 a28 a29) = (s_mAdd_5 a18 a19 a20 a21 a22 a23 (s_mApply_0 a0 a1 a2 a3 a4 a5 a6 a7 a8 a9 a10 a11 a12 a13 a14 a15 a16 a17 a24 a25 a26 a27 a28 a29) (s_mApply_1 a0 a1 a2 a3 a4 a5 a6 a7 a8 a9 a10 a11 a12 a13 a14 a15 a16 a17 a24 a25 a26 a27 a28 a29) (s_mApply_2 a0 a1 a2 a3 a4 a5 a6 a7 a8 a9 a10 a11 a12 a13 a14 a15 a16 a17 a24 a25 a26 a27 a28 a29) (s_mApply_3 a0 a1 a2 a3 a4 a5 a6 a7 a8 a9 a10 a11 a12 a13 a14 a15 a16 a17 a24 a25 a26 a27 a28 a29) (s_mApply_4 a0 a1 a2 a3 a4 a5 a6 a7 a8 a9 a10 a11 a12 a13 a14 a15 a16 a17 a24 a25 a26 a27 a28 a29) (s_mApply_5 a0 a1 a2 a3 a4 a5 a6 a7 a8 a9 a10 a11 a12 a13 a14 a15 a16 a17 a24 a25 a26 a27 a28 a29)) := by rfl
  rw [h0, h1, h2, h3, h4, h5]
  exact symCall (X := xtOf [a0, a1, a2, a3, a4, a5, a6, a7, a8, a9, a10, a11, a12, a13, a14, a15, a16, a17, a18, a19, a20, a21, a22, a23, a24, a25, a26, a27, a28, a29] []) Tryz.mixed Tryz.namedS (xtOf_good _ _ hs) (esc := Tryz.esc) (fuel := 200) (n := 12) (S := sumS (xtOf [a0, a1, a2, a3, a4, a5, a6, a7, a8, a9, a10, a11, a12, a13, a14, a15, a16, a17, a18, a19, a20, a21, a22, a23, a24, a25, a26, a27, a28, a29] []) es37) (sumS_good hs _ (oks37 _)) (sumS_pure _ _) (f := 71) (xs := [.agg ⟨[var 0, var 1, var 2, var 3, var 4, var 5, var 6, var 7, var 8, var 9, var 10, var 11, var 12, var 13, var 14, var 15, var 16, var 17, var 18, var 19, var 20, var 21, var 22, var 23]⟩, .agg ⟨[var 24, var 25, var 26, var 27, var 28, var 29]⟩]) (v := .agg ⟨[mk 1068 (.int .i64 (0)) [var 18, var 19, var 20, var 21, var 22, var 23, mk 1110 (.int .i64 (0)) [var 0, var 1, var 2, var 3, var 4, var 5, var 6, var 7, var 8, var 9, var 10, var 11, var 12, var 13, var 14, var 15, var 16, var 17, var 24, var 25, var 26, var 27, var 28, var 29], mk 1111 (.int .i64 (0)) [var 0, var 1, var 2, var 3, var 4, var 5, var 6, var 7, var 8, var 9, var 10, var 11, var 12, var 13, var 14, var 15, var 16, var 17, var 24, var 25, var 26, var 27, var 28, var 29], mk 1112 (.int .i64 (0)) [var 0, var 1, var 2, var 3, var 4, var 5, var 6, var 7, var 8, var 9, var 10, var 11, var 12, var 13, var 14, var 15, var 16, var 17, var 24, var 25, var 26, var 27, var 28, var 29], mk 1113 (.int .i64 (0)) [var 0, var 1, var 2, var 3, var 4, var 5, var 6, var 7, var 8, var 9, var 10, var 11, var 12, var 13, var 14, var 15, var 16, var 17, var 24, var 25, var 26, var 27, var 28, var 29], mk 1114 (.int .i64 (0)) [var 0, var 1, var 2, var 3, var 4, var 5, var 6, var 7, var 8, var 9, var 10, var 11, var 12, var 13, var 14, var 15, var 16, var 17, var 24, var 25, var 26, var 27, var 28, var 29], mk 1115 (.int .i64 (0)) [var 0, var 1, var 2, var 3, var 4, var 5, var 6, var 7, var 8, var 9, var 10, var 11, var 12, var 13, var 14, var 15, var 16, var 17, var 24, var 25, var 26, var 27, var 28, var 29]], mk 1069 (.int .i64 (0)) [var 18, var 19, var 20, var 21, var 22, var 23, mk 1110 (.int .i64 (0)) [var 0, var 1, var 2, var 3, var 4, var 5, var 6, var 7, var 8, var 9, var 10, var 11, var 12, var 13, var 14, var 15, var 16, var 17, var 24, var 25, var 26, var 27, var 28, var 29], mk 1111 (.int .i64 (0)) [var 0, var 1, var 2, var 3, var 4, var 5, var 6, var 7, var 8, var 9, var 10, var 11, var 12, var 13, var 14, var 15, var 16, var 17, var 24, var 25, var 26, var 27, var 28, var 29], mk 1112 (.int .i64 (0)) [var 0, var 1, var 2, var 3, var 4, var 5, var 6, var 7, var 8, var 9, var 10, var 11, var 12, var 13, var 14, var 15, var 16, var 17, var 24, var 25, var 26, var 27, var 28, var 29], mk 1113 (.int .i64 (0)) [var 0, var 1, var 2, var 3, var 4, var 5, var 6, var 7, var 8, var 9, var 10, var 11, var 12, var 13, var 14, var 15, var 16, var 17, var 24, var 25, var 26, var 27, var 28, var 29], mk 1114 (.int .i64 (0)) [var 0, var 1, var 2, var 3, var 4, var 5, var 6, var 7, var 8, var 9, var 10, var 11, var 12, var 13, var 14, var 15, var 16, var 17, var 24, var 25, var 26, var 27, var 28, var 29], mk 1115 (.int .i64 (0)) [var 0, var 1, var 2, var 3, var 4, var 5, var 6, var 7, var 8, var 9, var 10, var 11, var 12, var 13, var 14, var 15, var 16, var 17, var 24, var 25, var 26, var 27, var 28, var 29]], mk 1070 (.int .i64 (0)) [var 18, var 19, var 20, var 21, var 22, var 23, mk 1110 (.int .i64 (0)) [var 0, var 1, var 2, var 3, var 4, var 5, var 6, var 7, var 8, var 9, var 10, var 11, var 12, var 13, var 14, var 15, var 16, var 17, var 24, var 25, var 26, var 27, var 28, var 29], mk 1111 (.int .i64 (0)) [var 0, var 1, var 2, var 3, var 4, var 5, var 6, var 7, var 8, var 9, var 10, var 11, var 12, var 13, var 14, var 15, var 16, var 17, var 24, var 25, var 26, var 27, var 28, var 29], mk 1112 (.int .i64 (0)) [var 0, var 1, var 2, var 3, var 4, var 5, var 6, var 7, var 8, var 9, var 10, var 11, var 12, var 13, var 14, var 15, var 16, var 17, var 24, var 25, var 26, var 27, var 28, var 29], mk 1113 (.int .i64 (0)) [var 0, var 1, var 2, var 3, var 4, var 5, var 6, var 7, var 8, var 9, var 10, var 11, var 12, var 13, var 14, var 15, var 16, var 17, var 24, var 25, var 26, var 27, var 28, var 29], mk 1114 (.int .i64 (0)) [var 0, var 1, var 2, var 3, var 4, var 5, var 6, var 7, var 8, var 9, var 10, var 11, var 12, var 13, var 14, var 15, var 16, var 17, var 24, var 25, var 26, var 27, var 28, var 29], mk 1115 (.int .i64 (0)) [var 0, var 1, var 2, var 3, var 4, var 5, var 6, var 7, var 8, var 9, var 10, var 11, var 12, var 13, var 14, var 15, var 16, var 17, var 24, var 25, var 26, var 27, var 28, var 29]], mk 1071 (.int .i64 (0)) [var 18, var 19, var 20, var 21, var 22, var 23, mk 1110 (.int .i64 (0)) [var 0, var 1, var 2, var 3, var 4, var 5, var 6, var 7, var 8, var 9, var 10, var 11, var 12, var 13, var 14, var 15, var 16, var 17, var 24, var 25, var 26, var 27, var 28, var 29], mk 1111 (.int .i64 (0)) [var 0, var 1, var 2, var 3, var 4, var 5, var 6, var 7, var 8, var 9, var 10, var 11, var 12, var 13, var 14, var 15, var 16, var 17, var 24, var 25, var 26, var 27, var 28, var 29], mk 1112 (.int .i64 (0)) [var 0, var 1, var 2, var 3, var 4, var 5, var 6, var 7, var 8, var 9, var 10, var 11, var 12, var 13, var 14, var 15, var 16, var 17, var 24, var 25, var 26, var 27, var 28, var 29], mk 1113 (.int .i64 (0)) [var 0, var 1, var 2, var 3, var 4, var 5, var 6, var 7, var 8, var 9, var 10, var 11, var 12, var 13, var 14, var 15, var 16, var 17, var 24, var 25, var 26, var 27, var 28, var 29], mk 1114 (.int .i64 (0)) [var 0, var 1, var 2, var 3, var 4, var 5, var 6, var 7, var 8, var 9, var 10, var 11, var 12, var 13, var 14, var 15, var 16, var 17, var 24, var 25, var 26, var 27, var 28, var 29], mk 1115 (.int .i64 (0)) [var 0, var 1, var 2, var 3, var 4, var 5, var 6, var 7, var 8, var 9, var 10, var 11, var 12, var 13, var 14, var 15, var 16, var 17, var 24, var 25, var 26, var 27, var 28, var 29]], mk 1072 (.int .i64 (0)) [var 18, var 19, var 20, var 21, var 22, var 23, mk 1110 (.int .i64 (0)) [var 0, var 1, var 2, var 3, var 4, var 5, var 6, var 7, var 8, var 9, var 10, var 11, var 12, var 13, var 14, var 15, var 16, var 17, var 24, var 25, var 26, var 27, var 28, var 29], mk 1111 (.int .i64 (0)) [var 0, var 1, var 2, var 3, var 4, var 5, var 6, var 7, var 8, var 9, var 10, var 11, var 12, var 13, var 14, var 15, var 16, var 17, var 24, var 25, var 26, var 27, var 28, var 29], mk 1112 (.int .i64 (0)) [var 0, var 1, var 2, var 3, var 4, var 5, var 6, var 7, var 8, var 9, var 10, var 11, var 12, var 13, var 14, var 15, var 16, var 17, var 24, var 25, var 26, var 27, var 28, var 29], mk 1113 (.int .i64 (0)) [var 0, var 1, var 2, var 3, var 4, var 5, var 6, var 7, var 8, var 9, var 10, var 11, var 12, var 13, var 14, var 15, var 16, var 17, var 24, var 25, var 26, var 27, var 28, var 29], mk 1114 (.int .i64 (0)) [var 0, var 1, var 2, var 3, var 4, var 5, var 6, var 7, var 8, var 9, var 10, var 11, var 12, var 13, var 14, var 15, var 16, var 17, var 24, var 25, var 26, var 27, var 28, var 29], mk 1115 (.int .i64 (0)) [var 0, var 1, var 2, var 3, var 4, var 5, var 6, var 7, var 8, var 9, var 10, var 11, var 12, var 13, var 14, var 15, var 16, var 17, var 24, var 25, var 26, var 27, var 28, var 29]], mk 1073 (.int .i64 (0)) [var 18, var 19, var 20, var 21, var 22, var 23, mk 1110 (.int .i64 (0)) [var 0, var 1, var 2, var 3, var 4, var 5, var 6, var 7, var 8, var 9, var 10, var 11, var 12, var 13, var 14, var 15, var 16, var 17, var 24, var 25, var 26, var 27, var 28, var 29], mk 1111 (.int .i64 (0)) [var 0, var 1, var 2, var 3, var 4, var 5, var 6, var 7, var 8, var 9, var 10, var 11, var 12, var 13, var 14, var 15, var 16, var 17, var 24, var 25, var 26, var 27, var 28, var 29], mk 1112 (.int .i64 (0)) [var 0, var 1, var 2, var 3, var 4, var 5, var 6, var 7, var 8, var 9, var 10, var 11, var 12, var 13, var 14, var 15, var 16, var 17, var 24, var 25, var 26, var 27, var 28, var 29], mk 1113 (.int .i64 (0)) [var 0, var 1, var 2, var 3, var 4, var 5, var 6, var 7, var 8, var 9, var 10, var 11, var 12, var 13, var 14, var 15, var 16, var 17, var 24, var 25, var 26, var 27, var 28, var 29], mk 1114 (.int .i64 (0)) [var 0, var 1, var 2, var 3, var 4, var 5, var 6, var 7, var 8, var 9, var 10, var 11, var 12, var 13, var 14, var 15, var 16, var 17, var 24, var 25, var 26, var 27, var 28, var 29], mk 1115 (.int .i64 (0)) [var 0, var 1, var 2, var 3, var 4, var 5, var 6, var 7, var 8, var 9, var 10, var 11, var 12, var 13, var 14, var 15, var 16, var 17, var 24, var 25, var 26, var 27, var 28, var 29]]]⟩) (H' := []) (md := []) (by kernel_rfl) (by kernel_rfl) (by kernel_rfl) w
def es38 : List Ent := e_pApply :: es37
theorem oks38 (L : List Int) : ∀ e ∈ es38, EntOk Tryz.prog (envOf L) e := by
  intro e he
  rcases List.mem_cons.1 he with rfl | h
  · exact entOk_env rfl rfl ok_pApply
  · exact oks37 L e h
def e_dSmall : Ent := ⟨30, [some 2], [.b], 237⟩
theorem ok_dSmall : EntOk Tryz.prog (envOf []) e_dSmall := by
  intro l w hl
  replace hl : l.length = 2 := hl
  obtain ⟨a0, l0, rfl, g0⟩ := list_succ hl
  obtain ⟨a1, l1, rfl, g1⟩ := list_succ g0
  obtain rfl := List.eq_nil_of_length_eq_zero g1
  have E : packV (conRs (envOf []) [a0, a1] 237 [.b]) = .bool (s_dSmall a0 a1) := by kernel_rfl
  show Calls Tryz.prog 30 ([.agg ⟨[num a0, num a1]⟩] : List Value).toArray w fun r w' => r = .returned (packV (conRs (envOf []) [a0, a1] 237 [.b])) ∧ Below w.heap.size w w'
  rw [E]
  cases c0 : (decide ((-1152921504606846976) ≤ a0)) with
  | true =>
    cases c1 : (decide (a0 ≤ a1)) with
    | true =>
      have hs : Sat (envOf [a0, a1]) [(mk 21 (.bool true) [.int .i64 (-1152921504606846976), var 0], .bool true), (mk 21 (.bool true) [var 0, var 1], .bool true)] := sat_cons ⟨300, _, (show evS (envOf [a0, a1]) 300 (mk 21 (.bool true) [.int .i64 (-1152921504606846976), var 0]) = some (.bool (decide ((-1152921504606846976) ≤ a0))) by kernel_rfl).trans (by rw [c0]), rfl⟩ (sat_cons ⟨300, _, (show evS (envOf [a0, a1]) 300 (mk 21 (.bool true) [var 0, var 1]) = some (.bool (decide (a0 ≤ a1))) by kernel_rfl).trans (by rw [c1]), rfl⟩ (sat_nil _))
      have h0 : (s_dSmall a0 a1) = (decide (a1 ≤ 1152921504606846976)) := by simp only [s_dSmall, c0, c1, cond_true]
      rw [h0]
      exact symCall (X := xtOf [a0, a1] [(mk 21 (.bool true) [.int .i64 (-1152921504606846976), var 0], .bool true), (mk 21 (.bool true) [var 0, var 1], .bool true)]) Tryz.mixed Tryz.namedS (xtOf_good _ _ hs) (esc := Tryz.esc) (fuel := 200) (n := 12) (S := sumS (xtOf [a0, a1] [(mk 21 (.bool true) [.int .i64 (-1152921504606846976), var 0], .bool true), (mk 21 (.bool true) [var 0, var 1], .bool true)]) es38) (sumS_good hs _ (oks38 _)) (sumS_pure _ _) (f := 30) (xs := [.agg ⟨[var 0, var 1]⟩]) (v := mk 21 (.bool true) [var 1, .int .i64 (1152921504606846976)]) (H' := []) (md := []) (by kernel_rfl) (by kernel_rfl) (by kernel_rfl) w
    | false =>
      have hs : Sat (envOf [a0, a1]) [(mk 21 (.bool true) [.int .i64 (-1152921504606846976), var 0], .bool true), (mk 21 (.bool true) [var 0, var 1], .bool false)] := sat_cons ⟨300, _, (show evS (envOf [a0, a1]) 300 (mk 21 (.bool true) [.int .i64 (-1152921504606846976), var 0]) = some (.bool (decide ((-1152921504606846976) ≤ a0))) by kernel_rfl).trans (by rw [c0]), rfl⟩ (sat_cons ⟨300, _, (show evS (envOf [a0, a1]) 300 (mk 21 (.bool true) [var 0, var 1]) = some (.bool (decide (a0 ≤ a1))) by kernel_rfl).trans (by rw [c1]), rfl⟩ (sat_nil _))
      have h0 : (s_dSmall a0 a1) = false := by simp only [s_dSmall, c0, c1, cond_true, cond_false]
      rw [h0]
      exact symCall (X := xtOf [a0, a1] [(mk 21 (.bool true) [.int .i64 (-1152921504606846976), var 0], .bool true), (mk 21 (.bool true) [var 0, var 1], .bool false)]) Tryz.mixed Tryz.namedS (xtOf_good _ _ hs) (esc := Tryz.esc) (fuel := 200) (n := 12) (S := sumS (xtOf [a0, a1] [(mk 21 (.bool true) [.int .i64 (-1152921504606846976), var 0], .bool true), (mk 21 (.bool true) [var 0, var 1], .bool false)]) es38) (sumS_good hs _ (oks38 _)) (sumS_pure _ _) (f := 30) (xs := [.agg ⟨[var 0, var 1]⟩]) (v := .bool false) (H' := []) (md := []) (by kernel_rfl) (by kernel_rfl) (by kernel_rfl) w
  | false =>
    have hs : Sat (envOf [a0, a1]) [(mk 21 (.bool true) [.int .i64 (-1152921504606846976), var 0], .bool false)] := sat_cons ⟨300, _, (show evS (envOf [a0, a1]) 300 (mk 21 (.bool true) [.int .i64 (-1152921504606846976), var 0]) = some (.bool (decide ((-1152921504606846976) ≤ a0))) by kernel_rfl).trans (by rw [c0]), rfl⟩ (sat_nil _)
    have h0 : (s_dSmall a0 a1) = false := by simp only [s_dSmall, c0, cond_false]
    rw [h0]
    exact symCall (X := xtOf [a0, a1] [(mk 21 (.bool true) [.int .i64 (-1152921504606846976), var 0], .bool false)]) Tryz.mixed Tryz.namedS (xtOf_good _ _ hs) (esc := Tryz.esc) (fuel := 200) (n := 12) (S := sumS (xtOf [a0, a1] [(mk 21 (.bool true) [.int .i64 (-1152921504606846976), var 0], .bool false)]) es38) (sumS_good hs _ (oks38 _)) (sumS_pure _ _) (f := 30) (xs := [.agg ⟨[var 0, var 1]⟩]) (v := .bool false) (H' := []) (md := []) (by kernel_rfl) (by kernel_rfl) (by kernel_rfl) w
def es39 : List Ent := e_dSmall :: es38
theorem oks39 (L : List Int) : ∀ e ∈ es39, EntOk Tryz.prog (envOf L) e := by
  intro e he
  rcases List.mem_cons.1 he with rfl | h
  · exact entOk_env rfl rfl ok_dSmall
  · exact oks38 L e h
def e_dNeg : Ent := ⟨81, [some 2], [.a 2], 238⟩
theorem ok_dNeg : EntOk Tryz.prog (envOf []) e_dNeg := by
  intro l w hl
  replace hl : l.length = 2 := hl
  obtain ⟨a0, l0, rfl, g0⟩ := list_succ hl
  obtain ⟨a1, l1, rfl, g1⟩ := list_succ g0
  obtain rfl := List.eq_nil_of_length_eq_zero g1
  have E : packV (conRs (envOf []) [a0, a1] 238 [.a 2]) = .agg ⟨[num (s_dNeg_0 a0 a1), num (s_dNeg_1 a0 a1)]⟩ := by kernel_rfl
  show Calls Tryz.prog 81 ([.agg ⟨[num a0, num a1]⟩] : List Value).toArray w fun r w' => r = .returned (packV (conRs (envOf []) [a0, a1] 238 [.a 2])) ∧ Below w.heap.size w w'
  rw [E]
  have hs : Sat (envOf [a0, a1]) [] := sat_nil _
  have h0 : (s_dNeg_0 a0 a1) = (wr (-a1)) := by rfl
  have h1 : (s_dNeg_1 a0 a1) = (wr (-a0)) := by rfl
  rw [h0, h1]
  exact symCall (X := xtOf [a0, a1] []) Tryz.mixed Tryz.namedS (xtOf_good _ _ hs) (esc := Tryz.esc) (fuel := 200) (n := 12) (S := sumS (xtOf [a0, a1] []) es39) (sumS_good hs _ (oks39 _)) (sumS_pure _ _) (f := 81) (xs := [.agg ⟨[var 0, var 1]⟩]) (v := .agg ⟨[mk 14 (.int .i64 (0)) [var 1], mk 14 (.int .i64 (0)) [var 0]]⟩) (H' := []) (md := []) (by kernel_rfl) (by kernel_rfl) (by kernel_rfl) w
def es40 : List Ent := e_dNeg :: es39
theorem oks40 (L : List Int) : ∀ e ∈ es40, EntOk Tryz.prog (envOf L) e := by
  intro e he
  rcases List.mem_cons.1 he with rfl | h
  · exact entOk_env rfl rfl ok_dNeg
  · exact oks39 L e h
def e_dNumber : Ent := ⟨51, [none], [.a 2], 240⟩
theorem ok_dNumber : EntOk Tryz.prog (envOf []) e_dNumber := by
  intro l w hl
  replace hl : l.length = 1 := hl
  obtain ⟨a0, l0, rfl, g0⟩ := list_succ hl
  obtain rfl := List.eq_nil_of_length_eq_zero g0
  have E : packV (conRs (envOf []) [a0] 240 [.a 2]) = .agg ⟨[num (s_dNumber_0 a0), num (s_dNumber_1 a0)]⟩ := by kernel_rfl
  show Calls Tryz.prog 51 ([num a0] : List Value).toArray w fun r w' => r = .returned (packV (conRs (envOf []) [a0] 240 [.a 2])) ∧ Below w.heap.size w w'
  rw [E]
  have hs : Sat (envOf [a0]) [] := sat_nil _
  have h0 : (s_dNumber_0 a0) = a0 := by rfl
  have h1 : (s_dNumber_1 a0) = a0 := by rfl
  rw [h0, h1]
  exact symCall (X := xtOf [a0] []) Tryz.mixed Tryz.namedS (xtOf_good _ _ hs) (esc := Tryz.esc) (fuel := 200) (n := 12) (S := sumS (xtOf [a0] []) es40) (sumS_good hs _ (oks40 _)) (sumS_pure _ _) (f := 51) (xs := [var 0]) (v := .agg ⟨[var 0, var 0]⟩) (H' := []) (md := []) (by kernel_rfl) (by kernel_rfl) (by kernel_rfl) w
def es41 : List Ent := e_dNumber :: es40
theorem oks41 (L : List Int) : ∀ e ∈ es41, EntOk Tryz.prog (envOf L) e := by
  intro e he
  rcases List.mem_cons.1 he with rfl | h
  · exact entOk_env rfl rfl ok_dNumber
  · exact oks40 L e h
def e_dTurns : Ent := ⟨52, [none], [.b], 242⟩
theorem ok_dTurns : EntOk Tryz.prog (envOf []) e_dTurns := by
  intro l w hl
  replace hl : l.length = 1 := hl
  obtain ⟨a0, l0, rfl, g0⟩ := list_succ hl
  obtain rfl := List.eq_nil_of_length_eq_zero g0
  have E : packV (conRs (envOf []) [a0] 242 [.b]) = .bool (s_dTurns a0) := by kernel_rfl
  show Calls Tryz.prog 52 ([num a0] : List Value).toArray w fun r w' => r = .returned (packV (conRs (envOf []) [a0] 242 [.b])) ∧ Below w.heap.size w w'
  rw [E]
  cases c0 : (a0 == 1) with
  | true =>
    have hs : Sat (envOf [a0]) [(mk 24 (.bool true) [var 0, .int .i64 (1)], .bool true)] := sat_cons ⟨300, _, (show evS (envOf [a0]) 300 (mk 24 (.bool true) [var 0, .int .i64 (1)]) = some (.bool (a0 == 1)) by kernel_rfl).trans (by rw [c0]), rfl⟩ (sat_nil _)
    have h0 : (s_dTurns a0) = true := by simp only [s_dTurns, c0, cond_true]
    rw [h0]
    exact symCall (X := xtOf [a0] [(mk 24 (.bool true) [var 0, .int .i64 (1)], .bool true)]) Tryz.mixed Tryz.namedS (xtOf_good _ _ hs) (esc := Tryz.esc) (fuel := 200) (n := 12) (S := sumS (xtOf [a0] [(mk 24 (.bool true) [var 0, .int .i64 (1)], .bool true)]) es41) (sumS_good hs _ (oks41 _)) (sumS_pure _ _) (f := 52) (xs := [var 0]) (v := .bool true) (H' := []) (md := []) (by kernel_rfl) (by kernel_rfl) (by kernel_rfl) w
  | false =>
    cases c1 : (a0 == 2) with
    | true =>
      have hs : Sat (envOf [a0]) [(mk 24 (.bool true) [var 0, .int .i64 (1)], .bool false), (mk 24 (.bool true) [var 0, .int .i64 (2)], .bool true)] := sat_cons ⟨300, _, (show evS (envOf [a0]) 300 (mk 24 (.bool true) [var 0, .int .i64 (1)]) = some (.bool (a0 == 1)) by kernel_rfl).trans (by rw [c0]), rfl⟩ (sat_cons ⟨300, _, (show evS (envOf [a0]) 300 (mk 24 (.bool true) [var 0, .int .i64 (2)]) = some (.bool (a0 == 2)) by kernel_rfl).trans (by rw [c1]), rfl⟩ (sat_nil _))
      have h0 : (s_dTurns a0) = true := by simp only [s_dTurns, c0, c1, cond_true, cond_false]
      rw [h0]
      exact symCall (X := xtOf [a0] [(mk 24 (.bool true) [var 0, .int .i64 (1)], .bool false), (mk 24 (.bool true) [var 0, .int .i64 (2)], .bool true)]) Tryz.mixed Tryz.namedS (xtOf_good _ _ hs) (esc := Tryz.esc) (fuel := 200) (n := 12) (S := sumS (xtOf [a0] [(mk 24 (.bool true) [var 0, .int .i64 (1)], .bool false), (mk 24 (.bool true) [var 0, .int .i64 (2)], .bool true)]) es41) (sumS_good hs _ (oks41 _)) (sumS_pure _ _) (f := 52) (xs := [var 0]) (v := .bool true) (H' := []) (md := []) (by kernel_rfl) (by kernel_rfl) (by kernel_rfl) w
    | false =>
      have hs : Sat (envOf [a0]) [(mk 24 (.bool true) [var 0, .int .i64 (1)], .bool false), (mk 24 (.bool true) [var 0, .int .i64 (2)], .bool false)] := sat_cons ⟨300, _, (show evS (envOf [a0]) 300 (mk 24 (.bool true) [var 0, .int .i64 (1)]) = some (.bool (a0 == 1)) by kernel_rfl).trans (by rw [c0]), rfl⟩ (sat_cons ⟨300, _, (show evS (envOf [a0]) 300 (mk 24 (.bool true) [var 0, .int .i64 (2)]) = some (.bool (a0 == 2)) by kernel_rfl).trans (by rw [c1]), rfl⟩ (sat_nil _))
      have h0 : (s_dTurns a0) = (a0 == 3) := by simp only [s_dTurns, c0, c1, cond_false]
      rw [h0]
      exact symCall (X := xtOf [a0] [(mk 24 (.bool true) [var 0, .int .i64 (1)], .bool false), (mk 24 (.bool true) [var 0, .int .i64 (2)], .bool false)]) Tryz.mixed Tryz.namedS (xtOf_good _ _ hs) (esc := Tryz.esc) (fuel := 200) (n := 12) (S := sumS (xtOf [a0] [(mk 24 (.bool true) [var 0, .int .i64 (1)], .bool false), (mk 24 (.bool true) [var 0, .int .i64 (2)], .bool false)]) es41) (sumS_good hs _ (oks41 _)) (sumS_pure _ _) (f := 52) (xs := [var 0]) (v := mk 24 (.bool true) [var 0, .int .i64 (3)]) (H' := []) (md := []) (by kernel_rfl) (by kernel_rfl) (by kernel_rfl) w
def es42 : List Ent := e_dTurns :: es41
theorem oks42 (L : List Int) : ∀ e ∈ es42, EntOk Tryz.prog (envOf L) e := by
  intro e he
  rcases List.mem_cons.1 he with rfl | h
  · exact entOk_env rfl rfl ok_dTurns
  · exact oks41 L e h
def e_dAdd : Ent := ⟨13, [some 2, some 2], [.a 2, .b], 243⟩
theorem ok_dAdd : EntOk Tryz.prog (envOf []) e_dAdd := by
  intro l w hl
  replace hl : l.length = 4 := hl
  obtain ⟨a0, l0, rfl, g0⟩ := list_succ hl
  obtain ⟨a1, l1, rfl, g1⟩ := list_succ g0
  obtain ⟨a2, l2, rfl, g2⟩ := list_succ g1
  obtain ⟨a3, l3, rfl, g3⟩ := list_succ g2
  obtain rfl := List.eq_nil_of_length_eq_zero g3
  have E : packV (conRs (envOf []) [a0, a1, a2, a3] 243 [.a 2, .b]) = .tuple ⟨[.agg ⟨[num (s_dAdd_0 a0 a1 a2 a3), num (s_dAdd_1 a0 a1 a2 a3)]⟩, .bool (s_dAdd_2 a0 a1 a2 a3)]⟩ := by kernel_rfl
  show Calls Tryz.prog 13 ([.agg ⟨[num a0, num a1]⟩, .agg ⟨[num a2, num a3]⟩] : List Value).toArray w fun r w' => r = .returned (packV (conRs (envOf []) [a0, a1, a2, a3] 243 [.a 2, .b])) ∧ Below w.heap.size w w'
  rw [E]
  cases c0 : (s_dSmall a0 a1) with
  | true =>
    cases c1 : (s_dSmall a2 a3) with
    | true =>
      cases c2 : (s_dSmall (wr (a0 + a2)) (wr (a1 + a3))) with
      | true =>
        have hs : Sat (envOf [a0, a1, a2, a3]) [(mk 1237 (.bool true) [var 0, var 1], .bool true), (mk 1237 (.bool true) [var 2, var 3], .bool true), (mk 1237 (.bool true) [mk 2 (.int .i64 (0)) [var 0, var 2], mk 2 (.int .i64 (0)) [var 1, var 3]], .bool true)] := sat_cons ⟨300, _, (show evS (envOf [a0, a1, a2, a3]) 300 (mk 1237 (.bool true) [var 0, var 1]) = some (.bool (s_dSmall a0 a1)) by kernel_rfl).trans (by rw [c0]), rfl⟩ (sat_cons ⟨300, _, (show evS (envOf [a0, a1, a2, a3]) 300 (mk 1237 (.bool true) [var 2, var 3]) = some (.bool (s_dSmall a2 a3)) by kernel_rfl).trans (by rw [c1]), rfl⟩ (sat_cons ⟨300, _, (show evS (envOf [a0, a1, a2, a3]) 300 (mk 1237 (.bool true) [mk 2 (.int .i64 (0)) [var 0, var 2], mk 2 (.int .i64 (0)) [var 1, var 3]]) = some (.bool (s_dSmall (wr (a0 + a2)) (wr (a1 + a3)))) by kernel_rfl).trans (by rw [c2]), rfl⟩ (sat_nil _)))
        have h0 : (s_dAdd_0 a0 a1 a2 a3) = (wr (a0 + a2)) := by simp only [s_dAdd_0, c0, c1, c2, cond_true]
        have h1 : (s_dAdd_1 a0 a1 a2 a3) = (wr (a1 + a3)) := by simp only [s_dAdd_1, c0, c1, c2, cond_true]
        have h2 : (s_dAdd_2 a0 a1 a2 a3) = true := by simp only [s_dAdd_2, c0, c1, c2, cond_true]
        rw [h0, h1, h2]
        exact symCall (X := xtOf [a0, a1, a2, a3] [(mk 1237 (.bool true) [var 0, var 1], .bool true), (mk 1237 (.bool true) [var 2, var 3], .bool true), (mk 1237 (.bool true) [mk 2 (.int .i64 (0)) [var 0, var 2], mk 2 (.int .i64 (0)) [var 1, var 3]], .bool true)]) Tryz.mixed Tryz.namedS (xtOf_good _ _ hs) (esc := Tryz.esc) (fuel := 200) (n := 12) (S := sumS (xtOf [a0, a1, a2, a3] [(mk 1237 (.bool true) [var 0, var 1], .bool true), (mk 1237 (.bool true) [var 2, var 3], .bool true), (mk 1237 (.bool true) [mk 2 (.int .i64 (0)) [var 0, var 2], mk 2 (.int .i64 (0)) [var 1, var 3]], .bool true)]) es42) (sumS_good hs _ (oks42 _)) (sumS_pure _ _) (f := 13) (xs := [.agg ⟨[var 0, var 1]⟩, .agg ⟨[var 2, var 3]⟩]) (v := .tuple ⟨[.agg ⟨[mk 2 (.int .i64 (0)) [var 0, var 2], mk 2 (.int .i64 (0)) [var 1, var 3]]⟩, .bool true]⟩) (H' := []) (md := []) (by kernel_rfl) (by kernel_rfl) (by kernel_rfl) w
      | false =>
        have hs : Sat (envOf [a0, a1, a2, a3]) [(mk 1237 (.bool true) [var 0, var 1], .bool true), (mk 1237 (.bool true) [var 2, var 3], .bool true), (mk 1237 (.bool true) [mk 2 (.int .i64 (0)) [var 0, var 2], mk 2 (.int .i64 (0)) [var 1, var 3]], .bool false)] := sat_cons ⟨300, _, (show evS (envOf [a0, a1, a2, a3]) 300 (mk 1237 (.bool true) [var 0, var 1]) = some (.bool (s_dSmall a0 a1)) by kernel_rfl).trans (by rw [c0]), rfl⟩ (sat_cons ⟨300, _, (show evS (envOf [a0, a1, a2, a3]) 300 (mk 1237 (.bool true) [var 2, var 3]) = some (.bool (s_dSmall a2 a3)) by kernel_rfl).trans (by rw [c1]), rfl⟩ (sat_cons ⟨300, _, (show evS (envOf [a0, a1, a2, a3]) 300 (mk 1237 (.bool true) [mk 2 (.int .i64 (0)) [var 0, var 2], mk 2 (.int .i64 (0)) [var 1, var 3]]) = some (.bool (s_dSmall (wr (a0 + a2)) (wr (a1 + a3)))) by kernel_rfl).trans (by rw [c2]), rfl⟩ (sat_nil _)))
        have h0 : (s_dAdd_0 a0 a1 a2 a3) = 0 := by simp only [s_dAdd_0, c0, c1, c2, cond_true, cond_false]
        have h1 : (s_dAdd_1 a0 a1 a2 a3) = 0 := by simp only [s_dAdd_1, c0, c1, c2, cond_true, cond_false]
        have h2 : (s_dAdd_2 a0 a1 a2 a3) = false := by simp only [s_dAdd_2, c0, c1, c2, cond_true, cond_false]
        rw [h0, h1, h2]
        exact symCall (X := xtOf [a0, a1, a2, a3] [(mk 1237 (.bool true) [var 0, var 1], .bool true), (mk 1237 (.bool true) [var 2, var 3], .bool true), (mk 1237 (.bool true) [mk 2 (.int .i64 (0)) [var 0, var 2], mk 2 (.int .i64 (0)) [var 1, var 3]], .bool false)]) Tryz.mixed Tryz.namedS (xtOf_good _ _ hs) (esc := Tryz.esc) (fuel := 200) (n := 12) (S := sumS (xtOf [a0, a1, a2, a3] [(mk 1237 (.bool true) [var 0, var 1], .bool true), (mk 1237 (.bool true) [var 2, var 3], .bool true), (mk 1237 (.bool true) [mk 2 (.int .i64 (0)) [var 0, var 2], mk 2 (.int .i64 (0)) [var 1, var 3]], .bool false)]) es42) (sumS_good hs _ (oks42 _)) (sumS_pure _ _) (f := 13) (xs := [.agg ⟨[var 0, var 1]⟩, .agg ⟨[var 2, var 3]⟩]) (v := .tuple ⟨[.agg ⟨[.int .i64 (0), .int .i64 (0)]⟩, .bool false]⟩) (H' := []) (md := []) (by kernel_rfl) (by kernel_rfl) (by kernel_rfl) w
    | false =>
      have hs : Sat (envOf [a0, a1, a2, a3]) [(mk 1237 (.bool true) [var 0, var 1], .bool true), (mk 1237 (.bool true) [var 2, var 3], .bool false)] := sat_cons ⟨300, _, (show evS (envOf [a0, a1, a2, a3]) 300 (mk 1237 (.bool true) [var 0, var 1]) = some (.bool (s_dSmall a0 a1)) by kernel_rfl).trans (by rw [c0]), rfl⟩ (sat_cons ⟨300, _, (show evS (envOf [a0, a1, a2, a3]) 300 (mk 1237 (.bool true) [var 2, var 3]) = some (.bool (s_dSmall a2 a3)) by kernel_rfl).trans (by rw [c1]), rfl⟩ (sat_nil _))
      have h0 : (s_dAdd_0 a0 a1 a2 a3) = 0 := by simp only [s_dAdd_0, c0, c1, cond_true, cond_false]
      have h1 : (s_dAdd_1 a0 a1 a2 a3) = 0 := by simp only [s_dAdd_1, c0, c1, cond_true, cond_false]
      have h2 : (s_dAdd_2 a0 a1 a2 a3) = false := by simp only [s_dAdd_2, c0, c1, cond_true, cond_false]
      rw [h0, h1, h2]
      exact symCall (X := xtOf [a0, a1, a2, a3] [(mk 1237 (.bool true) [var 0, var 1], .bool true), (mk 1237 (.bool true) [var 2, var 3], .bool false)]) Tryz.mixed Tryz.namedS (xtOf_good _ _ hs) (esc := Tryz.esc) (fuel := 200) (n := 12) (S := sumS (xtOf [a0, a1, a2, a3] [(mk 1237 (.bool true) [var 0, var 1], .bool true), (mk 1237 (.bool true) [var 2, var 3], .bool false)]) es42) (sumS_good hs _ (oks42 _)) (sumS_pure _ _) (f := 13) (xs := [.agg ⟨[var 0, var 1]⟩, .agg ⟨[var 2, var 3]⟩]) (v := .tuple ⟨[.agg ⟨[.int .i64 (0), .int .i64 (0)]⟩, .bool false]⟩) (H' := []) (md := []) (by kernel_rfl) (by kernel_rfl) (by kernel_rfl) w
  | false =>
    have hs : Sat (envOf [a0, a1, a2, a3]) [(mk 1237 (.bool true) [var 0, var 1], .bool false)] := sat_cons ⟨300, _, (show evS (envOf [a0, a1, a2, a3]) 300 (mk 1237 (.bool true) [var 0, var 1]) = some (.bool (s_dSmall a0 a1)) by kernel_rfl).trans (by rw [c0]), rfl⟩ (sat_nil _)
    have h0 : (s_dAdd_0 a0 a1 a2 a3) = 0 := by simp only [s_dAdd_0, c0, cond_false]
    have h1 : (s_dAdd_1 a0 a1 a2 a3) = 0 := by simp only [s_dAdd_1, c0, cond_false]
    have h2 : (s_dAdd_2 a0 a1 a2 a3) = false := by simp only [s_dAdd_2, c0, cond_false]
    rw [h0, h1, h2]
    exact symCall (X := xtOf [a0, a1, a2, a3] [(mk 1237 (.bool true) [var 0, var 1], .bool false)]) Tryz.mixed Tryz.namedS (xtOf_good _ _ hs) (esc := Tryz.esc) (fuel := 200) (n := 12) (S := sumS (xtOf [a0, a1, a2, a3] [(mk 1237 (.bool true) [var 0, var 1], .bool false)]) es42) (sumS_good hs _ (oks42 _)) (sumS_pure _ _) (f := 13) (xs := [.agg ⟨[var 0, var 1]⟩, .agg ⟨[var 2, var 3]⟩]) (v := .tuple ⟨[.agg ⟨[.int .i64 (0), .int .i64 (0)]⟩, .bool false]⟩) (H' := []) (md := []) (by kernel_rfl) (by kernel_rfl) (by kernel_rfl) w
def es43 : List Ent := e_dAdd :: es42
theorem oks43 (L : List Int) : ∀ e ∈ es43, EntOk Tryz.prog (envOf L) e := by
  intro e he
  rcases List.mem_cons.1 he with rfl | h
  · exact entOk_env rfl rfl ok_dAdd
  · exact oks42 L e h
def e_dMul : Ent := ⟨12, [some 2, some 2], [.a 2, .b], 246⟩
theorem ok_dMul : EntOk Tryz.prog (envOf []) e_dMul := by
  intro l w hl
  replace hl : l.length = 4 := hl
  obtain ⟨a0, l0, rfl, g0⟩ := list_succ hl
  obtain ⟨a1, l1, rfl, g1⟩ := list_succ g0
  obtain ⟨a2, l2, rfl, g2⟩ := list_succ g1
  obtain ⟨a3, l3, rfl, g3⟩ := list_succ g2
  obtain rfl := List.eq_nil_of_length_eq_zero g3
  have E : packV (conRs (envOf []) [a0, a1, a2, a3] 246 [.a 2, .b]) = .tuple ⟨[.agg ⟨[num (s_dMul_0 a0 a1 a2 a3), num (s_dMul_1 a0 a1 a2 a3)]⟩, .bool (s_dMul_2 a0 a1 a2 a3)]⟩ := by kernel_rfl
  show Calls Tryz.prog 12 ([.agg ⟨[num a0, num a1]⟩, .agg ⟨[num a2, num a3]⟩] : List Value).toArray w fun r w' => r = .returned (packV (conRs (envOf []) [a0, a1, a2, a3] 246 [.a 2, .b])) ∧ Below w.heap.size w w'
  rw [E]
  obtain ⟨lo, hi, ok, h1, h2, h3, h4⟩ := En.mul_all a0 a1 a2 a3
  refine (h4 w).mono ?_
  rintro e w' ⟨rfl, hb⟩
  refine ⟨?_, hb⟩
  cases ok with
  | true =>
    obtain ⟨rfl, rfl⟩ := h2 rfl
    simp only [s_dMul_0, s_dMul_1, s_dMul_2, ← h1, cond_true]
    rfl
  | false =>
    obtain ⟨rfl, rfl⟩ := h3 rfl
    simp only [s_dMul_0, s_dMul_1, s_dMul_2, ← h1, cond_false]
    rfl
def es44 : List Ent := e_dMul :: es43
theorem oks44 (L : List Int) : ∀ e ∈ es44, EntOk Tryz.prog (envOf L) e := by
  intro e he
  rcases List.mem_cons.1 he with rfl | h
  · exact entOk_env rfl rfl ok_dMul
  · exact oks43 L e h
def e_dAxis : Ent := ⟨70, [none, some 18], [.a 6], 249⟩
theorem ok_dAxis : EntOk Tryz.prog (envOf []) e_dAxis := by
  intro l w hl
  replace hl : l.length = 19 := hl
  obtain ⟨a0, l0, rfl, g0⟩ := list_succ hl
  obtain ⟨a1, l1, rfl, g1⟩ := list_succ g0
  obtain ⟨a2, l2, rfl, g2⟩ := list_succ g1
  obtain ⟨a3, l3, rfl, g3⟩ := list_succ g2
  obtain ⟨a4, l4, rfl, g4⟩ := list_succ g3
  obtain ⟨a5, l5, rfl, g5⟩ := list_succ g4
  obtain ⟨a6, l6, rfl, g6⟩ := list_succ g5
  obtain ⟨a7, l7, rfl, g7⟩ := list_succ g6
  obtain ⟨a8, l8, rfl, g8⟩ := list_succ g7
  obtain ⟨a9, l9, rfl, g9⟩ := list_succ g8
  obtain ⟨a10, l10, rfl, g10⟩ := list_succ g9
  obtain ⟨a11, l11, rfl, g11⟩ := list_succ g10
  obtain ⟨a12, l12, rfl, g12⟩ := list_succ g11
  obtain ⟨a13, l13, rfl, g13⟩ := list_succ g12
  obtain ⟨a14, l14, rfl, g14⟩ := list_succ g13
  obtain ⟨a15, l15, rfl, g15⟩ := list_succ g14
  obtain ⟨a16, l16, rfl, g16⟩ := list_succ g15
  obtain ⟨a17, l17, rfl, g17⟩ := list_succ g16
  obtain ⟨a18, l18, rfl, g18⟩ := list_succ g17
  obtain rfl := List.eq_nil_of_length_eq_zero g18
  have E : packV (conRs (envOf []) [a0, a1, a2, a3, a4, a5, a6, a7, a8, a9, a10, a11, a12, a13, a14, a15, a16, a17, a18] 249 [.a 6]) = .agg ⟨[num (s_dAxis_0 a0 a1 a2 a3 a4 a5 a6 a7 a8 a9 a10 a11 a12 a13 a14 a15 a16 a17 a18), num (s_dAxis_1 a0 a1 a2 a3 a4 a5 a6 a7 a8 a9 a10 a11 a12 a13 a14 a15 a16 a17 a18), num (s_dAxis_2 a0 a1 a2 a3 a4 a5 a6 a7 a8 a9 a10 a11 a12 a13 a14 a15 a16 a17 a18), num (s_dAxis_3 a0 a1 a2 a3 a4 a5 a6 a7 a8 a9 a10 a11 a12 a13 a14 a15 a16 a17 a18), num (s_dAxis_4 a0 a1 a2 a3 a4 a5 a6 a7 a8 a9 a10 a11 a12 a13 a14 a15 a16 a17 a18), num (s_dAxis_5 a0 a1 a2 a3 a4 a5 a6 a7 a8 a9 a10 a11 a12 a13 a14 a15 a16 a17 a18)]⟩ := by kernel_rfl
  show Calls Tryz.prog 70 ([num a0, .agg ⟨[num a1, num a2, num a3, num a4, num a5, num a6, num a7, num a8, num a9, num a10, num a11, num a12, num a13, num a14, num a15, num a16, num a17, num a18]⟩] : List Value).toArray w fun r w' => r = .returned (packV (conRs (envOf []) [a0, a1, a2, a3, a4, a5, a6, a7, a8, a9, a10, a11, a12, a13, a14, a15, a16, a17, a18] 249 [.a 6])) ∧ Below w.heap.size w w'
  rw [E]
  cases c0 : (a0 == 2) with
  | true =>
    have hs : Sat (envOf [a0, a1, a2, a3, a4, a5, a6, a7, a8, a9, a10, a11, a12, a13, a14, a15, a16, a17, a18]) [(mk 24 (.bool true) [var 0, .int .i64 (2)], .bool true)] := sat_cons ⟨300, _, (show evS (envOf [a0, a1, a2, a3, a4, a5, a6, a7, a8, a9, a10, a11, a12, a13, a14, a15, a16, a17, a18]) 300 (mk 24 (.bool true) [var 0, .int .i64 (2)]) = some (.bool (a0 == 2)) by kernel_rfl).trans (by rw [c0]), rfl⟩ (sat_nil _)
    have h0 : (s_dAxis_0 a0 a1 a2 a3 a4 a5 a6 a7 a8 a9 a10 a11 a12 a13 a14 a15 a16 a17 a18) = a3 := by simp only [s_dAxis_0, c0, cond_true]
    have h1 : (s_dAxis_1 a0 a1 a2 a3 a4 a5 a6 a7 a8 a9 a10 a11 a12 a13 a14 a15 a16 a17 a18) = a4 := by simp only [s_dAxis_1, c0, cond_true]
    have h2 : (s_dAxis_2 a0 a1 a2 a3 a4 a5 a6 a7 a8 a9 a10 a11 a12 a13 a14 a15 a16 a17 a18) = a9 := by simp only [s_dAxis_2, c0, cond_true]
    have h3 : (s_dAxis_3 a0 a1 a2 a3 a4 a5 a6 a7 a8 a9 a10 a11 a12 a13 a14 a15 a16 a17 a18) = a10 := by simp only [s_dAxis_3, c0, cond_true]
    have h4 : (s_dAxis_4 a0 a1 a2 a3 a4 a5 a6 a7 a8 a9 a10 a11 a12 a13 a14 a15 a16 a17 a18) = a15 := by simp only [s_dAxis_4, c0, cond_true]
    have h5 : (s_dAxis_5 a0 a1 a2 a3 a4 a5 a6 a7 a8 a9 a10 a11 a12 a13 a14 a15 a16 a17 a18) = a16 := by simp only [s_dAxis_5, c0, cond_true]
    rw [h0, h1, h2, h3, h4, h5]
    exact symCall (X := xtOf [a0, a1, a2, a3, a4, a5, a6, a7, a8, a9, a10, a11, a12, a13, a14, a15, a16, a17, a18] [(mk 24 (.bool true) [var 0, .int .i64 (2)], .bool true)]) Tryz.mixed Tryz.namedS (xtOf_good _ _ hs) (esc := Tryz.esc) (fuel := 200) (n := 12) (S := sumS (xtOf [a0, a1, a2, a3, a4, a5, a6, a7, a8, a9, a10, a11, a12, a13, a14, a15, a16, a17, a18] [(mk 24 (.bool true) [var 0, .int .i64 (2)], .bool true)]) es44) (sumS_good hs _ (oks44 _)) (sumS_pure _ _) (f := 70) (xs := [var 0, .agg ⟨[var 1, var 2, var 3, var 4, var 5, var 6, var 7, var 8, var 9, var 10, var 11, var 12, var 13, var 14, var 15, var 16, var 17, var 18]⟩]) (v := .agg ⟨[var 3, var 4, var 9, var 10, var 15, var 16]⟩) (H' := []) (md := []) (by kernel_rfl) (by kernel_rfl) (by kernel_rfl) w
  | false =>
    cases c1 : (a0 == 5) with
    | true =>
      have hs : Sat (envOf [a0, a1, a2, a3, a4, a5, a6, a7, a8, a9, a10, a11, a12, a13, a14, a15, a16, a17, a18]) [(mk 24 (.bool true) [var 0, .int .i64 (2)], .bool false), (mk 24 (.bool true) [var 0, .int .i64 (5)], .bool true)] := sat_cons ⟨300, _, (show evS (envOf [a0, a1, a2, a3, a4, a5, a6, a7, a8, a9, a10, a11, a12, a13, a14, a15, a16, a17, a18]) 300 (mk 24 (.bool true) [var 0, .int .i64 (2)]) = some (.bool (a0 == 2)) by kernel_rfl).trans (by rw [c0]), rfl⟩ (sat_cons ⟨300, _, (show evS (envOf [a0, a1, a2, a3, a4, a5, a6, a7, a8, a9, a10, a11, a12, a13, a14, a15, a16, a17, a18]) 300 (mk 24 (.bool true) [var 0, .int .i64 (5)]) = some (.bool (a0 == 5)) by kernel_rfl).trans (by rw [c1]), rfl⟩ (sat_nil _))
      have h0 : (s_dAxis_0 a0 a1 a2 a3 a4 a5 a6 a7 a8 a9 a10 a11 a12 a13 a14 a15 a16 a17 a18) = a3 := by simp only [s_dAxis_0, c0, c1, cond_true, cond_false]
      have h1 : (s_dAxis_1 a0 a1 a2 a3 a4 a5 a6 a7 a8 a9 a10 a11 a12 a13 a14 a15 a16 a17 a18) = a4 := by simp only [s_dAxis_1, c0, c1, cond_true, cond_false]
      have h2 : (s_dAxis_2 a0 a1 a2 a3 a4 a5 a6 a7 a8 a9 a10 a11 a12 a13 a14 a15 a16 a17 a18) = a9 := by simp only [s_dAxis_2, c0, c1, cond_true, cond_false]
      have h3 : (s_dAxis_3 a0 a1 a2 a3 a4 a5 a6 a7 a8 a9 a10 a11 a12 a13 a14 a15 a16 a17 a18) = a10 := by simp only [s_dAxis_3, c0, c1, cond_true, cond_false]
      have h4 : (s_dAxis_4 a0 a1 a2 a3 a4 a5 a6 a7 a8 a9 a10 a11 a12 a13 a14 a15 a16 a17 a18) = a15 := by simp only [s_dAxis_4, c0, c1, cond_true, cond_false]
      have h5 : (s_dAxis_5 a0 a1 a2 a3 a4 a5 a6 a7 a8 a9 a10 a11 a12 a13 a14 a15 a16 a17 a18) = a16 := by simp only [s_dAxis_5, c0, c1, cond_true, cond_false]
      rw [h0, h1, h2, h3, h4, h5]
      exact symCall (X := xtOf [a0, a1, a2, a3, a4, a5, a6, a7, a8, a9, a10, a11, a12, a13, a14, a15, a16, a17, a18] [(mk 24 (.bool true) [var 0, .int .i64 (2)], .bool false), (mk 24 (.bool true) [var 0, .int .i64 (5)], .bool true)]) Tryz.mixed Tryz.namedS (xtOf_good _ _ hs) (esc := Tryz.esc) (fuel := 200) (n := 12) (S := sumS (xtOf [a0, a1, a2, a3, a4, a5, a6, a7, a8, a9, a10, a11, a12, a13, a14, a15, a16, a17, a18] [(mk 24 (.bool true) [var 0, .int .i64 (2)], .bool false), (mk 24 (.bool true) [var 0, .int .i64 (5)], .bool true)]) es44) (sumS_good hs _ (oks44 _)) (sumS_pure _ _) (f := 70) (xs := [var 0, .agg ⟨[var 1, var 2, var 3, var 4, var 5, var 6, var 7, var 8, var 9, var 10, var 11, var 12, var 13, var 14, var 15, var 16, var 17, var 18]⟩]) (v := .agg ⟨[var 3, var 4, var 9, var 10, var 15, var 16]⟩) (H' := []) (md := []) (by kernel_rfl) (by kernel_rfl) (by kernel_rfl) w
    | false =>
      cases c2 : (a0 == 3) with
      | true =>
        have hs : Sat (envOf [a0, a1, a2, a3, a4, a5, a6, a7, a8, a9, a10, a11, a12, a13, a14, a15, a16, a17, a18]) [(mk 24 (.bool true) [var 0, .int .i64 (2)], .bool false), (mk 24 (.bool true) [var 0, .int .i64 (5)], .bool false), (mk 24 (.bool true) [var 0, .int .i64 (3)], .bool true)] := sat_cons ⟨300, _, (show evS (envOf [a0, a1, a2, a3, a4, a5, a6, a7, a8, a9, a10, a11, a12, a13, a14, a15, a16, a17, a18]) 300 (mk 24 (.bool true) [var 0, .int .i64 (2)]) = some (.bool (a0 == 2)) by kernel_rfl).trans (by rw [c0]), rfl⟩ (sat_cons ⟨300, _, (show evS (envOf [a0, a1, a2, a3, a4, a5, a6, a7, a8, a9, a10, a11, a12, a13, a14, a15, a16, a17, a18]) 300 (mk 24 (.bool true) [var 0, .int .i64 (5)]) = some (.bool (a0 == 5)) by kernel_rfl).trans (by rw [c1]), rfl⟩ (sat_cons ⟨300, _, (show evS (envOf [a0, a1, a2, a3, a4, a5, a6, a7, a8, a9, a10, a11, a12, a13, a14, a15, a16, a17, a18]) 300 (mk 24 (.bool true) [var 0, .int .i64 (3)]) = some (.bool (a0 == 3)) by kernel_rfl).trans (by rw [c2]), rfl⟩ (sat_nil _)))
        have h0 : (s_dAxis_0 a0 a1 a2 a3 a4 a5 a6 a7 a8 a9 a10 a11 a12 a13 a14 a15 a16 a17 a18) = a5 := by simp only [s_dAxis_0, c0, c1, c2, cond_true, cond_false]
        have h1 : (s_dAxis_1 a0 a1 a2 a3 a4 a5 a6 a7 a8 a9 a10 a11 a12 a13 a14 a15 a16 a17 a18) = a6 := by simp only [s_dAxis_1, c0, c1, c2, cond_true, cond_false]
        have h2 : (s_dAxis_2 a0 a1 a2 a3 a4 a5 a6 a7 a8 a9 a10 a11 a12 a13 a14 a15 a16 a17 a18) = a11 := by simp only [s_dAxis_2, c0, c1, c2, cond_true, cond_false]
        have h3 : (s_dAxis_3 a0 a1 a2 a3 a4 a5 a6 a7 a8 a9 a10 a11 a12 a13 a14 a15 a16 a17 a18) = a12 := by simp only [s_dAxis_3, c0, c1, c2, cond_true, cond_false]
        have h4 : (s_dAxis_4 a0 a1 a2 a3 a4 a5 a6 a7 a8 a9 a10 a11 a12 a13 a14 a15 a16 a17 a18) = a17 := by simp only [s_dAxis_4, c0, c1, c2, cond_true, cond_false]
        have h5 : (s_dAxis_5 a0 a1 a2 a3 a4 a5 a6 a7 a8 a9 a10 a11 a12 a13 a14 a15 a16 a17 a18) = a18 := by simp only [s_dAxis_5, c0, c1, c2, cond_true, cond_false]
        rw [h0, h1, h2, h3, h4, h5]
        exact symCall (X := xtOf [a0, a1, a2, a3, a4, a5, a6, a7, a8, a9, a10, a11, a12, a13, a14, a15, a16, a17, a18] [(mk 24 (.bool true) [var 0, .int .i64 (2)], .bool false), (mk 24 (.bool true) [var 0, .int .i64 (5)], .bool false), (mk 24 (.bool true) [var 0, .int .i64 (3)], .bool true)]) Tryz.mixed Tryz.namedS (xtOf_good _ _ hs) (esc := Tryz.esc) (fuel := 200) (n := 12) (S := sumS (xtOf [a0, a1, a2, a3, a4, a5, a6, a7, a8, a9, a10, a11, a12, a13, a14, a15, a16, a17, a18] [(mk 24 (.bool true) [var 0, .int .i64 (2)], .bool false), (mk 24 (.bool true) [var 0, .int .i64 (5)], .bool false), (mk 24 (.bool true) [var 0, .int .i64 (3)], .bool true)]) es44) (sumS_good hs _ (oks44 _)) (sumS_pure _ _) (f := 70) (xs := [var 0, .agg ⟨[var 1, var 2, var 3, var 4, var 5, var 6, var 7, var 8, var 9, var 10, var 11, var 12, var 13, var 14, var 15, var 16, var 17, var 18]⟩]) (v := .agg ⟨[var 5, var 6, var 11, var 12, var 17, var 18]⟩) (H' := []) (md := []) (by kernel_rfl) (by kernel_rfl) (by kernel_rfl) w
      | false =>
        cases c3 : (a0 == 6) with
        | true =>
          have hs : Sat (envOf [a0, a1, a2, a3, a4, a5, a6, a7, a8, a9, a10, a11, a12, a13, a14, a15, a16, a17, a18]) [(mk 24 (.bool true) [var 0, .int .i64 (2)], .bool false), (mk 24 (.bool true) [var 0, .int .i64 (5)], .bool false), (mk 24 (.bool true) [var 0, .int .i64 (3)], .bool false), (mk 24 (.bool true) [var 0, .int .i64 (6)], .bool true)] := sat_cons ⟨300, _, (show evS (envOf [a0, a1, a2, a3, a4, a5, a6, a7, a8, a9, a10, a11, a12, a13, a14, a15, a16, a17, a18]) 300 (mk 24 (.bool true) [var 0, .int .i64 (2)]) = some (.bool (a0 == 2)) by kernel_rfl).trans (by rw [c0]), rfl⟩ (sat_cons ⟨300, _, (show evS (envOf [a0, a1, a2, a3, a4, a5, a6, a7, a8, a9, a10, a11, a12, a13, a14, a15, a16, a17, a18]) 300 (mk 24 (.bool true) [var 0, .int .i64 (5)]) = some (.bool (a0 == 5)) by kernel_rfl).trans (by rw [c1]), rfl⟩ (sat_cons ⟨300, _, (show evS (envOf [a0, a1, a2, a3, a4, a5, a6, a7, a8, a9, a10, a11, a12, a13, a14, a15, a16, a17, a18]) 300 (mk 24 (.bool true) [var 0, .int .i64 (3)]) = some (.bool (a0 == 3)) by kernel_rfl).trans (by rw [c2]), rfl⟩ (sat_cons ⟨300, _, (show evS (envOf [a0, a1, a2, a3, a4, a5, a6, a7, a8, a9, a10, a11, a12, a13, a14, a15, a16, a17, a18]) 300 (mk 24 (.bool true) [var 0, .int .i64 (6)]) = some (.bool (a0 == 6)) by kernel_rfl).trans (by rw [c3]), rfl⟩ (sat_nil _))))
          have h0 : (s_dAxis_0 a0 a1 a2 a3 a4 a5 a6 a7 a8 a9 a10 a11 a12 a13 a14 a15 a16 a17 a18) = a5 := by simp only [s_dAxis_0, c0, c1, c2, c3, cond_true, cond_false]
          have h1 : (s_dAxis_1 a0 a1 a2 a3 a4 a5 a6 a7 a8 a9 a10 a11 a12 a13 a14 a15 a16 a17 a18) = a6 := by simp only [s_dAxis_1, c0, c1, c2, c3, cond_true, cond_false]
          have h2 : (s_dAxis_2 a0 a1 a2 a3 a4 a5 a6 a7 a8 a9 a10 a11 a12 a13 a14 a15 a16 a17 a18) = a11 := by simp only [s_dAxis_2, c0, c1, c2, c3, cond_true, cond_false]
          have h3 : (s_dAxis_3 a0 a1 a2 a3 a4 a5 a6 a7 a8 a9 a10 a11 a12 a13 a14 a15 a16 a17 a18) = a12 := by simp only [s_dAxis_3, c0, c1, c2, c3, cond_true, cond_false]
          have h4 : (s_dAxis_4 a0 a1 a2 a3 a4 a5 a6 a7 a8 a9 a10 a11 a12 a13 a14 a15 a16 a17 a18) = a17 := by simp only [s_dAxis_4, c0, c1, c2, c3, cond_true, cond_false]
          have h5 : (s_dAxis_5 a0 a1 a2 a3 a4 a5 a6 a7 a8 a9 a10 a11 a12 a13 a14 a15 a16 a17 a18) = a18 := by simp only [s_dAxis_5, c0, c1, c2, c3, cond_true, cond_false]
          rw [h0, h1, h2, h3, h4, h5]
          exact symCall (X := xtOf [a0, a1, a2, a3, a4, a5, a6, a7, a8, a9, a10, a11, a12, a13, a14, a15, a16, a17, a18] [(mk 24 (.bool true) [var 0, .int .i64 (2)], .bool false), (mk 24 (.bool true) [var 0, .int .i64 (5)], .bool false), (mk 24 (.bool true) [var 0, .int .i64 (3)], .bool false), (mk 24 (.bool true) [var 0, .int .i64 (6)], .bool true)]) Tryz.mixed Tryz.namedS (xtOf_good _ _ hs) (esc := Tryz.esc) (fuel := 200) (n := 12) (S := sumS (xtOf [a0, a1, a2, a3, a4, a5, a6, a7, a8, a9, a10, a11, a12, a13, a14, a15, a16, a17, a18] [(mk 24 (.bool true) [var 0, .int .i64 (2)], .bool false), (mk 24 (.bool true) [var 0, .int .i64 (5)], .bool false), (mk 24 (.bool true) [var 0, .int .i64 (3)], .bool false), (mk 24 (.bool true) [var 0, .int .i64 (6)], .bool true)]) es44) (sumS_good hs _ (oks44 _)) (sumS_pure _ _) (f := 70) (xs := [var 0, .agg ⟨[var 1, var 2, var 3, var 4, var 5, var 6, var 7, var 8, var 9, var 10, var 11, var 12, var 13, var 14, var 15, var 16, var 17, var 18]⟩]) (v := .agg ⟨[var 5, var 6, var 11, var 12, var 17, var 18]⟩) (H' := []) (md := []) (by kernel_rfl) (by kernel_rfl) (by kernel_rfl) w
        | false =>
          have hs : Sat (envOf [a0, a1, a2, a3, a4, a5, a6, a7, a8, a9, a10, a11, a12, a13, a14, a15, a16, a17, a18]) [(mk 24 (.bool true) [var 0, .int .i64 (2)], .bool false), (mk 24 (.bool true) [var 0, .int .i64 (5)], .bool false), (mk 24 (.bool true) [var 0, .int .i64 (3)], .bool false), (mk 24 (.bool true) [var 0, .int .i64 (6)], .bool false)] := sat_cons ⟨300, _, (show evS (envOf [a0, a1, a2, a3, a4, a5, a6, a7, a8, a9, a10, a11, a12, a13, a14, a15, a16, a17, a18]) 300 (mk 24 (.bool true) [var 0, .int .i64 (2)]) = some (.bool (a0 == 2)) by kernel_rfl).trans (by rw [c0]), rfl⟩ (sat_cons ⟨300, _, (show evS (envOf [a0, a1, a2, a3, a4, a5, a6, a7, a8, a9, a10, a11, a12, a13, a14, a15, a16, a17, a18]) 300 (mk 24 (.bool true) [var 0, .int .i64 (5)]) = some (.bool (a0 == 5)) by kernel_rfl).trans (by rw [c1]), rfl⟩ (sat_cons ⟨300, _, (show evS (envOf [a0, a1, a2, a3, a4, a5, a6, a7, a8, a9, a10, a11, a12, a13, a14, a15, a16, a17, a18]) 300 (mk 24 (.bool true) [var 0, .int .i64 (3)]) = some (.bool (a0 == 3)) by kernel_rfl).trans (by rw [c2]), rfl⟩ (sat_cons ⟨300, _, (show evS (envOf [a0, a1, a2, a3, a4, a5, a6, a7, a8, a9, a10, a11, a12, a13, a14, a15, a16, a17, a18]) 300 (mk 24 (.bool true) [var 0, .int .i64 (6)]) = some (.bool (a0 == 6)) by kernel_rfl).trans (by rw [c3]), rfl⟩ (sat_nil _))))
          have h0 : (s_dAxis_0 a0 a1 a2 a3 a4 a5 a6 a7 a8 a9 a10 a11 a12 a13 a14 a15 a16 a17 a18) = a1 := by simp only [s_dAxis_0, c0, c1, c2, c3, cond_false]
          have h1 : (s_dAxis_1 a0 a1 a2 a3 a4 a5 a6 a7 a8 a9 a10 a11 a12 a13 a14 a15 a16 a17 a18) = a2 := by simp only [s_dAxis_1, c0, c1, c2, c3, cond_false]
          have h2 : (s_dAxis_2 a0 a1 a2 a3 a4 a5 a6 a7 a8 a9 a10 a11 a12 a13 a14 a15 a16 a17 a18) = a7 := by simp only [s_dAxis_2, c0, c1, c2, c3, cond_false]
          have h3 : (s_dAxis_3 a0 a1 a2 a3 a4 a5 a6 a7 a8 a9 a10 a11 a12 a13 a14 a15 a16 a17 a18) = a8 := by simp only [s_dAxis_3, c0, c1, c2, c3, cond_false]
          have h4 : (s_dAxis_4 a0 a1 a2 a3 a4 a5 a6 a7 a8 a9 a10 a11 a12 a13 a14 a15 a16 a17 a18) = a13 := by simp only [s_dAxis_4, c0, c1, c2, c3, cond_false]
          have h5 : (s_dAxis_5 a0 a1 a2 a3 a4 a5 a6 a7 a8 a9 a10 a11 a12 a13 a14 a15 a16 a17 a18) = a14 := by simp only [s_dAxis_5, c0, c1, c2, c3, cond_false]
          rw [h0, h1, h2, h3, h4, h5]
          exact symCall (X := xtOf [a0, a1, a2, a3, a4, a5, a6, a7, a8, a9, a10, a11, a12, a13, a14, a15, a16, a17, a18] [(mk 24 (.bool true) [var 0, .int .i64 (2)], .bool false), (mk 24 (.bool true) [var 0, .int .i64 (5)], .bool false), (mk 24 (.bool true) [var 0, .int .i64 (3)], .bool false), (mk 24 (.bool true) [var 0, .int .i64 (6)], .bool false)]) Tryz.mixed Tryz.namedS (xtOf_good _ _ hs) (esc := Tryz.esc) (fuel := 200) (n := 12) (S := sumS (xtOf [a0, a1, a2, a3, a4, a5, a6, a7, a8, a9, a10, a11, a12, a13, a14, a15, a16, a17, a18] [(mk 24 (.bool true) [var 0, .int .i64 (2)], .bool false), (mk 24 (.bool true) [var 0, .int .i64 (5)], .bool false), (mk 24 (.bool true) [var 0, .int .i64 (3)], .bool false), (mk 24 (.bool true) [var 0, .int .i64 (6)], .bool false)]) es44) (sumS_good hs _ (oks44 _)) (sumS_pure _ _) (f := 70) (xs := [var 0, .agg ⟨[var 1, var 2, var 3, var 4, var 5, var 6, var 7, var 8, var 9, var 10, var 11, var 12, var 13, var 14, var 15, var 16, var 17, var 18]⟩]) (v := .agg ⟨[var 1, var 2, var 7, var 8, var 13, var 14]⟩) (H' := []) (md := []) (by kernel_rfl) (by kernel_rfl) (by kernel_rfl) w
def es45 : List Ent := e_dAxis :: es44
theorem oks45 (L : List Int) : ∀ e ∈ es45, EntOk Tryz.prog (envOf L) e := by
  intro e he
  rcases List.mem_cons.1 he with rfl | h
  · exact entOk_env rfl rfl ok_dAxis
  · exact oks44 L e h
def e_Gravity : Ent := ⟨19, [none, none, none], [.a 3], 255⟩
theorem ok_Gravity : EntOk Tryz.prog (envOf []) e_Gravity := by
  intro l w hl
  replace hl : l.length = 3 := hl
  obtain ⟨a0, l0, rfl, g0⟩ := list_succ hl
  obtain ⟨a1, l1, rfl, g1⟩ := list_succ g0
  obtain ⟨a2, l2, rfl, g2⟩ := list_succ g1
  obtain rfl := List.eq_nil_of_length_eq_zero g2
  have E : packV (conRs (envOf []) [a0, a1, a2] 255 [.a 3]) = .agg ⟨[num (s_Gravity_0 a0 a1 a2), num (s_Gravity_1 a0 a1 a2), num (s_Gravity_2 a0 a1 a2)]⟩ := by kernel_rfl
  show Calls Tryz.prog 19 ([num a0, num a1, num a2] : List Value).toArray w fun r w' => r = .returned (packV (conRs (envOf []) [a0, a1, a2] 255 [.a 3])) ∧ Below w.heap.size w w'
  rw [E]
  cases c0 : (decide ((Int.tmod a0 40001) < 0)) with
  | true =>
    cases c1 : (decide ((Int.tmod a1 40001) < 0)) with
    | true =>
      cases c2 : (decide ((Int.tmod a2 2097152) < 0)) with
      | true =>
        have hs : Sat (envOf [a0, a1, a2]) [(mk 20 (.bool true) [mk 6 (.int .i64 (0)) [var 0, .int .i64 (40001)], .int .i64 (0)], .bool true), (mk 20 (.bool true) [mk 6 (.int .i64 (0)) [var 1, .int .i64 (40001)], .int .i64 (0)], .bool true), (mk 20 (.bool true) [mk 6 (.int .i64 (0)) [var 2, .int .i64 (2097152)], .int .i64 (0)], .bool true)] := sat_cons ⟨300, _, (show evS (envOf [a0, a1, a2]) 300 (mk 20 (.bool true) [mk 6 (.int .i64 (0)) [var 0, .int .i64 (40001)], .int .i64 (0)]) = some (.bool (decide ((Int.tmod a0 40001) < 0))) by kernel_rfl).trans (by rw [c0]), rfl⟩ (sat_cons ⟨300, _, (show evS (envOf [a0, a1, a2]) 300 (mk 20 (.bool true) [mk 6 (.int .i64 (0)) [var 1, .int .i64 (40001)], .int .i64 (0)]) = some (.bool (decide ((Int.tmod a1 40001) < 0))) by kernel_rfl).trans (by rw [c1]), rfl⟩ (sat_cons ⟨300, _, (show evS (envOf [a0, a1, a2]) 300 (mk 20 (.bool true) [mk 6 (.int .i64 (0)) [var 2, .int .i64 (2097152)], .int .i64 (0)]) = some (.bool (decide ((Int.tmod a2 2097152) < 0))) by kernel_rfl).trans (by rw [c2]), rfl⟩ (sat_nil _)))
        have h0 : (s_Gravity_0 a0 a1 a2) = (wr ((wr ((Int.tmod a0 40001) + 40001)) - 20000)) := by simp only [s_Gravity_0, c0, c1, c2, cond_true]
        have h1 : (s_Gravity_1 a0 a1 a2) = (wr ((wr ((Int.tmod a1 40001) + 40001)) - 20000)) := by simp only [s_Gravity_1, c0, c1, c2, cond_true]
        have h2 : (s_Gravity_2 a0 a1 a2) = (wr ((wr ((Int.tmod a2 2097152) + 2097152)) - 1048576)) := by simp only [s_Gravity_2, c0, c1, c2, cond_true]
        rw [h0, h1, h2]
        exact symCall (X := xtOf [a0, a1, a2] [(mk 20 (.bool true) [mk 6 (.int .i64 (0)) [var 0, .int .i64 (40001)], .int .i64 (0)], .bool true), (mk 20 (.bool true) [mk 6 (.int .i64 (0)) [var 1, .int .i64 (40001)], .int .i64 (0)], .bool true), (mk 20 (.bool true) [mk 6 (.int .i64 (0)) [var 2, .int .i64 (2097152)], .int .i64 (0)], .bool true)]) Tryz.mixed Tryz.namedS (xtOf_good _ _ hs) (esc := Tryz.esc) (fuel := 200) (n := 12) (S := sumS (xtOf [a0, a1, a2] [(mk 20 (.bool true) [mk 6 (.int .i64 (0)) [var 0, .int .i64 (40001)], .int .i64 (0)], .bool true), (mk 20 (.bool true) [mk 6 (.int .i64 (0)) [var 1, .int .i64 (40001)], .int .i64 (0)], .bool true), (mk 20 (.bool true) [mk 6 (.int .i64 (0)) [var 2, .int .i64 (2097152)], .int .i64 (0)], .bool true)]) es45) (sumS_good hs _ (oks45 _)) (sumS_pure _ _) (f := 19) (xs := [var 0, var 1, var 2]) (v := .agg ⟨[mk 3 (.int .i64 (0)) [mk 2 (.int .i64 (0)) [mk 6 (.int .i64 (0)) [var 0, .int .i64 (40001)], .int .i64 (40001)], .int .i64 (20000)], mk 3 (.int .i64 (0)) [mk 2 (.int .i64 (0)) [mk 6 (.int .i64 (0)) [var 1, .int .i64 (40001)], .int .i64 (40001)], .int .i64 (20000)], mk 3 (.int .i64 (0)) [mk 2 (.int .i64 (0)) [mk 6 (.int .i64 (0)) [var 2, .int .i64 (2097152)], .int .i64 (2097152)], .int .i64 (1048576)]]⟩) (H' := []) (md := []) (by kernel_rfl) (by kernel_rfl) (by kernel_rfl) w
      | false =>
        have hs : Sat (envOf [a0, a1, a2]) [(mk 20 (.bool true) [mk 6 (.int .i64 (0)) [var 0, .int .i64 (40001)], .int .i64 (0)], .bool true), (mk 20 (.bool true) [mk 6 (.int .i64 (0)) [var 1, .int .i64 (40001)], .int .i64 (0)], .bool true), (mk 20 (.bool true) [mk 6 (.int .i64 (0)) [var 2, .int .i64 (2097152)], .int .i64 (0)], .bool false)] := sat_cons ⟨300, _, (show evS (envOf [a0, a1, a2]) 300 (mk 20 (.bool true) [mk 6 (.int .i64 (0)) [var 0, .int .i64 (40001)], .int .i64 (0)]) = some (.bool (decide ((Int.tmod a0 40001) < 0))) by kernel_rfl).trans (by rw [c0]), rfl⟩ (sat_cons ⟨300, _, (show evS (envOf [a0, a1, a2]) 300 (mk 20 (.bool true) [mk 6 (.int .i64 (0)) [var 1, .int .i64 (40001)], .int .i64 (0)]) = some (.bool (decide ((Int.tmod a1 40001) < 0))) by kernel_rfl).trans (by rw [c1]), rfl⟩ (sat_cons ⟨300, _, (show evS (envOf [a0, a1, a2]) 300 (mk 20 (.bool true) [mk 6 (.int .i64 (0)) [var 2, .int .i64 (2097152)], .int .i64 (0)]) = some (.bool (decide ((Int.tmod a2 2097152) < 0))) by kernel_rfl).trans (by rw [c2]), rfl⟩ (sat_nil _)))
        have h0 : (s_Gravity_0 a0 a1 a2) = (wr ((wr ((Int.tmod a0 40001) + 40001)) - 20000)) := by simp only [s_Gravity_0, c0, c1, c2, cond_true, cond_false]
        have h1 : (s_Gravity_1 a0 a1 a2) = (wr ((wr ((Int.tmod a1 40001) + 40001)) - 20000)) := by simp only [s_Gravity_1, c0, c1, c2, cond_true, cond_false]
        have h2 : (s_Gravity_2 a0 a1 a2) = (wr ((Int.tmod a2 2097152) - 1048576)) := by simp only [s_Gravity_2, c0, c1, c2, cond_true, cond_false]
        rw [h0, h1, h2]
        exact symCall (X := xtOf [a0, a1, a2] [(mk 20 (.bool true) [mk 6 (.int .i64 (0)) [var 0, .int .i64 (40001)], .int .i64 (0)], .bool true), (mk 20 (.bool true) [mk 6 (.int .i64 (0)) [var 1, .int .i64 (40001)], .int .i64 (0)], .bool true), (mk 20 (.bool true) [mk 6 (.int .i64 (0)) [var 2, .int .i64 (2097152)], .int .i64 (0)], .bool false)]) Tryz.mixed Tryz.namedS (xtOf_good _ _ hs) (esc := Tryz.esc) (fuel := 200) (n := 12) (S := sumS (xtOf [a0, a1, a2] [(mk 20 (.bool true) [mk 6 (.int .i64 (0)) [var 0, .int .i64 (40001)], .int .i64 (0)], .bool true), (mk 20 (.bool true) [mk 6 (.int .i64 (0)) [var 1, .int .i64 (40001)], .int .i64 (0)], .bool true), (mk 20 (.bool true) [mk 6 (.int .i64 (0)) [var 2, .int .i64 (2097152)], .int .i64 (0)], .bool false)]) es45) (sumS_good hs _ (oks45 _)) (sumS_pure _ _) (f := 19) (xs := [var 0, var 1, var 2]) (v := .agg ⟨[mk 3 (.int .i64 (0)) [mk 2 (.int .i64 (0)) [mk 6 (.int .i64 (0)) [var 0, .int .i64 (40001)], .int .i64 (40001)], .int .i64 (20000)], mk 3 (.int .i64 (0)) [mk 2 (.int .i64 (0)) [mk 6 (.int .i64 (0)) [var 1, .int .i64 (40001)], .int .i64 (40001)], .int .i64 (20000)], mk 3 (.int .i64 (0)) [mk 6 (.int .i64 (0)) [var 2, .int .i64 (2097152)], .int .i64 (1048576)]]⟩) (H' := []) (md := []) (by kernel_rfl) (by kernel_rfl) (by kernel_rfl) w
    | false =>
      cases c2 : (decide ((Int.tmod a2 2097152) < 0)) with
      | true =>
        have hs : Sat (envOf [a0, a1, a2]) [(mk 20 (.bool true) [mk 6 (.int .i64 (0)) [var 0, .int .i64 (40001)], .int .i64 (0)], .bool true), (mk 20 (.bool true) [mk 6 (.int .i64 (0)) [var 1, .int .i64 (40001)], .int .i64 (0)], .bool false), (mk 20 (.bool true) [mk 6 (.int .i64 (0)) [var 2, .int .i64 (2097152)], .int .i64 (0)], .bool true)] := sat_cons ⟨300, _, (show evS (envOf [a0, a1, a2]) 300 (mk 20 (.bool true) [mk 6 (.int .i64 (0)) [var 0, .int .i64 (40001)], .int .i64 (0)]) = some (.bool (decide ((Int.tmod a0 40001) < 0))) by kernel_rfl).trans (by rw [c0]), rfl⟩ (sat_cons ⟨300, _, (show evS (envOf [a0, a1, a2]) 300 (mk 20 (.bool true) [mk 6 (.int .i64 (0)) [var 1, .int .i64 (40001)], .int .i64 (0)]) = some (.bool (decide ((Int.tmod a1 40001) < 0))) by kernel_rfl).trans (by rw [c1]), rfl⟩ (sat_cons ⟨300, _, (show evS (envOf [a0, a1, a2]) 300 (mk 20 (.bool true) [mk 6 (.int .i64 (0)) [var 2, .int .i64 (2097152)], .int .i64 (0)]) = some (.bool (decide ((Int.tmod a2 2097152) < 0))) by kernel_rfl).trans (by rw [c2]), rfl⟩ (sat_nil _)))
        have h0 : (s_Gravity_0 a0 a1 a2) = (wr ((wr ((Int.tmod a0 40001) + 40001)) - 20000)) := by simp only [s_Gravity_0, c0, c1, c2, cond_true, cond_false]
        have h1 : (s_Gravity_1 a0 a1 a2) = (wr ((Int.tmod a1 40001) - 20000)) := by simp only [s_Gravity_1, c0, c1, c2, cond_true, cond_false]
        have h2 : (s_Gravity_2 a0 a1 a2) = (wr ((wr ((Int.tmod a2 2097152) + 2097152)) - 1048576)) := by simp only [s_Gravity_2, c0, c1, c2, cond_true, cond_false]
        rw [h0, h1, h2]
        exact symCall (X := xtOf [a0, a1, a2] [(mk 20 (.bool true) [mk 6 (.int .i64 (0)) [var 0, .int .i64 (40001)], .int .i64 (0)], .bool true), (mk 20 (.bool true) [mk 6 (.int .i64 (0)) [var 1, .int .i64 (40001)], .int .i64 (0)], .bool false), (mk 20 (.bool true) [mk 6 (.int .i64 (0)) [var 2, .int .i64 (2097152)], .int .i64 (0)], .bool true)]) Tryz.mixed Tryz.namedS (xtOf_good _ _ hs) (esc := Tryz.esc) (fuel := 200) (n := 12) (S := sumS (xtOf [a0, a1, a2] [(mk 20 (.bool true) [mk 6 (.int .i64 (0)) [var 0, .int .i64 (40001)], .int .i64 (0)], .bool true), (mk 20 (.bool true) [mk 6 (.int .i64 (0)) [var 1, .int .i64 (40001)], .int .i64 (0)], .bool false), (mk 20 (.bool true) [mk 6 (.int .i64 (0)) [var 2, .int .i64 (2097152)], .int .i64 (0)], .bool true)]) es45) (sumS_good hs _ (oks45 _)) (sumS_pure _ _) (f := 19) (xs := [var 0, var 1, var 2]) (v := .agg ⟨[mk 3 (.int .i64 (0)) [mk 2 (.int .i64 (0)) [mk 6 (.int .i64 (0)) [var 0, .int .i64 (40001)], .int .i64 (40001)], .int .i64 (20000)], mk 3 (.int .i64 (0)) [mk 6 (.int .i64 (0)) [var 1, .int .i64 (40001)], .int .i64 (20000)], mk 3 (.int .i64 (0)) [mk 2 (.int .i64 (0)) [mk 6 (.int .i64 (0)) [var 2, .int .i64 (2097152)], .int .i64 (2097152)], .int .i64 (1048576)]]⟩) (H' := []) (md := []) (by kernel_rfl) (by kernel_rfl) (by kernel_rfl) w
      | false =>
        have hs : Sat (envOf [a0, a1, a2]) [(mk 20 (.bool true) [mk 6 (.int .i64 (0)) [var 0, .int .i64 (40001)], .int .i64 (0)], .bool true), (mk 20 (.bool true) [mk 6 (.int .i64 (0)) [var 1, .int .i64 (40001)], .int .i64 (0)], .bool false), (mk 20 (.bool true) [mk 6 (.int .i64 (0)) [var 2, .int .i64 (2097152)], .int .i64 (0)], .bool false)] := sat_cons ⟨300, _, (show evS (envOf [a0, a1, a2]) 300 (mk 20 (.bool true) [mk 6 (.int .i64 (0)) [var 0, .int .i64 (40001)], .int .i64 (0)]) = some (.bool (decide ((Int.tmod a0 40001) < 0))) by kernel_rfl).trans (by rw [c0]), rfl⟩ (sat_cons ⟨300, _, (show evS (envOf [a0, a1, a2]) 300 (mk 20 (.bool true) [mk 6 (.int .i64 (0)) [var 1, .int .i64 (40001)], .int .i64 (0)]) = some (.bool (decide ((Int.tmod a1 40001) < 0))) by kernel_rfl).trans (by rw [c1]), rfl⟩ (sat_cons ⟨300, _, (show evS (envOf [a0, a1, a2]) 300 (mk 20 (.bool true) [mk 6 (.int .i64 (0)) [var 2, .int .i64 (2097152)], .int .i64 (0)]) = some (.bool (decide ((Int.tmod a2 2097152) < 0))) by kernel_rfl).trans (by rw [c2]), rfl⟩ (sat_nil _)))
        have h0 : (s_Gravity_0 a0 a1 a2) = (wr ((wr ((Int.tmod a0 40001) + 40001)) - 20000)) := by simp only [s_Gravity_0, c0, c1, c2, cond_true, cond_false]
        have h1 : (s_Gravity_1 a0 a1 a2) = (wr ((Int.tmod a1 40001) - 20000)) := by simp only [s_Gravity_1, c0, c1, c2, cond_true, cond_false]
        have h2 : (s_Gravity_2 a0 a1 a2) = (wr ((Int.tmod a2 2097152) - 1048576)) := by simp only [s_Gravity_2, c0, c1, c2, cond_true, cond_false]
        rw [h0, h1, h2]
        exact symCall (X := xtOf [a0, a1, a2] [(mk 20 (.bool true) [mk 6 (.int .i64 (0)) [var 0, .int .i64 (40001)], .int .i64 (0)], .bool true), (mk 20 (.bool true) [mk 6 (.int .i64 (0)) [var 1, .int .i64 (40001)], .int .i64 (0)], .bool false), (mk 20 (.bool true) [mk 6 (.int .i64 (0)) [var 2, .int .i64 (2097152)], .int .i64 (0)], .bool false)]) Tryz.mixed Tryz.namedS (xtOf_good _ _ hs) (esc := Tryz.esc) (fuel := 200) (n := 12) (S := sumS (xtOf [a0, a1, a2] [(mk 20 (.bool true) [mk 6 (.int .i64 (0)) [var 0, .int .i64 (40001)], .int .i64 (0)], .bool true), (mk 20 (.bool true) [mk 6 (.int .i64 (0)) [var 1, .int .i64 (40001)], .int .i64 (0)], .bool false), (mk 20 (.bool true) [mk 6 (.int .i64 (0)) [var 2, .int .i64 (2097152)], .int .i64 (0)], .bool false)]) es45) (sumS_good hs _ (oks45 _)) (sumS_pure _ _) (f := 19) (xs := [var 0, var 1, var 2]) (v := .agg ⟨[mk 3 (.int .i64 (0)) [mk 2 (.int .i64 (0)) [mk 6 (.int .i64 (0)) [var 0, .int .i64 (40001)], .int .i64 (40001)], .int .i64 (20000)], mk 3 (.int .i64 (0)) [mk 6 (.int .i64 (0)) [var 1, .int .i64 (40001)], .int .i64 (20000)], mk 3 (.int .i64 (0)) [mk 6 (.int .i64 (0)) [var 2, .int .i64 (2097152)], .int .i64 (1048576)]]⟩) (H' := []) (md := []) (by kernel_rfl) (by kernel_rfl) (by kernel_rfl) w
  | false =>
    cases c1 : (decide ((Int.tmod a1 40001) < 0)) with
    | true =>
      cases c2 : (decide ((Int.tmod a2 2097152) < 0)) with
      | true =>
        have hs : Sat (envOf [a0, a1, a2]) [(mk 20 (.bool true) [mk 6 (.int .i64 (0)) [var 0, .int .i64 (40001)], .int .i64 (0)], .bool false), (mk 20 (.bool true) [mk 6 (.int .i64 (0)) [var 1, .int .i64 (40001)], .int .i64 (0)], .bool true), (mk 20 (.bool true) [mk 6 (.int .i64 (0)) [var 2, .int .i64 (2097152)], .int .i64 (0)], .bool true)] := sat_cons ⟨300, _, (show evS (envOf [a0, a1, a2]) 300 (mk 20 (.bool true) [mk 6 (.int .i64 (0)) [var 0, .int .i64 (40001)], .int .i64 (0)]) = some (.bool (decide ((Int.tmod a0 40001) < 0))) by kernel_rfl).trans (by rw [c0]), rfl⟩ (sat_cons ⟨300, _, (show evS (envOf [a0, a1, a2]) 300 (mk 20 (.bool true) [mk 6 (.int .i64 (0)) [var 1, .int .i64 (40001)], .int .i64 (0)]) = some (.bool (decide ((Int.tmod a1 40001) < 0))) by kernel_rfl).trans (by rw [c1]), rfl⟩ (sat_cons ⟨300, _, (show evS (envOf [a0, a1, a2]) 300 (mk 20 (.bool true) [mk 6 (.int .i64 (0)) [var 2, .int .i64 (2097152)], .int .i64 (0)]) = some (.bool (decide ((Int.tmod a2 2097152) < 0))) by kernel_rfl).trans (by rw [c2]), rfl⟩ (sat_nil _)))
        have h0 : (s_Gravity_0 a0 a1 a2) = (wr ((Int.tmod a0 40001) - 20000)) := by simp only [s_Gravity_0, c0, c1, c2, cond_true, cond_false]
        have h1 : (s_Gravity_1 a0 a1 a2) = (wr ((wr ((Int.tmod a1 40001) + 40001)) - 20000)) := by simp only [s_Gravity_1, c0, c1, c2, cond_true, cond_false]
        have h2 : (s_Gravity_2 a0 a1 a2) = (wr ((wr ((Int.tmod a2 2097152) + 2097152)) - 1048576)) := by simp only [s_Gravity_2, c0, c1, c2, cond_true, cond_false]
        rw [h0, h1, h2]
        exact symCall (X := xtOf [a0, a1, a2] [(mk 20 (.bool true) [mk 6 (.int .i64 (0)) [var 0, .int .i64 (40001)], .int .i64 (0)], .bool false), (mk 20 (.bool true) [mk 6 (.int .i64 (0)) [var 1, .int .i64 (40001)], .int .i64 (0)], .bool true), (mk 20 (.bool true) [mk 6 (.int .i64 (0)) [var 2, .int .i64 (2097152)], .int .i64 (0)], .bool true)]) Tryz.mixed Tryz.namedS (xtOf_good _ _ hs) (esc := Tryz.esc) (fuel := 200) (n := 12) (S := sumS (xtOf [a0, a1, a2] [(mk 20 (.bool true) [mk 6 (.int .i64 (0)) [var 0, .int .i64 (40001)], .int .i64 (0)], .bool false), (mk 20 (.bool true) [mk 6 (.int .i64 (0)) [var 1, .int .i64 (40001)], .int .i64 (0)], .bool true), (mk 20 (.bool true) [mk 6 (.int .i64 (0)) [var 2, .int .i64 (2097152)], .int .i64 (0)], .bool true)]) es45) (sumS_good hs _ (oks45 _)) (sumS_pure _ _) (f := 19) (xs := [var 0, var 1, var 2]) (v := .agg ⟨[mk 3 (.int .i64 (0)) [mk 6 (.int .i64 (0)) [var 0, .int .i64 (40001)], .int .i64 (20000)], mk 3 (.int .i64 (0)) [mk 2 (.int .i64 (0)) [mk 6 (.int .i64 (0)) [var 1, .int .i64 (40001)], .int .i64 (40001)], .int .i64 (20000)], mk 3 (.int .i64 (0)) [mk 2 (.int .i64 (0)) [mk 6 (.int .i64 (0)) [var 2, .int .i64 (2097152)], .int .i64 (2097152)], .int .i64 (1048576)]]⟩) (H' := []) (md := []) (by kernel_rfl) (by kernel_rfl) (by kernel_rfl) w
      | false =>
        have hs : Sat (envOf [a0, a1, a2]) [(mk 20 (.bool true) [mk 6 (.int .i64 (0)) [var 0, .int .i64 (40001)], .int .i64 (0)], .bool false), (mk 20 (.bool true) [mk 6 (.int .i64 (0)) [var 1, .int .i64 (40001)], .int .i64 (0)], .bool true), (mk 20 (.bool true) [mk 6 (.int .i64 (0)) [var 2, .int .i64 (2097152)], .int .i64 (0)], .bool false)] := sat_cons ⟨300, _, (show evS (envOf [a0, a1, a2]) 300 (mk 20 (.bool true) [mk 6 (.int .i64 (0)) [var 0, .int .i64 (40001)], .int .i64 (0)]) = some (.bool (decide ((Int.tmod a0 40001) < 0))) by kernel_rfl).trans (by rw [c0]), rfl⟩ (sat_cons ⟨300, _, (show evS (envOf [a0, a1, a2]) 300 (mk 20 (.bool true) [mk 6 (.int .i64 (0)) [var 1, .int .i64 (40001)], .int .i64 (0)]) = some (.bool (decide ((Int.tmod a1 40001) < 0))) by kernel_rfl).trans (by rw [c1]), rfl⟩ (sat_cons ⟨300, _, (show evS (envOf [a0, a1, a2]) 300 (mk 20 (.bool true) [mk 6 (.int .i64 (0)) [var 2, .int .i64 (2097152)], .int .i64 (0)]) = some (.bool (decide ((Int.tmod a2 2097152) < 0))) by kernel_rfl).trans (by rw [c2]), rfl⟩ (sat_nil _)))
        have h0 : (s_Gravity_0 a0 a1 a2) = (wr ((Int.tmod a0 40001) - 20000)) := by simp only [s_Gravity_0, c0, c1, c2, cond_true, cond_false]
        have h1 : (s_Gravity_1 a0 a1 a2) = (wr ((wr ((Int.tmod a1 40001) + 40001)) - 20000)) := by simp only [s_Gravity_1, c0, c1, c2, cond_true, cond_false]
        have h2 : (s_Gravity_2 a0 a1 a2) = (wr ((Int.tmod a2 2097152) - 1048576)) := by simp only [s_Gravity_2, c0, c1, c2, cond_true, cond_false]
        rw [h0, h1, h2]
        exact symCall (X := xtOf [a0, a1, a2] [(mk 20 (.bool true) [mk 6 (.int .i64 (0)) [var 0, .int .i64 (40001)], .int .i64 (0)], .bool false), (mk 20 (.bool true) [mk 6 (.int .i64 (0)) [var 1, .int .i64 (40001)], .int .i64 (0)], .bool true), (mk 20 (.bool true) [mk 6 (.int .i64 (0)) [var 2, .int .i64 (2097152)], .int .i64 (0)], .bool false)]) Tryz.mixed Tryz.namedS (xtOf_good _ _ hs) (esc := Tryz.esc) (fuel := 200) (n := 12) (S := sumS (xtOf [a0, a1, a2] [(mk 20 (.bool true) [mk 6 (.int .i64 (0)) [var 0, .int .i64 (40001)], .int .i64 (0)], .bool false), (mk 20 (.bool true) [mk 6 (.int .i64 (0)) [var 1, .int .i64 (40001)], .int .i64 (0)], .bool true), (mk 20 (.bool true) [mk 6 (.int .i64 (0)) [var 2, .int .i64 (2097152)], .int .i64 (0)], .bool false)]) es45) (sumS_good hs _ (oks45 _)) (sumS_pure _ _) (f := 19) (xs := [var 0, var 1, var 2]) (v := .agg ⟨[mk 3 (.int .i64 (0)) [mk 6 (.int .i64 (0)) [var 0, .int .i64 (40001)], .int .i64 (20000)], mk 3 (.int .i64 (0)) [mk 2 (.int .i64 (0)) [mk 6 (.int .i64 (0)) [var 1, .int .i64 (40001)], .int .i64 (40001)], .int .i64 (20000)], mk 3 (.int .i64 (0)) [mk 6 (.int .i64 (0)) [var 2, .int .i64 (2097152)], .int .i64 (1048576)]]⟩) (H' := []) (md := []) (by kernel_rfl) (by kernel_rfl) (by kernel_rfl) w
    | false =>
      cases c2 : (decide ((Int.tmod a2 2097152) < 0)) with
      | true =>
        have hs : Sat (envOf [a0, a1, a2]) [(mk 20 (.bool true) [mk 6 (.int .i64 (0)) [var 0, .int .i64 (40001)], .int .i64 (0)], .bool false), (mk 20 (.bool true) [mk 6 (.int .i64 (0)) [var 1, .int .i64 (40001)], .int .i64 (0)], .bool false), (mk 20 (.bool true) [mk 6 (.int .i64 (0)) [var 2, .int .i64 (2097152)], .int .i64 (0)], .bool true)] := sat_cons ⟨300, _, (show evS (envOf [a0, a1, a2]) 300 (mk 20 (.bool true) [mk 6 (.int .i64 (0)) [var 0, .int .i64 (40001)], .int .i64 (0)]) = some (.bool (decide ((Int.tmod a0 40001) < 0))) by kernel_rfl).trans (by rw [c0]), rfl⟩ (sat_cons ⟨300, _, (show evS (envOf [a0, a1, a2]) 300 (mk 20 (.bool true) [mk 6 (.int .i64 (0)) [var 1, .int .i64 (40001)], .int .i64 (0)]) = some (.bool (decide ((Int.tmod a1 40001) < 0))) by kernel_rfl).trans (by rw [c1]), rfl⟩ (sat_cons ⟨300, _, (show evS (envOf [a0, a1, a2]) 300 (mk 20 (.bool true) [mk 6 (.int .i64 (0)) [var 2, .int .i64 (2097152)], .int .i64 (0)]) = some (.bool (decide ((Int.tmod a2 2097152) < 0))) by kernel_rfl).trans (by rw [c2]), rfl⟩ (sat_nil _)))
        have h0 : (s_Gravity_0 a0 a1 a2) = (wr ((Int.tmod a0 40001) - 20000)) := by simp only [s_Gravity_0, c0, c1, c2, cond_true, cond_false]
        have h1 : (s_Gravity_1 a0 a1 a2) = (wr ((Int.tmod a1 40001) - 20000)) := by simp only [s_Gravity_1, c0, c1, c2, cond_true, cond_false]
        have h2 : (s_Gravity_2 a0 a1 a2) = (wr ((wr ((Int.tmod a2 2097152) + 2097152)) - 1048576)) := by simp only [s_Gravity_2, c0, c1, c2, cond_true, cond_false]
        rw [h0, h1, h2]
        exact symCall (X := xtOf [a0, a1, a2] [(mk 20 (.bool true) [mk 6 (.int .i64 (0)) [var 0, .int .i64 (40001)], .int .i64 (0)], .bool false), (mk 20 (.bool true) [mk 6 (.int .i64 (0)) [var 1, .int .i64 (40001)], .int .i64 (0)], .bool false), (mk 20 (.bool true) [mk 6 (.int .i64 (0)) [var 2, .int .i64 (2097152)], .int .i64 (0)], .bool true)]) Tryz.mixed Tryz.namedS (xtOf_good _ _ hs) (esc := Tryz.esc) (fuel := 200) (n := 12) (S := sumS (xtOf [a0, a1, a2] [(mk 20 (.bool true) [mk 6 (.int .i64 (0)) [var 0, .int .i64 (40001)], .int .i64 (0)], .bool false), (mk 20 (.bool true) [mk 6 (.int .i64 (0)) [var 1, .int .i64 (40001)], .int .i64 (0)], .bool false), (mk 20 (.bool true) [mk 6 (.int .i64 (0)) [var 2, .int .i64 (2097152)], .int .i64 (0)], .bool true)]) es45) (sumS_good hs _ (oks45 _)) (sumS_pure _ _) (f := 19) (xs := [var 0, var 1, var 2]) (v := .agg ⟨[mk 3 (.int .i64 (0)) [mk 6 (.int .i64 (0)) [var 0, .int .i64 (40001)], .int .i64 (20000)], mk 3 (.int .i64 (0)) [mk 6 (.int .i64 (0)) [var 1, .int .i64 (40001)], .int .i64 (20000)], mk 3 (.int .i64 (0)) [mk 2 (.int .i64 (0)) [mk 6 (.int .i64 (0)) [var 2, .int .i64 (2097152)], .int .i64 (2097152)], .int .i64 (1048576)]]⟩) (H' := []) (md := []) (by kernel_rfl) (by kernel_rfl) (by kernel_rfl) w
      | false =>
        have hs : Sat (envOf [a0, a1, a2]) [(mk 20 (.bool true) [mk 6 (.int .i64 (0)) [var 0, .int .i64 (40001)], .int .i64 (0)], .bool false), (mk 20 (.bool true) [mk 6 (.int .i64 (0)) [var 1, .int .i64 (40001)], .int .i64 (0)], .bool false), (mk 20 (.bool true) [mk 6 (.int .i64 (0)) [var 2, .int .i64 (2097152)], .int .i64 (0)], .bool false)] := sat_cons ⟨300, _, (show evS (envOf [a0, a1, a2]) 300 (mk 20 (.bool true) [mk 6 (.int .i64 (0)) [var 0, .int .i64 (40001)], .int .i64 (0)]) = some (.bool (decide ((Int.tmod a0 40001) < 0))) by kernel_rfl).trans (by rw [c0]), rfl⟩ (sat_cons ⟨300, _, (show evS (envOf [a0, a1, a2]) 300 (mk 20 (.bool true) [mk 6 (.int .i64 (0)) [var 1, .int .i64 (40001)], .int .i64 (0)]) = some (.bool (decide ((Int.tmod a1 40001) < 0))) by kernel_rfl).trans (by rw [c1]), rfl⟩ (sat_cons ⟨300, _, (show evS (envOf [a0, a1, a2]) 300 (mk 20 (.bool true) [mk 6 (.int .i64 (0)) [var 2, .int .i64 (2097152)], .int .i64 (0)]) = some (.bool (decide ((Int.tmod a2 2097152) < 0))) by kernel_rfl).trans (by rw [c2]), rfl⟩ (sat_nil _)))
        have h0 : (s_Gravity_0 a0 a1 a2) = (wr ((Int.tmod a0 40001) - 20000)) := by simp only [s_Gravity_0, c0, c1, c2, cond_false]
        have h1 : (s_Gravity_1 a0 a1 a2) = (wr ((Int.tmod a1 40001) - 20000)) := by simp only [s_Gravity_1, c0, c1, c2, cond_false]
        have h2 : (s_Gravity_2 a0 a1 a2) = (wr ((Int.tmod a2 2097152) - 1048576)) := by simp only [s_Gravity_2, c0, c1, c2, cond_false]
        rw [h0, h1, h2]
        exact symCall (X := xtOf [a0, a1, a2] [(mk 20 (.bool true) [mk 6 (.int .i64 (0)) [var 0, .int .i64 (40001)], .int .i64 (0)], .bool false), (mk 20 (.bool true) [mk 6 (.int .i64 (0)) [var 1, .int .i64 (40001)], .int .i64 (0)], .bool false), (mk 20 (.bool true) [mk 6 (.int .i64 (0)) [var 2, .int .i64 (2097152)], .int .i64 (0)], .bool false)]) Tryz.mixed Tryz.namedS (xtOf_good _ _ hs) (esc := Tryz.esc) (fuel := 200) (n := 12) (S := sumS (xtOf [a0, a1, a2] [(mk 20 (.bool true) [mk 6 (.int .i64 (0)) [var 0, .int .i64 (40001)], .int .i64 (0)], .bool false), (mk 20 (.bool true) [mk 6 (.int .i64 (0)) [var 1, .int .i64 (40001)], .int .i64 (0)], .bool false), (mk 20 (.bool true) [mk 6 (.int .i64 (0)) [var 2, .int .i64 (2097152)], .int .i64 (0)], .bool false)]) es45) (sumS_good hs _ (oks45 _)) (sumS_pure _ _) (f := 19) (xs := [var 0, var 1, var 2]) (v := .agg ⟨[mk 3 (.int .i64 (0)) [mk 6 (.int .i64 (0)) [var 0, .int .i64 (40001)], .int .i64 (20000)], mk 3 (.int .i64 (0)) [mk 6 (.int .i64 (0)) [var 1, .int .i64 (40001)], .int .i64 (20000)], mk 3 (.int .i64 (0)) [mk 6 (.int .i64 (0)) [var 2, .int .i64 (2097152)], .int .i64 (1048576)]]⟩) (H' := []) (md := []) (by kernel_rfl) (by kernel_rfl) (by kernel_rfl) w
def es46 : List Ent := e_Gravity :: es45
theorem oks46 (L : List Int) : ∀ e ∈ es46, EntOk Tryz.prog (envOf L) e := by
  intro e he
  rcases List.mem_cons.1 he with rfl | h
  · exact entOk_env rfl rfl ok_Gravity
  · exact oks45 L e h
end Go.Proofs
