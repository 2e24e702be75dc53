/-
  Texts put together: Po.
-/
import Derived.Test.YthcmkpcefiiiaaaGreatDoorZFormatCanonicalCard13
set_option linter.unusedVariables false
namespace Go.Proofs.Fm
open Go.Lib
theorem pre_app : ∀ {kw l t : List UInt8}, (10 : UInt8) ∉ kw → hasPrefix (l ++ [10] ++ t) kw = hasPrefix l kw
 | [], l, t, _ => by simp [hasPrefix]
 | c :: kw, [], t, h => by
  have hc : c ≠ 10 := fun e => h (by simp [e])
  simp [hasPrefix, List.isPrefixOf, hc]
 | c :: kw, a :: l, t, h => by
  have ih := pre_app (kw := kw) (l := l) (t := t) (fun e => h (by simp [e]))
  unfold hasPrefix at ih ⊢
  simp only [List.cons_append, List.isPrefixOf] at ih ⊢
  rw [ih]
theorem rdCell_pre {s : List UInt8} {ls : List (List UInt8)} {tl : List UInt8} (h : linesT s = (ls, tl)) : rdCell ls = if hasPrefix s kwSplit = true then rdSplit ls else rdLeaf ls := by
 cases ls with
 | nil =>
  have e1 : rdSplit [] = none := rfl
  have e2 : rdLeaf [] = none := rfl
  rw [e1, e2]
  split <;> rfl
 | cons l r =>
  have hs := lines_un s
  rw [h] at hs
  simp only [nlF_cons] at hs
  have e : hasPrefix s kwSplit = hasPrefix l kwSplit := by
   rw [hs, List.append_assoc (l ++ [10])]
   exact pre_app (by decide)
  rw [e]
  rfl
theorem rdSplit_no {ls : List (List UInt8)} (h : rdN kwSplit 3 ls = none) : rdSplit ls = none := by unfold rdSplit; rw [h]
theorem rdSplit_no1 {ls r : List (List UInt8)} {j l h : Int} (hq : rdN kwSplit 3 ls = some ([j, l, h], r)) (hb : leafB ⟨j, l, h, zeroV⟩ = true) : rdSplit ls = none := by
 unfold rdSplit; rw [hq]; simp only; rw [if_pos (of_decide_eq_true hb)]
theorem rdSplit_yes {ls r : List (List UInt8)} {j l h : Int} (hq : rdN kwSplit 3 ls = some ([j, l, h], r)) (hb : leafB ⟨j, l, h, zeroV⟩ = false) : rdSplit ls = some (⟨j, l, h, zeroV⟩, r) := by
 unfold rdSplit; rw [hq]; simp only; rw [if_neg (of_decide_eq_false hb)]
theorem rdLeaf_no {ls : List (List UInt8)} (h : rdN kwLeaf 2 ls = none) : rdLeaf ls = none := by unfold rdLeaf; rw [h]
theorem rdLeaf_no1 {ls r : List (List UInt8)} {k n : Int} (hq : rdN kwLeaf 2 ls = some ([k, n], r)) (hc : ¬ cntOk n = true) : rdLeaf ls = none := by
 unfold rdLeaf; rw [hq]; simp only; rw [if_neg hc]
theorem rdLeaf_no2 {ls r : List (List UInt8)} {k n : Int} (hq : rdN kwLeaf 2 ls = some ([k, n], r)) (hc : cntOk n = true) (hr : rep rdNormal n.toNat r = none) : rdLeaf ls = none := by
 unfold rdLeaf; rw [hq]; simp only; rw [if_pos hc, hr]
theorem rdLeaf_no3 {ls r r2 : List (List UInt8)} {k n : Int} {ns : List (Int × Int × Int)} (hq : rdN kwLeaf 2 ls = some ([k, n], r)) (hc : cntOk n = true) (hr : rep rdNormal n.toNat r = some (ns, r2)) (hk : k = 2) (hw : rdWit r2 = none) : rdLeaf ls = none := by
 unfold rdLeaf; rw [hq]; simp only; rw [if_pos hc, hr]; simp only; rw [if_pos hk, hw]
theorem rdLeaf_yes {ls r r2 r3 : List (List UInt8)} {k n p : Int} {l m : List Int} {ns : List (Int × Int × Int)} (hq : rdN kwLeaf 2 ls = some ([k, n], r)) (hc : cntOk n = true) (hr : rep rdNormal n.toNat r = some (ns, r2)) (hk : k = 2) (hw : rdWit r2 = some ((p, l, m), r3)) : rdLeaf ls = some (⟨-1, -1, -1, ⟨k, ns, p, l, m⟩⟩, r3) := by
 unfold rdLeaf; rw [hq]; simp only; rw [if_pos hc, hr]; simp only; rw [if_pos hk, hw]
theorem rdLeaf_yes2 {ls r r2 : List (List UInt8)} {k n : Int} {ns : List (Int × Int × Int)} (hq : rdN kwLeaf 2 ls = some ([k, n], r)) (hc : cntOk n = true) (hr : rep rdNormal n.toNat r = some (ns, r2)) (hk : k ≠ 2) : rdLeaf ls = some (⟨-1, -1, -1, ⟨k, ns, 0, [], []⟩⟩, r2) := by
 unfold rdLeaf; rw [hq]; simp only; rw [if_pos hc, hr]; simp only; rw [if_neg hk]
theorem rdTree_no0 {ls : List (List UInt8)} (h : rdN kwCut 2 ls = none) : rdTree ls = none := by unfold rdTree; rw [h]
theorem rdTree_no1 {ls r : List (List UInt8)} {x y : Int} (h : rdN kwCut 2 ls = some ([x, y], r)) (hc : ¬ cntOk x = true ∨ ¬ cntOk y = true) : rdTree ls = none := by
 unfold rdTree; rw [h]; simp only
 rw [if_neg]
 rw [Bool.and_eq_true]
 exact fun e => hc.elim (fun h => h e.1) (fun h => h e.2)
theorem rdTree_no2 {ls r : List (List UInt8)} {x y : Int} (h : rdN kwCut 2 ls = some ([x, y], r)) (hx : cntOk x = true) (hy : cntOk y = true) (hr : rdN kwRoot (2 * x.toNat) r = none) : rdTree ls = none := by
 unfold rdTree; rw [h]; simp only
 rw [if_pos (by rw [hx, hy]; rfl), hr]
theorem rdTree_no3 {ls r r2 : List (List UInt8)} {x y : Int} {ns : List Int} (h : rdN kwCut 2 ls = some ([x, y], r)) (hx : cntOk x = true) (hy : cntOk y = true) (hr : rdN kwRoot (2 * x.toNat) r = some (ns, r2)) (hc : rep rdCell y.toNat r2 = none) : rdTree ls = none := by
 unfold rdTree; rw [h]; simp only
 rw [if_pos (by rw [hx, hy]; rfl), hr]; simp only; rw [hc]
theorem rdTree_yes {ls r r2 r3 : List (List UInt8)} {x y : Int} {ns : List Int} {cs : List CellD} (h : rdN kwCut 2 ls = some ([x, y], r)) (hx : cntOk x = true) (hy : cntOk y = true) (hr : rdN kwRoot (2 * x.toNat) r = some (ns, r2)) (hc : rep rdCell y.toNat r2 = some (cs, r3)) : rdTree ls = some (⟨pairs ns, cs⟩, r3) := by
 unfold rdTree; rw [h]; simp only
 rw [if_pos (by rw [hx, hy]; rfl), hr]; simp only; rw [hc]
theorem pairs_get : ∀ {n k : Nat} {ns : List Int}, ns.length = 2 * n → k < n → ∃ x y, ns[2 * k]? = some x ∧ ns[2 * k + 1]? = some y ∧ (pairs ns)[k]? = some (x, y)
 | 0, k, ns, _, hk => by omega
 | n + 1, k, [], h, _ => by simp at h
 | n + 1, k, [a], h, _ => by simp at h; omega
 | n + 1, 0, a :: b :: r, h, _ => ⟨a, b, rfl, rfl, rfl⟩
 | n + 1, k + 1, a :: b :: r, h, hk => by
  simp only [List.length_cons] at h
  obtain ⟨x, y, h1, h2, h3⟩ := pairs_get (n := n) (k := k) (ns := r) (by omega) (by omega)
  refine ⟨x, y, ?_, ?_, ?_⟩
  ·rw [show 2 * (k + 1) = 2 * k + 1 + 1 by omega, List.getElem?_cons_succ, List.getElem?_cons_succ]; exact h1
  ·rw [show 2 * (k + 1) + 1 = 2 * k + 1 + 1 + 1 by omega, List.getElem?_cons_succ, List.getElem?_cons_succ]; exact h2
  ·unfold pairs; rw [List.getElem?_cons_succ]; exact h3
end Go.Proofs.Fm
