/-
  Texts put together: Pn.
-/
import Derived.Test.YthcmkpcefiiiaaaGreatDoorZFormatCanonicalCard9
set_option linter.unusedVariables false
namespace Go.Proofs.Fm
open Go.Lib
theorem stepB_nobox {t : TreeD} {i : Nat} {out : List (Option BoxD)} (h : out[i]? = some none) : stepB t i out = none := by
 unfold stepB; rw [h]
theorem stepB_noform {t : TreeD} {i : Nat} {out : List (Option BoxD)} {b : BoxD} {c : CellD} (h1 : out[i]? = some (some b)) (h2 : t.cells[i]? = some c) (hb : leafB c = true) (hf : formB c.verd = false) : stepB t i out = none := by
 unfold stepB; rw [h1, h2]; simp only; rw [if_pos hb, if_neg (by rw [hf]; decide)]
theorem stepB_nocond {t : TreeD} {i : Nat} {out : List (Option BoxD)} {b : BoxD} {c : CellD} (h1 : out[i]? = some (some b)) (h2 : t.cells[i]? = some c) (hb : leafB c = false) (hf : ¬ (zeroB c.verd = true ∧ (i : Int) < c.low ∧ c.low < (t.cells.length : Nat) ∧ (i : Int) < c.high ∧ c.high < (t.cells.length : Nat) ∧ c.low ≠ c.high)) : stepB t i out = none := by
 unfold stepB; rw [h1, h2]; simp only; rw [if_neg (by rw [hb]; decide), if_neg hf]
theorem stepB_nohalve {t : TreeD} {i : Nat} {out : List (Option BoxD)} {b : BoxD} {c : CellD} (h1 : out[i]? = some (some b)) (h2 : t.cells[i]? = some c) (hb : leafB c = false) (hh : halve b c.joint = none) : stepB t i out = none := by
 unfold stepB; rw [h1, h2]; simp only; rw [if_neg (by rw [hb]; decide)]
 split
 ·rw [hh]; split <;> first | rfl | (rename_i h _; cases h) | (rename_i h; cases h)
 ·rfl
theorem stepB_taken {t : TreeD} {i : Nat} {out : List (Option BoxD)} {b : BoxD} {c : CellD} (h1 : out[i]? = some (some b)) (h2 : t.cells[i]? = some c) (hb : leafB c = false) (hh : ¬ (out[c.low.toNat]? = some none ∧ out[c.high.toNat]? = some none)) : stepB t i out = none := by
 unfold stepB; rw [h1, h2]; simp only; rw [if_neg (by rw [hb]; decide)]
 split
 ·split
  ·rename_i e1 e2 _; exact absurd ⟨e1, e2⟩ hh
  ·rfl
 ·rfl
theorem boxK_some {t : TreeD} {k : Nat} {out : List (Option BoxD)} (h : boxK t (k + 1) = some out) : ∃ o, boxK t k = some o ∧ stepB t k o = some out := by
 rw [boxK] at h
 split at h
 ·rename_i o e; exact ⟨o, e, h⟩
 ·cases h
theorem boxK_none {t : TreeD} : ∀ {m k : Nat}, boxK t k = none → boxK t (k + m) = none
 | 0, _, h => h
 | m + 1, k, h => by
  have := boxK_none (m := m) h
  rw [← Nat.add_assoc, boxK, this]
theorem valid_no {t : TreeD} {k : Nat} {out : List (Option BoxD)} (hk : k < t.cells.length) (h : boxK t k = some out) (hs : stepB t k out = none) : validT t = false := by
 have h1 : boxK t (k + 1) = none := by rw [boxK, h]; exact hs
 have h2 := boxK_none (m := t.cells.length - (k + 1)) h1
 rw [show k + 1 + (t.cells.length - (k + 1)) = t.cells.length by omega] at h2
 unfold validT boxesT
 split
 ·rw [h2]; rfl
 ·rfl
theorem valid_size {t : TreeD} (h : sizeB t = false) : validT t = false := by
 unfold validT boxesT; rw [if_neg (by rw [h]; decide)]; rfl
theorem step_more {t : TreeD} (hv : validT t = true) {k : Nat} {out : List (Option BoxD)} (hk : k < t.cells.length) (h : boxK t k = some out) : ∃ out2, stepB t k out = some out2 ∧ boxK t (k + 1) = some out2 := by
 cases hs : stepB t k out with
 | none => rw [valid_no hk h hs] at hv; cases hv
 | some o => exact ⟨o, rfl, by rw [boxK, h]; exact hs⟩
theorem setI_len (b : BoxD) (j : Nat) (f : Int × Int → Int × Int) : (setI b j f).length = b.length := by
 unfold setI; split <;> simp
theorem halve_len {b x y : BoxD} {j : Int} (h : halve b j = some (x, y)) : x.length = b.length ∧ y.length = b.length := by
 unfold halve at h
 split at h
 ·split at h
  ·split at h
   ·injection h with h
    injection h with h1 h2
    rw [← h1, ← h2]
    exact ⟨setI_len _ _ _, setI_len _ _ _⟩
   ·cases h
  ·cases h
 ·cases h
theorem halve_in {b x y : BoxD} {j : Int} (h : halve b j = some (x, y)) : 0 ≤ j ∧ j < (b.length : Int) := by
 unfold halve at h
 split at h
 ·rename_i e; exact ⟨e.1, by omega⟩
 ·cases h
theorem leaf_box {t : TreeD} {out : List (Option BoxD)} {i : Nat} {c : CellD} (hv : validT t = true) (ho : boxesT t = some out) (hc : t.cells[i]? = some c) : ∃ b, out[i]? = some (some b) := by
 obtain ⟨hs, out', ho', hk⟩ := valid_un hv
 rw [ho] at ho'
 injection ho' with ho'
 subst ho'
 have hi := (List.getElem?_eq_some_iff.1 hc).1
 have hn := (size_un hs).2.2.1
 have hks : ∀ m k, k + m = t.cells.length → ∃ o, boxK t k = some o := by
  intro m
  induction m with
  | zero => intro k hk2; exact ⟨out, by rw [← hk]; congr 1⟩
  | succ m ih =>
   intro k hk2
   obtain ⟨o, e⟩ := ih (k + 1) (by omega)
   obtain ⟨o2, e2, -⟩ := boxK_some e
   exact ⟨o2, e2⟩
 obtain ⟨o1, h1⟩ := hks (t.cells.length - i) i (by omega)
 obtain ⟨o2, h2⟩ := hks (t.cells.length - (i + 1)) (i + 1) (by omega)
 obtain ⟨o3, h3, h4⟩ := boxK_some h2
 rw [h1] at h3
 injection h3 with h3
 subst h3
 obtain ⟨b, c', hb, -, -⟩ := stepB_un h4
 refine ⟨b, boxK_mono hn (m := t.cells.length - i) h1 (by rw [show i + (t.cells.length - i) = t.cells.length by omega]; exact hk) i b hb⟩
end Go.Proofs.Fm
