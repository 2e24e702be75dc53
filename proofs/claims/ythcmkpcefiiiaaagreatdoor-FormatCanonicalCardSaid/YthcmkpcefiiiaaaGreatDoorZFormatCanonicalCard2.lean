/-
  Texts put together: Pa Pb Pc Pd Pe Pf Pg.
-/
import Derived.Lib.ParseIntB
import Derived.Lib.ItoaMem
import Derived.Lib.Split
import Derived.Lib.IndexMore
set_option linter.unusedVariables false
section
/-
  The plain law of numbers in documents: a word is a number's own numeral.
-/
namespace Go.Proofs.Fm
open Go.Lib
/-- The value of digits behind acc. -/
def valD (acc : Nat) (l : List UInt8) : Nat := l.foldl (fun a c => 10 * a + (c.toNat - 48)) acc
def digB (c : UInt8) : Bool := decide (48 ≤ c.toNat ∧ c.toNat ≤ 57)
theorem valD_snoc (acc : Nat) (l : List UInt8) (c : UInt8) : valD acc (l ++ [c]) = 10 * valD acc l + (c.toNat - 48) := by simp [valD]
theorem valD_cons (acc : Nat) (c : UInt8) (l : List UInt8) : valD acc (c :: l) = valD (10 * acc + (c.toNat - 48)) l := by unfold valD; rw [List.foldl_cons]
theorem valD_ge : ∀ (l : List UInt8) (acc : Nat), acc ≤ valD acc l
 | [], acc => Nat.le_refl _
 | c :: l, acc => by
  rw [valD_cons]
  have := valD_ge l (10 * acc + (c.toNat - 48))
  omega
/-- Digits without a zero ahead are the numeral of their value. -/
theorem dec_val : ∀ (n : Nat) (l : List UInt8), l.length = n → l ≠ [] → (∀ c ∈ l, digB c = true) → (l.length = 1 ∨ l.head?.map (·.toNat) ≠ some 48) → decDigits (valD 0 l) = l ∧ (l.head?.map (·.toNat) ≠ some 48 → 1 ≤ valD 0 l)
 | 0, l, hn, hne, _, _ => absurd (List.length_eq_zero_iff.1 hn) hne
 | n + 1, l, hn, hne, hd, hz => by
  rcases List.eq_nil_or_concat l with h | ⟨m, c, h⟩
  ·exact absurd h hne
  rw [List.concat_eq_append] at h
  subst h
  have hml : m.length = n := by simpa using hn
  have hc := hd c (by simp)
  unfold digB at hc
  rw [decide_eq_true_eq] at hc
  have hcc : UInt8.ofNat (48 + (c.toNat - 48)) = c := by
   rw [show 48 + (c.toNat - 48) = c.toNat by omega]
   exact UInt8.ofNat_toNat
  rw [valD_snoc]
  cases m with
  | nil =>
   have hv : valD 0 [] = 0 := rfl
   rw [hv, decDigits_one (by omega), Nat.mul_zero, Nat.zero_add, hcc]
   refine ⟨rfl, fun h => ?_⟩
   simp at h
   omega
  | cons b r =>
   have hhd : (b :: r ++ [c]).head? = (b :: r).head? := rfl
   rw [hhd] at hz ⊢
   have hb0 : (b :: r).head?.map (·.toNat) ≠ some 48 := by
    rcases hz with h | h
    ·simp at h
    ·exact h
   obtain ⟨h1, h2⟩ := dec_val n (b :: r) hml (by simp) (fun x hx => hd x (by rw [List.mem_append]; exact .inl hx)) (.inr hb0)
   have hp := h2 hb0
   refine ⟨?_, fun _ => by omega⟩
   rw [decDigits, dif_neg (by omega)]
   rw [show (10 * valD 0 (b :: r) + (c.toNat - 48)) / 10 = valD 0 (b :: r) by omega, show (10 * valD 0 (b :: r) + (c.toNat - 48)) % 10 = c.toNat - 48 by omega, h1, hcc]
/-- The numeral of a number: digits, without a zero ahead. -/
theorem dec_form (u : Nat) : (∀ c ∈ decDigits u, digB c = true) ∧ valD 0 (decDigits u) = u ∧ decDigits u ≠ [] ∧ (1 ≤ u → (decDigits u).head?.map (·.toNat) ≠ some 48) := by
 have dg : ∀ k, k < 10 → (UInt8.ofNat (48 + k)).toNat = 48 + k := fun k hk => by
  rw [UInt8.toNat_ofNat']; omega
 induction u using Nat.strongRecOn with
 | _ u ih =>
  by_cases h : u < 10
  ·rw [decDigits_one h]
   refine ⟨fun c hc => ?_, ?_, by simp, fun h1 => ?_⟩
   ·rw [List.mem_singleton] at hc
    subst hc
    unfold digB
    rw [dg u h]
    exact decide_eq_true (by omega)
   ·simp only [valD, List.foldl_cons, List.foldl_nil]
    rw [dg u h]
    omega
   ·simp only [List.head?_cons, Option.map_some, ne_eq, Option.some.injEq]
    rw [dg u h]
    omega
  ·obtain ⟨h1, h2, h3, h4⟩ := ih (u / 10) (by omega)
   rw [decDigits, dif_neg h]
   have hm := dg (u % 10) (by omega)
   refine ⟨fun c hc => ?_, ?_, by simp, fun _ => ?_⟩
   ·rw [List.mem_append, List.mem_singleton] at hc
    rcases hc with hc | rfl
    ·exact h1 c hc
    ·unfold digB
     rw [hm]
     exact decide_eq_true (by omega)
   ·rw [valD_snoc, h2, hm]; omega
   ·obtain ⟨b, r, e⟩ := List.exists_cons_of_ne_nil h3
    have := h4 (by omega)
    rw [e] at this ⊢
    exact this
/-- parseUintM reads digits. -/
theorem uintM_val : ∀ (l : List UInt8) (acc M : Nat), M < 18446744073709551616 → (∀ c ∈ l, digB c = true) → valD acc l ≤ M → parseUintM M acc l = .ok (valD acc l)
 | [], acc, M, _, _, _ => rfl
 | c :: l, acc, M, hM, hd, hv => by
  have hc := hd c (by simp)
  unfold digB at hc
  rw [decide_eq_true_eq] at hc
  rw [valD_cons] at hv ⊢
  have hge := valD_ge l (10 * acc + (c.toNat - 48))
  rw [parseUintM, if_pos hc, if_neg (by omega), if_neg (by omega)]
  rw [show acc * 10 + (c.toNat - 48) = 10 * acc + (c.toNat - 48) by omega]
  exact uintM_val l _ M hM (fun x hx => hd x (by simp [hx])) hv
/-- Digits as in a document: s the whole word. -/
def okD (d s : List UInt8) : Bool := !(decide (d = [] ∨ 19 < d.length ∨ (d.head?.map (·.toNat) = some 48 ∧ s.map (·.toNat) ≠ [48]))) && d.all digB
def negB (s : List UInt8) : Bool := decide (s.head?.map (·.toNat) = some 45)
/-- The number of a word that is spelled as in a document (the reference's words). -/
def spelledL (s : List UInt8) : Option Int :=
 if negB s = true then (if okD s.tail s = true ∧ valD 0 s.tail ≤ 9223372036854775808 then some (-(valD 0 s.tail : Int)) else none)
 else (if okD s s = true ∧ valD 0 s < 9223372036854775808 then some (valD 0 s : Int) else none)
theorem okD_mk {d s : List UInt8} (h1 : d ≠ []) (h2 : d.length ≤ 19) (h3 : d.head?.map (·.toNat) = some 48 → s.map (·.toNat) = [48]) (h4 : ∀ c ∈ d, digB c = true) : okD d s = true := by
 unfold okD
 rw [Bool.and_eq_true, Bool.not_eq_true', decide_eq_false_iff_not, List.all_eq_true]
 refine ⟨?_, h4⟩
 rintro (h | h | ⟨h, h'⟩)
 ·exact h1 h
 ·omega
 ·exact h' (h3 h)
theorem okD_un {d s : List UInt8} (h : okD d s = true) : d ≠ [] ∧ d.length ≤ 19 ∧ (d.head?.map (·.toNat) = some 48 → s.map (·.toNat) = [48]) ∧ ∀ c ∈ d, digB c = true := by
 unfold okD at h
 rw [Bool.and_eq_true, Bool.not_eq_true', decide_eq_false_iff_not, List.all_eq_true] at h
 obtain ⟨h1, h2⟩ := h
 refine ⟨fun e => h1 (.inl e), Nat.le_of_not_lt fun e => h1 (.inr (.inl e)), fun e => Decidable.byContradiction fun e2 => h1 (.inr (.inr ⟨e, e2⟩)), h2⟩
/-- A number's own numeral is spelled so. -/
theorem spelled_itoa (n : Int) (h0 : -9223372036854775808 ≤ n) (h1 : n ≤ 9223372036854775807) : spelledL (itoa n) = some n := by
 have len19 : ∀ u : Nat, u ≤ 9223372036854775808 → (decDigits u).length ≤ 19 := fun u hu => by
  rw [decDigits_length]
  rcases Nat.lt_or_ge 19 (nDigits u) with h | h
  ·exfalso
   have hp : ∀ (k v : Nat), k + 1 ≤ nDigits v → 1 ≤ k → 10 ^ k ≤ v := by
    intro k
    induction k with
    | zero => intro v _ h; omega
    | succ k ih =>
     intro v hv _
     have hb : ¬ v < 10 := fun h => by rw [nDigits_small h] at hv; omega
     rw [nDigits_big hb] at hv
     rw [Nat.pow_succ]
     rcases Nat.eq_zero_or_pos k with e | e
     ·subst e; omega
     ·have := ih (v / 10) (by omega) e; omega
   have := hp 19 u (by omega) (by omega)
   omega
  ·exact h
 by_cases hn : n < 0
 ·obtain ⟨u, rfl⟩ : ∃ u : Nat, n = -(u : Int) := ⟨n.natAbs, by omega⟩
  rw [itoa_neg u (by omega)]
  obtain ⟨f1, f2, f3, f4⟩ := dec_form u
  have hneg : negB ((45 : UInt8) :: decDigits u) = true := by unfold negB; exact decide_eq_true rfl
  unfold spelledL
  rw [if_pos hneg, List.tail_cons, if_pos, f2]
  exact ⟨okD_mk f3 (len19 u (by omega)) (fun h => absurd h (f4 (by omega))) f1, by rw [f2]; omega⟩
 ·obtain ⟨u, rfl⟩ : ∃ u : Nat, n = (u : Int) := ⟨n.toNat, by omega⟩
  rw [itoa_nonneg]
  obtain ⟨f1, f2, f3, f4⟩ := dec_form u
  obtain ⟨b, r, e⟩ := List.exists_cons_of_ne_nil f3
  have hb := f1 b (by rw [e]; simp)
  unfold digB at hb
  rw [decide_eq_true_eq] at hb
  have hneg : ¬ negB (decDigits u) = true := by
   unfold negB
   rw [decide_eq_true_eq, e]
   simp
   omega
  unfold spelledL
  rw [if_neg hneg, if_pos, f2]
  refine ⟨okD_mk f3 (len19 u (by omega)) (fun h => ?_) f1, by rw [f2]; omega⟩
  by_cases hu : 1 ≤ u
  ·exact absurd h (f4 hu)
  ·have h0 : u = 0 := by omega
   subst h0
   rw [decDigits_one (by omega)]
   rfl
/-- A word that is spelled so is its number's numeral, and ParseInt reads it. -/
theorem spelled_some {s : List UInt8} {n : Int} (h : spelledL s = some n) : itoa n = s ∧ parseIntB 64 s = .ok n := by
 unfold spelledL at h
 by_cases hneg : negB s = true
 ·rw [if_pos hneg] at h
  split at h
  ·rename_i hc
   injection h with h
   subst h
   obtain ⟨hok, hv⟩ := hc
   obtain ⟨c1, c2, c3, hall⟩ := okD_un hok
   obtain ⟨b, r, rfl⟩ : ∃ b r, s = b :: r := by
    cases s with
    | nil => simp at c1
    | cons b r => exact ⟨b, r, rfl⟩
   rw [List.tail_cons] at c1 c2 c3 hall hv ⊢
   have hb45 : b.toNat = 45 := by
    unfold negB at hneg
    rw [decide_eq_true_eq] at hneg
    simpa using hneg
   have hz : r.head?.map (·.toNat) ≠ some 48 := fun e => by
    have := c3 e
    simp at this
    omega
   obtain ⟨d1, d2⟩ := dec_val r.length r rfl c1 hall (.inr hz)
   have hp := d2 hz
   have hb : b = 45 := UInt8.toNat_inj.1 (by rw [hb45]; rfl)
   refine ⟨by rw [itoa_neg _ hp, d1, hb], ?_⟩
   have hu := uintM_val r 0 (2 ^ 64 - 1) (by decide) hall (by omega)
   have e1 : (if b.toNat = 43 ∨ b.toNat = 45 then r else b :: r) = r := if_pos (.inr hb45)
   have e2 : (2 : Nat) ^ (64 - 1) = 9223372036854775808 := by decide
   unfold parseIntB parseUintB
   simp only [e1]
   rw [if_neg c1, hu]
   simp only
   rw [if_neg (fun h => h.1 hb45), if_neg (by rintro ⟨_, h⟩; omega), if_pos hb45]
  ·cases h
 ·rw [if_neg hneg] at h
  split at h
  ·rename_i hc
   injection h with h
   subst h
   obtain ⟨hok, hv⟩ := hc
   obtain ⟨c1, c2, c3, hall⟩ := okD_un hok
   obtain ⟨b, r, rfl⟩ : ∃ b r, s = b :: r := by
    cases s with
    | nil => simp at c1
    | cons b r => exact ⟨b, r, rfl⟩
   have hz : (b :: r).length = 1 ∨ (b :: r).head?.map (·.toNat) ≠ some 48 := by
    by_cases e : (b :: r).head?.map (·.toNat) = some 48
    ·left
     have := congrArg List.length (c3 e)
     simpa using this
    ·exact .inr e
   obtain ⟨d1, d2⟩ := dec_val (b :: r).length (b :: r) rfl (by simp) hall hz
   refine ⟨by rw [itoa_nonneg, d1], ?_⟩
   have hbd := hall b (by simp)
   unfold digB at hbd
   rw [decide_eq_true_eq] at hbd
   have hu := uintM_val (b :: r) 0 (2 ^ 64 - 1) (by decide) hall (by omega)
   have e1 : (if b.toNat = 43 ∨ b.toNat = 45 then r else b :: r) = b :: r := if_neg (by omega)
   have e2 : (2 : Nat) ^ (64 - 1) = 9223372036854775808 := by decide
   unfold parseIntB parseUintB
   simp only [e1]
   rw [if_neg (by simp), hu]
   simp only
   rw [if_neg (by rintro ⟨_, h⟩; omega), if_neg (by rintro ⟨h, _⟩; omega), if_neg (by omega)]
  ·cases h
/-- The code's way to read a number agrees with the reference's. -/
theorem number_iff {s : List UInt8} {n : Int} (h0 : -9223372036854775808 ≤ n) (h1 : n ≤ 9223372036854775807) : spelledL s = some n ↔ parseIntB 64 s = .ok n ∧ itoa n = s :=
 ⟨fun h => ⟨(spelled_some h).2, (spelled_some h).1⟩, fun ⟨_, h⟩ => by rw [← h]; exact spelled_itoa n h0 h1⟩
end Go.Proofs.Fm
end

section
/-
  The plain law of lines and words: cutting at one byte.
-/
namespace Go.Proofs.Fm
open Go.Lib
/-- The pieces between the bytes c. -/
def splitC (c : UInt8) : List UInt8 → List (List UInt8)
 | [] => [[]]
 | b :: l => if b = c then [] :: splitC c l else match splitC c l with
  | [] => [[b]]
  | h :: t => (b :: h) :: t
theorem splitC_ne (c : UInt8) : ∀ l, splitC c l ≠ []
 | [] => by simp [splitC]
 | b :: l => by
  unfold splitC
  split
  ·simp
  ·split <;> simp
theorem splitC_no {c : UInt8} : ∀ {l : List UInt8}, c ∉ l → splitC c l = [l]
 | [], _ => rfl
 | b :: l, h => by
  rw [List.mem_cons, not_or] at h
  unfold splitC
  rw [if_neg (fun e => h.1 e.symm), splitC_no h.2]
theorem splitC_at {c : UInt8} : ∀ {a b : List UInt8}, c ∉ a → splitC c (a ++ c :: b) = a :: splitC c b
 | [], b, _ => by simp [splitC]
 | x :: a, b, h => by
  rw [List.mem_cons, not_or] at h
  rw [List.cons_append, splitC, if_neg (fun e => h.1 e.symm), splitC_at h.2]
theorem index_no {c : UInt8} : ∀ {l : List UInt8}, c ∉ l → index l [c] = -1
 | [], _ => rfl
 | b :: l, h => by
  rw [List.mem_cons, not_or] at h
  unfold index
  rw [if_neg (by simp [List.isPrefixOf, h.1]), index_no h.2]
  rfl
theorem index_at {c : UInt8} : ∀ {a b : List UInt8}, c ∉ a → index (a ++ c :: b) [c] = (a.length : Int)
 | [], b, _ => by
  rw [List.nil_append]
  unfold index
  rw [if_pos (by simp [List.isPrefixOf])]
  rfl
 | x :: a, b, h => by
  rw [List.mem_cons, not_or] at h
  rw [List.cons_append]
  unfold index
  rw [if_neg (by simp [List.isPrefixOf, h.1]), index_at h.2]
  have : ((a.length : Int) == -1) = false := by simp
  simp [this]
theorem first_of {c : UInt8} {l : List UInt8} (h : c ∈ l) : ∃ a b, l = a ++ c :: b ∧ c ∉ a := by
 induction l with
 | nil => cases h
 | cons x l ih =>
  by_cases e : c = x
  ·exact ⟨[], l, by rw [e]; rfl, by simp⟩
  ·rw [List.mem_cons] at h
   rcases h with h | h
   ·exact absurd h e
   ·obtain ⟨a, b, h1, h2⟩ := ih h
    exact ⟨x :: a, b, by rw [h1]; rfl, by simp [e, h2]⟩
theorem cut_no {c : UInt8} {l : List UInt8} (h : c ∉ l) : cut l [c] = (l, [], false) := by
 unfold cut; rw [index_no h, if_neg (by omega)]
theorem cut_at {c : UInt8} {a b : List UInt8} (h : c ∉ a) : cut (a ++ c :: b) [c] = (a, b, true) := by
 unfold cut
 rw [index_at h, if_pos (by omega)]
 simp
theorem count_no {c : UInt8} {l : List UInt8} (h : c ∉ l) : count l [c] = 0 := by
 unfold count countFrom
 rw [index_no h]
 rfl
theorem countFrom_more (c : UInt8) : ∀ (f l), l.length < f → ∀ g, l.length < g → countFrom [c] f l = countFrom [c] g l := by
 intro f
 induction f with
 | zero => intro l h; omega
 | succ f ih =>
  intro l h g hg
  obtain ⟨g, rfl⟩ : ∃ k, g = k + 1 := ⟨g - 1, by omega⟩
  by_cases hc : c ∈ l
  ·obtain ⟨a, b, rfl, ha⟩ := first_of hc
   have e : index (a ++ c :: b) [c] = (a.length : Int) := index_at ha
   have e2 : ((a.length : Int) == -1) = false := by simp
   unfold countFrom
   rw [e, e2]
   have ed : (a ++ c :: b).drop ((a.length : Int).toNat + [c].length) = b := by simp
   rw [ed]
   simp only [List.length_append, List.length_cons] at h hg
   rw [ih b (by omega) g (by omega)]
  ·unfold countFrom
   rw [index_no hc]
   rfl
theorem count_at {c : UInt8} {a b : List UInt8} (h : c ∉ a) : count (a ++ c :: b) [c] = count b [c] + 1 := by
 unfold count
 rw [countFrom, index_at h]
 have e2 : ((a.length : Int) == -1) = false := by simp
 rw [e2]
 have ed : (a ++ c :: b).drop ((a.length : Int).toNat + [c].length) = b := by simp
 rw [ed]
 rw [countFrom_more c (a ++ c :: b).length b (by simp; omega) (b.length + 1) (by omega)]
 simp
 omega
/-- strings.Split at one byte. -/
theorem split_one (c : UInt8) : ∀ (n : Nat) (l : List UInt8), l.length ≤ n → split l [c] = splitC c l := by
 intro n
 induction n with
 | zero =>
  intro l h
  obtain rfl : l = [] := List.length_eq_zero_iff.1 (by omega)
  rfl
 | succ n ih =>
  intro l h
  by_cases hc : c ∈ l
  ·obtain ⟨a, b, rfl, ha⟩ := first_of hc
   simp only [List.length_append, List.length_cons] at h
   have hb := ih b (by omega)
   unfold split at hb ⊢
   rw [count_at ha, splitK, index_at ha]
   have e2 : ((a.length : Int) == -1) = false := by simp
   rw [e2, splitC_at ha]
   simp only [Bool.false_eq_true, if_false]
   have ed : (a ++ c :: b).drop ((a.length : Int).toNat + [c].length) = b := by simp
   rw [ed, hb]
   simp
  ·unfold split
   rw [count_no hc, splitK, splitC_no hc]
/-- The lines of a text that ends with a newline, and what follows the last newline. -/
def linesT (s : List UInt8) : List (List UInt8) × List UInt8 := ((splitC 10 s).dropLast, (splitC 10 s).getLast?.getD [])
theorem linesT_no {s : List UInt8} (h : (10 : UInt8) ∉ s) : linesT s = ([], s) := by unfold linesT; rw [splitC_no h]; rfl
theorem linesT_at {a b : List UInt8} (h : (10 : UInt8) ∉ a) : linesT (a ++ 10 :: b) = (a :: (linesT b).1, (linesT b).2) := by
 unfold linesT
 rw [splitC_at h]
 obtain ⟨x, t, e⟩ := List.exists_cons_of_ne_nil (splitC_ne 10 b)
 rw [e]
 rfl
/-- A line that is read from the front. -/
theorem cut_line (s : List UInt8) : (∃ l ls, (linesT s).1 = l :: ls ∧ (cut s [10]).2.2 = true ∧ (cut s [10]).1 = l ∧ linesT (cut s [10]).2.1 = (ls, (linesT s).2)) ∨ ((linesT s).1 = [] ∧ (cut s [10]).2.2 = false) := by
 by_cases hc : (10 : UInt8) ∈ s
 ·obtain ⟨a, b, rfl, ha⟩ := first_of hc
  left
  rw [linesT_at ha, cut_at ha]
  exact ⟨a, _, rfl, rfl, rfl, rfl⟩
 ·right
  rw [linesT_no hc, cut_no hc]
  exact ⟨rfl, rfl⟩
end Go.Proofs.Fm
end

section
/-
  Paths as data: the text of a path, and the reading of a path from lines.
-/
namespace Go.Proofs.Fm
open Go.Lib
structure UseD where
 depth : Int
 index : Int
 nums : List Int
structure EdgeD where
 table : List (Int × Int × Int)
 uses : List UseD
structure PathD where
 pts : List (List Int)
 edges : List EdgeD
/-- The form of a path. -/
def rightP (p : PathD) : Bool := decide (2 ≤ p.pts.length ∧ p.pts.length ≤ 256 ∧ p.edges.length = p.pts.length - 1 ∧ 1 ≤ (p.pts.head?.getD []).length ∧ (p.pts.head?.getD []).length ≤ 10) && p.pts.all fun q => decide (q.length = (p.pts.head?.getD []).length)
/-! Writing. -/
def numT (n : Int) : List UInt8 := 32 :: itoa n
def lineT (kw : List UInt8) (ns : List Int) : List UInt8 := kw ++ (ns.map numT).flatten ++ [10]
def kwPath : List UInt8 := [112, 97, 116, 104]
def kwPoint : List UInt8 := [112, 111, 105, 110, 116]
def kwEdge : List UInt8 := [101, 100, 103, 101]
def kwNormal : List UInt8 := [110, 111, 114, 109, 97, 108]
def kwUse : List UInt8 := [117, 115, 101]
def kwEnd : List UInt8 := [101, 110, 100]
def vecL (v : Int × Int × Int) : List Int := [v.1, v.2.1, v.2.2]
def useT (u : UseD) : List UInt8 := lineT kwUse (u.depth :: u.index :: u.nums)
def edgeT (e : EdgeD) : List UInt8 := lineT kwEdge [(e.table.length : Nat), (e.uses.length : Nat)] ++ (e.table.map fun v => lineT kwNormal (vecL v)).flatten ++ (e.uses.map useT).flatten
def pathT (p : PathD) : List UInt8 := lineT kwPath [(p.pts.length : Nat)] ++ (p.pts.map (lineT kwPoint)).flatten ++ (p.edges.map edgeT).flatten
def docT (p : PathD) : List UInt8 := pathT p ++ lineT kwEnd []
/-- What FormatPath answers: the text, or nothing. -/
def formatP (p : PathD) : Option (List UInt8) := if rightP p = true ∧ (docT p).length ≤ 1048576 then some (docT p) else none
/-! Reading. -/
abbrev Rd (α : Type) := List (List UInt8) → Option (α × List (List UInt8))
/-- The numbers of a line with a keyword. -/
def numsOf (kw l : List UInt8) : Option (List Int) := match splitC 32 l with
 | [] => none
 | w :: ws => if w = kw then ws.mapM spelledL else none
def rdLine (kw : List UInt8) : Rd (List Int)
 | [] => none
 | l :: ls => match numsOf kw l with
  | some ns => some (ns, ls)
  | none => none
def rdN (kw : List UInt8) (n : Nat) : Rd (List Int) := fun ls => match rdLine kw ls with
 | some (ns, r) => if ns.length = n then some (ns, r) else none
 | none => none
def rep {α : Type} (f : Rd α) : Nat → Rd (List α)
 | 0, ls => some ([], ls)
 | n + 1, ls => match f ls with
  | some (x, r) => match rep f n r with
   | some (xs, r') => some (x :: xs, r')
   | none => none
  | none => none
def cntOk (n : Int) : Bool := decide (0 ≤ n ∧ n ≤ 1048576)
def rdNormal : Rd (Int × Int × Int) := fun ls => match rdN kwNormal 3 ls with
 | some ([x, y, z], r) => some ((x, y, z), r)
 | _ => none
def rdUse : Rd UseD := fun ls => match rdLine kwUse ls with
 | some (d :: i :: ns, r) => some (⟨d, i, ns⟩, r)
 | _ => none
def rdEdge : Rd EdgeD := fun ls => match rdN kwEdge 2 ls with
 | some ([a, b], r) => if cntOk a && cntOk b then
   (match rep rdNormal a.toNat r with
   | some (tb, r2) => match rep rdUse b.toNat r2 with
    | some (us, r3) => some (⟨tb, us⟩, r3)
    | none => none
   | none => none)
  else none
 | _ => none
def rdPath : Rd PathD := fun ls => match rdN kwPath 1 ls with
 | some ([n], r) => if cntOk n then
   (match rep (rdLine kwPoint) n.toNat r with
   | some (ps, r2) => match rep rdEdge (n.toNat - 1) r2 with
    | some (es, r3) => some (⟨ps, es⟩, r3)
    | none => none
   | none => none)
  else none
 | _ => none
def rdEnd (ls : List (List UInt8)) (t : List UInt8) : Bool := match rdN kwEnd 0 ls with
 | some (_, []) => t.isEmpty
 | _ => false
/-- What ParsePath answers where the text's kind is right: the path, or nothing. -/
def parseP (s : List UInt8) : Option PathD := match rdPath (linesT s).1 with
 | some (p, r) => if rightP p = true ∧ rdEnd r (linesT s).2 = true then some p else none
 | none => none
theorem rep_len {α : Type} {f : Rd α} : ∀ {n : Nat} {ls r : List (List UInt8)} {xs : List α}, rep f n ls = some (xs, r) → xs.length = n
 | 0, ls, r, xs, h => by simp only [rep] at h; injection h with h; injection h with h _; rw [← h]; rfl
 | n + 1, ls, r, xs, h => by
  rw [rep] at h
  split at h
  ·split at h
   ·rename_i h2
    injection h with h
    injection h with h _
    rw [← h, List.length_cons, rep_len h2]
   ·cases h
  ·cases h
/-- A path that is read has as many points as it says. -/
theorem rdPath_len {ls r : List (List UInt8)} {p : PathD} (h : rdPath ls = some (p, r)) : ∃ (n : Int) (q : List (List UInt8)), rdN kwPath 1 ls = some ([n], q) ∧ cntOk n = true ∧ p.pts.length = n.toNat ∧ p.edges.length = n.toNat - 1 := by
 unfold rdPath at h
 split at h
 ·rename_i n q h1
  split at h
  ·rename_i hc
   split at h
   ·rename_i h2
    split at h
    ·rename_i h3
     injection h with h
     injection h with h _
     subst h
     exact ⟨n, q, h1, hc, rep_len h2, rep_len h3⟩
    ·cases h
   ·cases h
  ·cases h
 ·cases h
end Go.Proofs.Fm
end

section
/-
  The plain law of documents: reading what was written returns it; writing what was read returns the text.
-/
namespace Go.Proofs.Fm
open Go.Lib
/-- Lines, each with its newline. -/
def nlF (ls : List (List UInt8)) : List UInt8 := (ls.map fun l => l ++ [10]).flatten
theorem nlF_cons (l : List UInt8) (ls : List (List UInt8)) : nlF (l :: ls) = l ++ [10] ++ nlF ls := by simp [nlF]
theorem join_of {c : UInt8} : ∀ {l w : List UInt8} {ws : List (List UInt8)}, splitC c l = w :: ws → l = w ++ (ws.map fun x => c :: x).flatten
 | [], w, ws, h => by
  simp only [splitC] at h
  injection h with h1 h2
  subst h1 h2
  rfl
 | b :: l, w, ws, h => by
  rw [splitC] at h
  split at h
  ·rename_i e
   injection h with h1 h2
   subst h1
   obtain ⟨x, t, e2⟩ := List.exists_cons_of_ne_nil (splitC_ne c l)
   have := join_of e2
   rw [← h2, e2, e]
   simp only [List.nil_append, List.map_cons, List.flatten_cons, List.cons_append]
   rw [← this]
  ·split at h
   ·rename_i e2
    exact absurd e2 (splitC_ne c l)
   ·rename_i x t e2
    injection h with h1 h2
    subst h1 h2
    rw [join_of e2]
    rfl
theorem lines_un (s : List UInt8) : s = nlF (linesT s).1 ++ (linesT s).2 := by
 induction hn : s.length using Nat.strongRecOn generalizing s with
 | _ n ih =>
  by_cases hc : (10 : UInt8) ∈ s
  ·obtain ⟨a, b, rfl, ha⟩ := first_of hc
   rw [linesT_at ha, nlF_cons]
   simp only [List.length_append, List.length_cons] at hn
   have h := ih b.length (by omega) b rfl
   simp only
   rw [List.append_assoc, ← h]
   simp
  ·rw [linesT_no hc]
   rfl
theorem mapM_cons {α β : Type} {f : α → Option β} {a : α} {l : List α} {r : List β} (h : (a :: l).mapM f = some r) : ∃ b t, f a = some b ∧ l.mapM f = some t ∧ r = b :: t := by
 rw [List.mapM_cons] at h
 cases h1 : f a with
 | none => rw [h1] at h; cases h
 | some b =>
  rw [h1] at h
  cases h2 : l.mapM f with
  | none => rw [h2] at h; cases h
  | some t =>
   rw [h2] at h
   injection h with h
   exact ⟨b, t, rfl, rfl, h.symm⟩
theorem words_un : ∀ {ws : List (List UInt8)} {ns : List Int}, ws.mapM spelledL = some ns → (ws.map fun x => 32 :: x).flatten = (ns.map numT).flatten
 | [], ns, h => by
  simp at h
  subst h
  rfl
 | w :: ws, ns, h => by
  obtain ⟨n, t, h1, h2, rfl⟩ := mapM_cons h
  have := words_un h2
  simp only [List.map_cons, List.flatten_cons]
  rw [this, ← (spelled_some h1).1]
  rfl
theorem nums_un {kw l : List UInt8} {ns : List Int} (h : numsOf kw l = some ns) : l ++ [10] = lineT kw ns := by
 unfold numsOf at h
 split at h
 ·cases h
 ·rename_i w ws e
  split at h
  ·rename_i e2
   rw [join_of e, words_un h, e2]
   rfl
  ·cases h
theorem rdLine_un {kw : List UInt8} {ls r : List (List UInt8)} {ns : List Int} (h : rdLine kw ls = some (ns, r)) : nlF ls = lineT kw ns ++ nlF r := by
 unfold rdLine at h
 split at h
 ·cases h
 ·split at h
  ·rename_i e
   injection h with h
   injection h with h1 h2
   subst h1 h2
   rw [nlF_cons, nums_un e]
  ·cases h
theorem rdN_un {kw : List UInt8} {n : Nat} {ls r : List (List UInt8)} {ns : List Int} (h : rdN kw n ls = some (ns, r)) : nlF ls = lineT kw ns ++ nlF r ∧ ns.length = n := by
 unfold rdN at h
 split at h
 ·rename_i e
  split at h
  ·rename_i e2
   injection h with h
   injection h with h1 h2
   subst h1 h2
   exact ⟨rdLine_un e, e2⟩
  ·cases h
 ·cases h
theorem rep_un {α : Type} {f : Rd α} {T : α → List UInt8} (hf : ∀ ls r x, f ls = some (x, r) → nlF ls = T x ++ nlF r) : ∀ {n : Nat} {ls r : List (List UInt8)} {xs : List α}, rep f n ls = some (xs, r) → nlF ls = (xs.map T).flatten ++ nlF r
 | 0, ls, r, xs, h => by simp only [rep] at h; injection h with h; injection h with h1 h2; subst h1 h2; rfl
 | n + 1, ls, r, xs, h => by
  rw [rep] at h
  split at h
  ·rename_i e
   split at h
   ·rename_i e2
    injection h with h
    injection h with h1 h2
    subst h1 h2
    rw [hf _ _ _ e, rep_un hf e2]
    simp
   ·cases h
  ·cases h
theorem rdNormal_un (ls r : List (List UInt8)) (v : Int × Int × Int) (h : rdNormal ls = some (v, r)) : nlF ls = lineT kwNormal (vecL v) ++ nlF r := by
 unfold rdNormal at h
 split at h
 ·rename_i x y z r' e
  injection h with h
  injection h with h1 h2
  subst h1 h2
  exact (rdN_un e).1
 ·cases h
theorem rdUse_un (ls r : List (List UInt8)) (u : UseD) (h : rdUse ls = some (u, r)) : nlF ls = useT u ++ nlF r := by
 unfold rdUse at h
 split at h
 ·rename_i d i ns r' e
  injection h with h
  injection h with h1 h2
  subst h1 h2
  exact rdLine_un e
 ·cases h
theorem cnt_nat {n : Int} (h : cntOk n = true) : ((n.toNat : Nat) : Int) = n := by
 unfold cntOk at h
 rw [decide_eq_true_eq] at h
 omega
theorem rdEdge_un (ls r : List (List UInt8)) (e : EdgeD) (h : rdEdge ls = some (e, r)) : nlF ls = edgeT e ++ nlF r := by
 unfold rdEdge at h
 split at h
 ·rename_i a b q e1
  split at h
  ·rename_i hc
   rw [Bool.and_eq_true] at hc
   split at h
   ·rename_i tb r2 e2
    split at h
    ·rename_i us r3 e3
     injection h with h
     injection h with h1 h2
     subst h1 h2
     rw [(rdN_un e1).1, rep_un rdNormal_un e2, rep_un rdUse_un e3]
     unfold edgeT
     simp only
     rw [rep_len e2, rep_len e3, cnt_nat hc.1, cnt_nat hc.2]
     simp
    ·cases h
   ·cases h
  ·cases h
 ·cases h
theorem rdPath_un {ls r : List (List UInt8)} {p : PathD} (h : rdPath ls = some (p, r)) : nlF ls = pathT p ++ nlF r := by
 unfold rdPath at h
 split at h
 ·rename_i n q e1
  split at h
  ·rename_i hc
   split at h
   ·rename_i ps r2 e2
    split at h
    ·rename_i es r3 e3
     injection h with h
     injection h with h1 h2
     subst h1 h2
     rw [(rdN_un e1).1, rep_un (fun _ _ _ h => rdLine_un h) e2, rep_un rdEdge_un e3]
     unfold pathT
     simp only
     rw [rep_len e2, cnt_nat hc]
     simp
    ·cases h
   ·cases h
  ·cases h
 ·cases h
/-- Writing what was read returns the text. -/
theorem parse_doc {s : List UInt8} {p : PathD} (h : parseP s = some p) : docT p = s := by
 unfold parseP at h
 split at h
 ·rename_i p' r e
  split at h
  ·rename_i hc
   injection h with h
   subst h
   have h1 := rdPath_un e
   have h2 := lines_un s
   have h3 := hc.2
   unfold rdEnd at h3
   split at h3
   ·rename_i ns e4
    have h4 := (rdN_un e4)
    obtain rfl : ns = [] := List.length_eq_zero_iff.1 h4.2
    rw [List.isEmpty_iff] at h3
    rw [h3, h1, h4.1] at h2
    rw [h2]
    unfold docT
    simp [nlF]
   ·cases h3
  ·cases h
 ·cases h
/-! Reading what was written. -/
def inR64 (n : Int) : Prop := -9223372036854775808 ≤ n ∧ n ≤ 9223372036854775807
theorem dig_no {u : Nat} {c : UInt8} (h : c ∈ decDigits u) : c ≠ 32 ∧ c ≠ 10 ∧ c ≠ 45 := by
 have := (dec_form u).1 c h
 unfold digB at this
 rw [decide_eq_true_eq] at this
 refine ⟨?_, ?_, ?_⟩ <;> (rintro rfl; exact absurd this (by decide))
theorem itoa_no {n : Int} {c : UInt8} (h : c ∈ itoa n) : c ≠ 32 ∧ c ≠ 10 := by
 unfold itoa at h
 split at h
 ·rw [List.mem_cons] at h
  rcases h with rfl | h
  ·decide
  ·exact ⟨(dig_no h).1, (dig_no h).2.1⟩
 ·exact ⟨(dig_no h).1, (dig_no h).2.1⟩
theorem split_words {kw : List UInt8} (hk : (32 : UInt8) ∉ kw) : ∀ (ns : List Int), splitC 32 (kw ++ (ns.map numT).flatten) = kw :: ns.map itoa := by
 intro ns
 induction ns generalizing kw with
 | nil => simp [splitC_no hk]
 | cons n ns ih =>
  simp only [List.map_cons, List.flatten_cons]
  have e : kw ++ (numT n ++ (ns.map numT).flatten) = kw ++ 32 :: (itoa n ++ (ns.map numT).flatten) := rfl
  rw [e, splitC_at hk, ih (fun h => (itoa_no h).1 rfl)]
theorem mapM_itoa : ∀ {ns : List Int}, (∀ n ∈ ns, inR64 n) → (ns.map itoa).mapM spelledL = some ns
 | [], _ => rfl
 | n :: ns, h => by
  rw [List.map_cons, List.mapM_cons, spelled_itoa n (h n (by simp)).1 (h n (by simp)).2, mapM_itoa (fun x hx => h x (by simp [hx]))]
  rfl
theorem numsOf_line {kw : List UInt8} (hk : (32 : UInt8) ∉ kw) {ns : List Int} (h : ∀ n ∈ ns, inR64 n) : numsOf kw (kw ++ (ns.map numT).flatten) = some ns := by
 unfold numsOf
 rw [split_words hk]
 simp only [if_true]
 exact mapM_itoa h
theorem body_no {kw : List UInt8} (hk : (10 : UInt8) ∉ kw) (ns : List Int) : (10 : UInt8) ∉ kw ++ (ns.map numT).flatten := by
 intro h
 rw [List.mem_append] at h
 rcases h with h | h
 ·exact hk h
 ·rw [List.mem_flatten] at h
  obtain ⟨l, hl, hc⟩ := h
  obtain ⟨n, -, rfl⟩ := List.mem_map.1 hl
  unfold numT at hc
  rw [List.mem_cons] at hc
  rcases hc with hc | hc
  ·exact absurd hc (by decide)
  ·exact (itoa_no hc).2 rfl
theorem rdLine_of {kw : List UInt8} (hk : (32 : UInt8) ∉ kw) {ns : List Int} (h : ∀ n ∈ ns, inR64 n) (r : List (List UInt8)) : rdLine kw ((kw ++ (ns.map numT).flatten) :: r) = some (ns, r) := by
 rw [rdLine, numsOf_line hk h]
theorem rdN_of {kw : List UInt8} (hk : (32 : UInt8) ∉ kw) {ns : List Int} {n : Nat} (hl : ns.length = n) (h : ∀ n ∈ ns, inR64 n) (r : List (List UInt8)) : rdN kw n ((kw ++ (ns.map numT).flatten) :: r) = some (ns, r) := by
 unfold rdN
 rw [rdLine_of hk h]
 simp [hl]
end Go.Proofs.Fm
end

section
/-
  The plain law of documents: reading a path's own text returns the path.
-/
namespace Go.Proofs.Fm
open Go.Lib
def lnB (kw : List UInt8) (ns : List Int) : List UInt8 := kw ++ (ns.map numT).flatten
def useLn (u : UseD) : List UInt8 := lnB kwUse (u.depth :: u.index :: u.nums)
def edgeLn (e : EdgeD) : List (List UInt8) := lnB kwEdge [(e.table.length : Nat), (e.uses.length : Nat)] :: ((e.table.map fun v => lnB kwNormal (vecL v)) ++ e.uses.map useLn)
def pathLn (p : PathD) : List (List UInt8) := lnB kwPath [(p.pts.length : Nat)] :: (p.pts.map (lnB kwPoint) ++ (p.edges.map edgeLn).flatten)
theorem nlF_app (a b : List (List UInt8)) : nlF (a ++ b) = nlF a ++ nlF b := by simp [nlF]
theorem nlF_map {α : Type} {f : α → List UInt8} {T : α → List UInt8} (h : ∀ x, f x ++ [10] = T x) (l : List α) : nlF (l.map f) = (l.map T).flatten := by
 induction l with
 | nil => rfl
 | cons x l ih => rw [List.map_cons, nlF_cons, ih, h]; rfl
theorem nlF_flat {α : Type} {f : α → List (List UInt8)} {T : α → List UInt8} (h : ∀ x, nlF (f x) = T x) (l : List α) : nlF (l.map f).flatten = (l.map T).flatten := by
 induction l with
 | nil => rfl
 | cons x l ih => rw [List.map_cons, List.flatten_cons, nlF_app, ih, h]; rfl
theorem edgeLn_nl (e : EdgeD) : nlF (edgeLn e) = edgeT e := by
 unfold edgeLn
 rw [nlF_cons, nlF_app, nlF_map (f := fun v => lnB kwNormal (vecL v)) (T := fun v => lineT kwNormal (vecL v)) (fun _ => rfl), nlF_map (f := useLn) (T := useT) (fun _ => rfl)]
 unfold edgeT lnB lineT
 simp only [List.append_assoc]
theorem pathLn_nl (p : PathD) : nlF (pathLn p) = pathT p := by
 unfold pathLn
 rw [nlF_cons, nlF_app, nlF_map (f := lnB kwPoint) (T := lineT kwPoint) (fun _ => rfl), nlF_flat edgeLn_nl]
 unfold pathT lnB lineT
 simp only [List.append_assoc]
/-- The numbers of a path are int64. -/
structure PathOk (p : PathD) : Prop where
 pts : ∀ q ∈ p.pts, ∀ n ∈ q, inR64 n
 np : p.pts.length ≤ 1048576
 tb : ∀ e ∈ p.edges, e.table.length ≤ 1048576 ∧ e.uses.length ≤ 1048576 ∧ (∀ v ∈ e.table, ∀ n ∈ vecL v, inR64 n) ∧ ∀ u ∈ e.uses, ∀ n ∈ u.depth :: u.index :: u.nums, inR64 n
theorem rep_of {α : Type} {f : Rd α} {T : α → List (List UInt8)} : ∀ {xs : List α} (r : List (List UInt8)), (∀ x ∈ xs, ∀ r, f (T x ++ r) = some (x, r)) → rep f xs.length ((xs.map T).flatten ++ r) = some (xs, r)
 | [], r, _ => rfl
 | x :: xs, r, h => by
  rw [List.length_cons, rep, List.map_cons, List.flatten_cons, List.append_assoc, h x (by simp)]
  simp only
  rw [rep_of r fun y hy => h y (by simp [hy])]
theorem rep_one {α : Type} {f : Rd α} {T : α → List UInt8} {xs : List α} (r : List (List UInt8)) (h : ∀ x ∈ xs, ∀ r, f (T x :: r) = some (x, r)) : rep f xs.length (xs.map T ++ r) = some (xs, r) := by
 have e : xs.map T = (xs.map fun x => [T x]).flatten := by
  clear h
  induction xs with
  | nil => rfl
  | cons x xs ih => rw [List.map_cons, List.map_cons, List.flatten_cons, ← ih]; rfl
 rw [e]
 exact rep_of r h
theorem sz_in {n : Nat} (h : n ≤ 1048576) : inR64 (n : Int) := by unfold inR64; omega
theorem sz_cnt {n : Nat} (h : n ≤ 1048576) : cntOk (n : Int) = true := by unfold cntOk; exact decide_eq_true (by omega)
theorem rdUse_of (u : UseD) (h : ∀ n ∈ u.depth :: u.index :: u.nums, inR64 n) (r : List (List UInt8)) : rdUse (useLn u :: r) = some (u, r) := by
 unfold rdUse useLn lnB
 rw [rdLine_of (by decide) h]
theorem rdNormal_of (v : Int × Int × Int) (h : ∀ n ∈ vecL v, inR64 n) (r : List (List UInt8)) : rdNormal (lnB kwNormal (vecL v) :: r) = some (v, r) := by
 unfold rdNormal lnB
 rw [rdN_of (n := 3) (by decide) rfl h]
 rfl
theorem rdEdge_of (e : EdgeD) (h : e.table.length ≤ 1048576 ∧ e.uses.length ≤ 1048576 ∧ (∀ v ∈ e.table, ∀ n ∈ vecL v, inR64 n) ∧ ∀ u ∈ e.uses, ∀ n ∈ u.depth :: u.index :: u.nums, inR64 n) (r : List (List UInt8)) : rdEdge (edgeLn e ++ r) = some (e, r) := by
 obtain ⟨h1, h2, h3, h4⟩ := h
 unfold rdEdge edgeLn
 rw [List.cons_append, List.append_assoc]
 have hr := rdN_of (kw := kwEdge) (n := 2) (by decide) (ns := [(e.table.length : Nat), (e.uses.length : Nat)]) rfl (by
  intro n hn
  simp only [List.mem_cons, List.not_mem_nil, or_false] at hn
  rcases hn with rfl | rfl
  ·exact sz_in h1
  ·exact sz_in h2) ((e.table.map fun v => lnB kwNormal (vecL v)) ++ (e.uses.map useLn ++ r))
 unfold lnB at hr ⊢
 rw [hr]
 simp only
 rw [sz_cnt h1, sz_cnt h2]
 simp only [Bool.and_self, if_true, Int.toNat_natCast]
 have ha := rep_one (f := rdNormal) (T := fun v => lnB kwNormal (vecL v)) (xs := e.table) (e.uses.map useLn ++ r) (fun v hv r => rdNormal_of v (h3 v hv) r)
 unfold lnB at ha
 rw [ha]
 simp only
 rw [rep_one (f := rdUse) (T := useLn) r (fun u hu r => rdUse_of u (h4 u hu) r)]
theorem rdPath_of (p : PathD) (hp : PathOk p) (hr : p.edges.length = p.pts.length - 1) (r : List (List UInt8)) : rdPath (pathLn p ++ r) = some (p, r) := by
 unfold rdPath pathLn
 rw [List.cons_append, List.append_assoc]
 have h1 := rdN_of (kw := kwPath) (n := 1) (by decide) (ns := [(p.pts.length : Nat)]) rfl (by
  intro n hn
  rw [List.mem_singleton] at hn
  subst hn
  exact sz_in hp.np) (p.pts.map (lnB kwPoint) ++ ((p.edges.map edgeLn).flatten ++ r))
 unfold lnB at h1 ⊢
 rw [h1]
 simp only
 rw [sz_cnt hp.np]
 simp only [if_true, Int.toNat_natCast]
 have h2 := rep_one (f := rdLine kwPoint) (T := lnB kwPoint) (xs := p.pts) ((p.edges.map edgeLn).flatten ++ r) (fun q hq r => rdLine_of (by decide) (hp.pts q hq) r)
 unfold lnB at h2
 rw [h2]
 simp only
 rw [← hr, rep_of r (fun e he r => rdEdge_of e (hp.tb e he) r)]
theorem lnB_no {kw : List UInt8} (hk : (10 : UInt8) ∉ kw) (ns : List Int) : (10 : UInt8) ∉ lnB kw ns := body_no hk ns
theorem lines_of : ∀ {ls : List (List UInt8)}, (∀ l ∈ ls, (10 : UInt8) ∉ l) → linesT (nlF ls) = (ls, [])
 | [], _ => rfl
 | l :: ls, h => by
  rw [nlF_cons, List.append_assoc, List.singleton_append, linesT_at (h l (by simp)), lines_of (fun x hx => h x (by simp [hx]))]
theorem pathLn_no (p : PathD) : ∀ l ∈ pathLn p, (10 : UInt8) ∉ l := by
 intro l hl
 unfold pathLn at hl
 rw [List.mem_cons, List.mem_append, List.mem_map, List.mem_flatten] at hl
 rcases hl with rfl | ⟨q, _, rfl⟩ | ⟨m, hm, hl⟩
 ·exact lnB_no (by decide) _
 ·exact lnB_no (by decide) _
 ·obtain ⟨e, _, rfl⟩ := List.mem_map.1 hm
  unfold edgeLn at hl
  rw [List.mem_cons, List.mem_append, List.mem_map, List.mem_map] at hl
  rcases hl with rfl | ⟨v, _, rfl⟩ | ⟨u, _, rfl⟩
  ·exact lnB_no (by decide) _
  ·exact lnB_no (by decide) _
  ·exact lnB_no (by decide) _
/-- Reading a path's own text returns the path. -/
theorem doc_parse {p : PathD} (hp : PathOk p) (hr : rightP p = true) : parseP (docT p) = some p := by
 have e : docT p = nlF (pathLn p ++ [kwEnd]) := by
  rw [nlF_app, pathLn_nl]
  rfl
 have hln := lines_of (ls := pathLn p ++ [kwEnd]) (by
  intro l hl
  rw [List.mem_append, List.mem_singleton] at hl
  rcases hl with hl | rfl
  ·exact pathLn_no p l hl
  ·decide)
 have h1 : p.edges.length = p.pts.length - 1 := by
  unfold rightP at hr
  rw [Bool.and_eq_true, decide_eq_true_eq] at hr
  exact hr.1.2.2.1
 unfold parseP
 rw [e, hln]
 simp only
 rw [rdPath_of p hp h1]
 simp only
 have hend : rdEnd [kwEnd] [] = true := by decide
 rw [if_pos ⟨hr, hend⟩]
end Go.Proofs.Fm
end

section
/-
  Trajectories as data: their text and its reading.
-/
namespace Go.Proofs.Fm
open Go.Lib
structure ProfD where
 levels : List Int
 steps : List Int
structure TrajD where
 grid : Int
 grav : Int × Int × Int
 path : PathD
 profs : List ProfD
def kwTraj : List UInt8 := [116, 114, 97, 106, 101, 99, 116, 111, 114, 121]
def kwProfile : List UInt8 := [112, 114, 111, 102, 105, 108, 101]
def kwLevels : List UInt8 := [108, 101, 118, 101, 108, 115]
def kwSteps : List UInt8 := [115, 116, 101, 112, 115]
def profT (x : ProfD) : List UInt8 := lineT kwProfile [(x.levels.length : Nat), (x.steps.length : Nat)] ++ lineT kwLevels x.levels ++ lineT kwSteps x.steps
def trajT (t : TrajD) : List UInt8 := lineT kwTraj (t.grid :: vecL t.grav) ++ pathT t.path ++ (t.profs.map profT).flatten
def docTr (t : TrajD) : List UInt8 := trajT t ++ lineT kwEnd []
def rightT (t : TrajD) : Bool := rightP t.path && decide (t.profs.length = t.path.edges.length)
def formatTr (t : TrajD) : Option (List UInt8) := if rightT t = true ∧ (docTr t).length ≤ 1048576 then some (docTr t) else none
def rdProf : Rd ProfD := fun ls => match rdN kwProfile 2 ls with
 | some ([a, b], r) => if cntOk a && cntOk b then
   (match rdN kwLevels a.toNat r with
   | some (lv, r2) => match rdN kwSteps b.toNat r2 with
    | some (st, r3) => some (⟨lv, st⟩, r3)
    | none => none
   | none => none)
  else none
 | _ => none
def rdTraj : Rd TrajD := fun ls => match rdN kwTraj 4 ls with
 | some ([g, x, y, z], r) => (match rdPath r with
   | some (p, r2) => match rep rdProf p.edges.length r2 with
    | some (fs, r3) => some (⟨g, (x, y, z), p, fs⟩, r3)
    | none => none
   | none => none)
 | _ => none
def parseTr (s : List UInt8) : Option TrajD := match rdTraj (linesT s).1 with
 | some (t, r) => if rightP t.path = true ∧ rdEnd r (linesT s).2 = true then some t else none
 | none => none
theorem rdProf_un (ls r : List (List UInt8)) (x : ProfD) (h : rdProf ls = some (x, r)) : nlF ls = profT x ++ nlF r := by
 unfold rdProf at h
 split at h
 ·rename_i a b q e1
  split at h
  ·rename_i hc
   rw [Bool.and_eq_true] at hc
   split at h
   ·rename_i lv r2 e2
    split at h
    ·rename_i st r3 e3
     injection h with h
     injection h with h1 h2
     subst h1 h2
     have l2 := (rdN_un e2).2
     have l3 := (rdN_un e3).2
     rw [(rdN_un e1).1, (rdN_un e2).1, (rdN_un e3).1]
     unfold profT
     simp only
     rw [l2, l3, cnt_nat hc.1, cnt_nat hc.2]
     simp
    ·cases h
   ·cases h
  ·cases h
 ·cases h
theorem rdTraj_un {ls r : List (List UInt8)} {t : TrajD} (h : rdTraj ls = some (t, r)) : nlF ls = trajT t ++ nlF r ∧ t.profs.length = t.path.edges.length := by
 unfold rdTraj at h
 split at h
 ·rename_i g x y z q e1
  split at h
  ·rename_i p r2 e2
   split at h
   ·rename_i fs r3 e3
    injection h with h
    injection h with h1 h2
    subst h1 h2
    refine ⟨?_, rep_len e3⟩
    rw [(rdN_un e1).1, rdPath_un e2, rep_un rdProf_un e3]
    unfold trajT
    simp [vecL]
   ·cases h
  ·cases h
 ·cases h
theorem end_un {r : List (List UInt8)} {t : List UInt8} (h : rdEnd r t = true) : nlF r = lineT kwEnd [] ∧ t = [] := by
 unfold rdEnd at h
 split at h
 ·rename_i ns e4
  have h4 := rdN_un e4
  obtain rfl : ns = [] := List.length_eq_zero_iff.1 h4.2
  rw [List.isEmpty_iff] at h
  refine ⟨?_, h⟩
  rw [h4.1]
  simp [nlF]
 ·cases h
/-- Writing what was read returns the text. -/
theorem parse_docTr {s : List UInt8} {t : TrajD} (h : parseTr s = some t) : docTr t = s ∧ rightT t = true := by
 unfold parseTr at h
 split at h
 ·rename_i t' r e
  split at h
  ·rename_i hc
   injection h with h
   subst h
   have h1 := rdTraj_un e
   have h2 := lines_un s
   have h3 := end_un hc.2
   rw [h3.2, h1.1, h3.1] at h2
   refine ⟨?_, ?_⟩
   ·rw [h2]
    unfold docTr
    simp
   ·unfold rightT
    rw [hc.1, h1.2]
    simp
  ·cases h
 ·cases h
structure TrajOk (t : TrajD) : Prop where
 path : PathOk t.path
 head : ∀ n ∈ t.grid :: vecL t.grav, inR64 n
 prof : ∀ x ∈ t.profs, x.levels.length ≤ 1048576 ∧ x.steps.length ≤ 1048576 ∧ (∀ n ∈ x.levels, inR64 n) ∧ ∀ n ∈ x.steps, inR64 n
end Go.Proofs.Fm
end

section
/-
  What the reference's reader needs: a text that ends with a newline, and one that does not.
-/
namespace Go.Proofs.Fm
open Go.Lib
/-- Reading takes lines from the front. -/
def Takes {α : Type} (f : Rd α) : Prop := ∀ ls x r, f ls = some (x, r) → ∃ k, r = ls.drop k ∧ k ≤ ls.length
theorem Takes.line (kw : List UInt8) : Takes (rdLine kw) := by
 intro ls x r h
 unfold rdLine at h
 split at h
 ·cases h
 ·split at h
  ·injection h with h
   injection h with h1 h2
   subst h2
   exact ⟨1, rfl, by simp⟩
  ·cases h
end Go.Proofs.Fm
end

