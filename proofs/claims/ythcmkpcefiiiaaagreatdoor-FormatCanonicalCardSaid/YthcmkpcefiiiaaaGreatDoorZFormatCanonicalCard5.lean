/-
  Texts put together: Ph.
-/
import Derived.Test.YthcmkpcefiiiaaaGreatDoorZFormatCanonicalCard2
set_option linter.unusedVariables false
namespace Go.Proofs.Fm
open Go.Lib
theorem mapM_snoc {A B : Type} {f : A → Option B} {l : List A} {a : A} {r : List B} {b : B} (h : l.mapM f = some r) (hb : f a = some b) : (l ++ [a]).mapM f = some (r ++ [b]) := by
 induction l generalizing r with
 | nil =>
  simp at h
  subst h
  rw [List.nil_append, List.mapM_cons, hb]
  rfl
 | cons x l ih =>
  obtain ⟨y, t, h1, h2, rfl⟩ := mapM_cons h
  rw [List.cons_append, List.mapM_cons, h1, ih h2]
  rfl
theorem mapM_none {A B : Type} {f : A → Option B} {l : List A} {a : A} (hm : a ∈ l) (hb : f a = none) : l.mapM f = none := by
 induction l with
 | nil => cases hm
 | cons x l ih =>
  rw [List.mapM_cons]
  rw [List.mem_cons] at hm
  rcases hm with rfl | hm
  ·rw [hb]; rfl
  ·rw [ih hm]
   cases f x <;> rfl
theorem mapM_len {A B : Type} {f : A → Option B} : ∀ {l : List A} {r : List B}, l.mapM f = some r → r.length = l.length
 | [], r, h => by simp at h; subst h; rfl
 | a :: l, r, h => by
  obtain ⟨b, t, _, h2, rfl⟩ := mapM_cons h
  rw [List.length_cons, List.length_cons, mapM_len h2]
theorem mapM_take {A B : Type} {f : A → Option B} {l : List A} {k : Nat} {a : A} {r : List B} {b : B} (ha : l[k]? = some a) (h : (l.take k).mapM f = some r) (hb : f a = some b) : (l.take (k + 1)).mapM f = some (r ++ [b]) := by
 rw [List.take_add_one, ha]
 exact mapM_snoc h hb
theorem spelled_in {s : List UInt8} {n : Int} (h : spelledL s = some n) : inR64 n := by
 unfold spelledL at h
 unfold inR64
 split at h
 ·split at h
  ·injection h with h; omega
  ·cases h
 ·split at h
  ·injection h with h; omega
  ·cases h
theorem mapM_in {l : List (List UInt8)} {r : List Int} (h : l.mapM spelledL = some r) : ∀ n ∈ r, inR64 n := by
 induction l generalizing r with
 | nil => simp at h; subst h; intro n hn; cases hn
 | cons a l ih =>
  obtain ⟨b, t, h1, h2, rfl⟩ := mapM_cons h
  intro n hn
  rw [List.mem_cons] at hn
  rcases hn with rfl | hn
  ·exact spelled_in h1
  ·exact ih h2 n hn
theorem rdLine_in {kw : List UInt8} {ls r : List (List UInt8)} {ns : List Int} (h : rdLine kw ls = some (ns, r)) : ∀ n ∈ ns, inR64 n := by
 unfold rdLine at h
 split at h
 ·cases h
 ·split at h
  ·rename_i e
   injection h with h
   injection h with h1 h2
   subst h1
   unfold numsOf at e
   split at e
   ·cases e
   ·split at e
    ·exact mapM_in e
    ·cases e
  ·cases h
theorem splitC_len (c : UInt8) : ∀ l : List UInt8, (splitC c l).length ≤ l.length + 1
 | [] => Nat.le_refl _
 | b :: l => by
  have := splitC_len c l
  unfold splitC
  split
  ·simp; omega
  ·split
   ·simp
   ·rename_i e
    rw [e] at this
    simp at this ⊢
    omega
theorem splitC_each (c : UInt8) : ∀ (l x : List UInt8), x ∈ splitC c l → x.length ≤ l.length
 | [], x, h => by simp [splitC] at h; subst h; exact Nat.le_refl _
 | b :: l, x, h => by
  unfold splitC at h
  split at h
  ·rw [List.mem_cons] at h
   rcases h with rfl | h
   ·simp
   ·have := splitC_each c l x h
    simp; omega
  ·split at h
   ·rw [List.mem_singleton] at h; subst h; simp
   ·rename_i h0 t e
    rw [List.mem_cons] at h
    have h1 : h0.length ≤ l.length := splitC_each c l h0 (by rw [e]; simp)
    rcases h with rfl | h
    ·simp; omega
    ·have := splitC_each c l x (by rw [e]; simp [h])
     simp; omega
theorem lines_nil {s : List UInt8} : linesT s = ([], []) ↔ s = [] := by
 constructor
 ·intro h
  have := lines_un s
  rw [h] at this
  exact this
 ·rintro rfl
  rfl
/-- k things read so far. -/
def RepAt {A : Type} (f : Rd A) (n : Nat) (ls : List (List UInt8)) (k : Nat) (xs : List A) (q : List (List UInt8)) : Prop := k ≤ n ∧ xs.length = k ∧ rep f n ls = (rep f (n - k) q).map fun p => (xs ++ p.1, p.2)
theorem RepAt.start {A : Type} (f : Rd A) (n : Nat) (ls : List (List UInt8)) : RepAt f n ls 0 [] ls := ⟨Nat.zero_le _, rfl, by
 rw [Nat.sub_zero]
 cases rep f n ls <;> rfl⟩
theorem RepAt.step {A : Type} {f : Rd A} {n k : Nat} {ls q r : List (List UInt8)} {xs : List A} {x : A} (h : RepAt f n ls k xs q) (hk : k < n) (hx : f q = some (x, r)) : RepAt f n ls (k + 1) (xs ++ [x]) r := by
 obtain ⟨_, h2, h3⟩ := h
 refine ⟨hk, by simp [h2], ?_⟩
 rw [h3, show n - k = n - (k + 1) + 1 by omega, rep, hx]
 simp only
 cases rep f (n - (k + 1)) r with
 | none => rfl
 | some p => simp
theorem RepAt.none {A : Type} {f : Rd A} {n k : Nat} {ls q : List (List UInt8)} {xs : List A} (h : RepAt f n ls k xs q) (hk : k < n) (hx : f q = none) : rep f n ls = none := by
 obtain ⟨_, h2, h3⟩ := h
 rw [h3, show n - k = n - (k + 1) + 1 by omega, rep, hx]
 rfl
theorem RepAt.done {A : Type} {f : Rd A} {n : Nat} {ls q : List (List UInt8)} {xs : List A} (h : RepAt f n ls n xs q) : rep f n ls = some (xs, q) := by
 obtain ⟨_, h2, h3⟩ := h
 rw [h3, Nat.sub_self, rep]
 simp
theorem rdN_three {kw : List UInt8} {ls r : List (List UInt8)} {ns : List Int} (h : rdN kw 3 ls = some (ns, r)) : ∃ x y z, ns = [x, y, z] := by
 have hl := (rdN_un h).2
 match ns, hl with
 | [x, y, z], _ => exact ⟨x, y, z, rfl⟩
theorem rdN_two {kw : List UInt8} {ls r : List (List UInt8)} {ns : List Int} (h : rdN kw 2 ls = some (ns, r)) : ∃ x y, ns = [x, y] := by
 have hl := (rdN_un h).2
 match ns, hl with
 | [x, y], _ => exact ⟨x, y, rfl⟩
theorem rdN_one {kw : List UInt8} {ls r : List (List UInt8)} {ns : List Int} (h : rdN kw 1 ls = some (ns, r)) : ∃ x, ns = [x] := by
 have hl := (rdN_un h).2
 match ns, hl with
 | [x], _ => exact ⟨x, rfl⟩
theorem rdN_in {kw : List UInt8} {n : Nat} {ls r : List (List UInt8)} {ns : List Int} (h : rdN kw n ls = some (ns, r)) : ∀ n ∈ ns, inR64 n := by
 unfold rdN at h
 split at h
 ·rename_i e
  split at h
  ·injection h with h
   injection h with h1 h2
   subst h1 h2
   exact rdLine_in e
  ·cases h
 ·cases h
theorem rdNormal_some {ls r : List (List UInt8)} {x y z : Int} (h : rdN kwNormal 3 ls = some ([x, y, z], r)) : rdNormal ls = some ((x, y, z), r) := by
 unfold rdNormal; rw [h]
theorem rdNormal_none {ls : List (List UInt8)} (h : rdN kwNormal 3 ls = none) : rdNormal ls = none := by
 unfold rdNormal; rw [h]
/-- A path of the right form. -/
def rdPathR : Rd PathD := fun ls => match rdPath ls with
 | some (p, r) => if rightP p = true then some (p, r) else none
 | none => none
theorem rdPathR_no {ls q : List (List UInt8)} {n : Int} (h : rdN kwPath 1 ls = some ([n], q)) (hn : ¬ (2 ≤ n ∧ n ≤ 256)) : rdPathR ls = none := by
 unfold rdPathR
 split
 ·rename_i p r e
  rw [if_neg]
  intro hr
  obtain ⟨m, q', h1, h2, h3, h4⟩ := rdPath_len e
  rw [h] at h1
  injection h1 with h1
  injection h1 with h1 _
  injection h1 with h1 _
  subst h1
  unfold rightP at hr
  rw [Bool.and_eq_true, decide_eq_true_eq] at hr
  have := cnt_nat h2
  omega
 ·rfl
theorem rdPath_mk {ls q q2 q3 : List (List UInt8)} {n : Nat} {ps : List (List Int)} {es : List EdgeD} (h1 : rdN kwPath 1 ls = some ([(n : Int)], q)) (hn : n ≤ 1048576) (h2 : rep (rdLine kwPoint) n q = some (ps, q2)) (h3 : rep rdEdge (n - 1) q2 = some (es, q3)) : rdPath ls = some (⟨ps, es⟩, q3) := by
 unfold rdPath
 rw [h1]
 simp only
 rw [sz_cnt hn]
 simp only [if_true, Int.toNat_natCast]
 rw [h2]
 simp only
 rw [h3]
theorem rdPath_no2 {ls q : List (List UInt8)} {n : Nat} (h1 : rdN kwPath 1 ls = some ([(n : Int)], q)) (h2 : rep (rdLine kwPoint) n q = none) : rdPathR ls = none := by
 unfold rdPathR rdPath
 rw [h1]
 simp only [Int.toNat_natCast]
 rw [h2]
 by_cases e : cntOk (n : Int) = true
 ·rw [if_pos e]
 ·rw [if_neg e]
theorem rdPath_no3 {ls q q2 : List (List UInt8)} {n : Nat} {ps : List (List Int)} (h1 : rdN kwPath 1 ls = some ([(n : Int)], q)) (h2 : rep (rdLine kwPoint) n q = some (ps, q2)) (h3 : rep rdEdge (n - 1) q2 = none) : rdPathR ls = none := by
 unfold rdPathR rdPath
 rw [h1]
 simp only [Int.toNat_natCast]
 rw [h2]
 simp only
 rw [h3]
 by_cases e : cntOk (n : Int) = true
 ·rw [if_pos e]
 ·rw [if_neg e]
theorem rdPath_no1 {ls : List (List UInt8)} (h1 : rdN kwPath 1 ls = none) : rdPathR ls = none := by
 unfold rdPathR rdPath
 rw [h1]
theorem rdPath_no0 {ls q : List (List UInt8)} {n : Int} (h1 : rdN kwPath 1 ls = some ([n], q)) (hc : ¬ cntOk n = true) : rdPathR ls = none := by
 unfold rdPathR rdPath
 rw [h1]
 simp only
 rw [if_neg hc]
theorem parseP_R (s : List UInt8) : parseP s = match rdPathR (linesT s).1 with
  | some (p, r) => if rdEnd r (linesT s).2 = true then some p else none
  | none => none := by
 unfold parseP rdPathR
 cases rdPath (linesT s).1 with
 | none => rfl
 | some q =>
  obtain ⟨p, r⟩ := q
  simp only
  by_cases h : rightP p = true
  ·rw [if_pos h]
   by_cases h2 : rdEnd r (linesT s).2 = true
   ·rw [if_pos ⟨h, h2⟩]
    simp only
    rw [if_pos h2]
   ·rw [if_neg (fun e => h2 e.2)]
    simp only
    rw [if_neg h2]
  ·rw [if_neg h, if_neg (fun e => h e.1)]
end Go.Proofs.Fm
