/-
  Texts put together: He.
-/
import Derived.Test.YtemchlakoalhcaaZJointBetter26
set_option linter.unusedVariables false
namespace Go.Proofs.Jn
open Go.RowKit

def avl (K lo n : Nat) (bf : Nat → Nat) : List Value := (List.range (K + 1)).map fun j => if lo ≤ j then .slice (some ⟨bf j, 0, none⟩) n n else .slice none 0 0
def ivl (n : Nat) (f : Nat → Int) : List Value := (List.range n).map fun v => .int .i64 (f v)
theorem avl_len (K lo n : Nat) (bf : Nat → Nat) : (avl K lo n bf).length = K + 1 := by simp [avl]
theorem avl_get {K lo n : Nat} {bf : Nat → Nat} {j : Nat} (h : j ≤ K) (hl : lo ≤ j) : (avl K lo n bf)[j]? = some (.slice (some ⟨bf j, 0, none⟩) n n) := by
  have : j < K + 1 := by omega
  simp [avl, this, hl]
theorem avl_none {K lo n : Nat} {bf : Nat → Nat} {j : Nat} (h : j ≤ K) (hl : j < lo) : (avl K lo n bf)[j]? = some (.slice none 0 0) := by
  have h1 : j < K + 1 := by omega
  have h2 : ¬ lo ≤ j := by omega
  simp [avl, h1, h2]
theorem ivl_get {n : Nat} {f : Nat → Int} {v : Nat} (h : v < n) : (ivl n f)[v]? = some (.int .i64 (f v)) := by simp [ivl, h]
theorem ivl_set (n : Nat) (f : Nat → Int) (v : Nat) (x : Int) : (ivl n f).set v (.int .i64 x) = ivl n (fun u => if u = v then x else f u) := by
  apply List.ext_getElem?
  intro i
  rw [List.getElem?_set]
  by_cases h : i < n
  · by_cases e : v = i
    · subst e; simp [ivl, h]
    · rw [if_neg e, ivl_get h, ivl_get h, if_neg (fun e2 => e e2.symm)]
  · have h1 : n ≤ i := by omega
    simp [ivl, h1]
    try omega
theorem avl_set {K q n : Nat} (bf : Nat → Nat) (g : Nat) (h : q ≤ K) : (avl K (q + 1) n bf).set q (.slice (some ⟨g, 0, none⟩) n n) = avl K q n (fun j => if j = q then g else bf j) := by
  apply List.ext_getElem?
  intro i
  rw [List.getElem?_set, avl_len]
  by_cases hi : i ≤ K
  · by_cases e : q = i
    · subst e
      rw [if_pos rfl, if_pos (by omega), avl_get hi (Nat.le_refl _), if_pos rfl]
    · rw [if_neg e]
      rcases Nat.lt_or_ge i q with h1 | h1
      · rw [avl_none hi (by omega), avl_none hi h1]
      · rw [avl_get hi (by omega), avl_get hi h1, if_neg (fun e2 => e e2.symm)]
  · have h1 : K + 1 ≤ i := by omega
    have h2 : q ≠ i := by omega
    rw [if_neg h2, List.getElem?_eq_none (by rw [avl_len]; exact h1), List.getElem?_eq_none (by rw [avl_len]; exact h1)]
/-- The table: rows lo .. K stand, each in a block of its own. -/
structure Arr (B : Nat) (W : World) (gA n K lo : Nat) (bf : Nat → Nat) (R : Nat → Nat → Int) : Prop where
  box : Blk W gA (avl K lo n bf)
  row : ∀ j, lo ≤ j → j ≤ K → Blk W (bf j) (ivl n (R j))
  inj : ∀ i j, lo ≤ i → i ≤ K → lo ≤ j → j ≤ K → bf i = bf j → i = j
  ne : ∀ j, lo ≤ j → j ≤ K → bf j ≠ gA
  hi : ∀ j, lo ≤ j → j ≤ K → B ≤ bf j
  hg : B ≤ gA
theorem Arr.keep {B : Nat} {W W' : World} {gA n K lo : Nat} {bf : Nat → Nat} {R : Nat → Nat → Int} (h : Arr B W gA n K lo bf R) (hb : Below W.heap.size W W') : Arr B W' gA n K lo bf R :=
  ⟨h.box.keep hb, fun j h1 h2 => (h.row j h1 h2).keep hb, h.inj, h.ne, h.hi, h.hg⟩
theorem Arr.new (W : World) (n K : Nat) (bf : Nat → Nat) (R : Nat → Nat → Int) (B : Nat) (hB : B ≤ W.heap.size) : Arr B (W.alloc (.cells (Array.replicate (K + 1) (Value.slice none 0 0)) 22)) W.heap.size n K (K + 1) bf R := by
  refine ⟨?_, fun j h1 h2 => absurd h1 (by omega), fun i j h1 h2 => absurd h1 (by omega), fun j h1 h2 => absurd h1 (by omega), fun j h1 h2 => absurd h1 (by omega), hB⟩
  have e : Array.replicate (K + 1) (Value.slice none 0 0) = (avl K (K + 1) n bf).toArray := by
    apply Array.ext
    · simp [avl]
    · intro i h1 h2
      simp [avl] at h1 h2 ⊢
      omega
  rw [e]
  exact Blk.new W _ 22
def updR (R : Nat → Nat → Int) (q : Nat) (f : Nat → Int) : Nat → Nat → Int := fun j => if j = q then f else R j
theorem Arr.put {B : Nat} {W : World} {gA n K lo : Nat} {bf : Nat → Nat} {R : Nat → Nat → Int} {q : Nat} {f : Nat → Int} (h : Arr B W gA n K lo bf (updR R q f)) (hq : lo ≤ q) (hK : q ≤ K) (v : Nat) (x : Int) :
    Arr B (W.setCell ⟨bf q, v, none⟩ (.int .i64 x)) gA n K lo bf (updR R q fun u => if u = v then x else f u) := by
  refine ⟨h.box.keepG (grown_set W (bf q) v _) (fun e => h.ne q hq hK e.symm), fun j h1 h2 => ?_, h.inj, h.ne, h.hi, h.hg⟩
  by_cases e : j = q
  · subst e
    have := (h.row j h1 h2).put v (.int .i64 x)
    simp only [updR, if_pos] at this ⊢
    rw [ivl_set] at this
    exact this
  · have := (h.row j h1 h2).keepG (grown_set W (bf q) v (.int .i64 x)) (fun e2 => e (h.inj _ _ h1 h2 hq hK e2))
    simp only [updR, if_neg e] at this ⊢
    exact this
theorem Arr.down {B : Nat} {W : World} {gA n K q : Nat} {bf : Nat → Nat} {R : Nat → Nat → Int} (h : Arr B W gA n K (q + 1) bf R) (hK : q ≤ K) (hB : B ≤ W.heap.size) :
    Arr B ((W.setCell ⟨gA, q, none⟩ (.slice (some ⟨W.heap.size, 0, none⟩) n n)).alloc (.cells (Array.replicate n (Value.int .i64 0)) 3)) gA n K q (fun j => if j = q then W.heap.size else bf j) (updR R q fun _ => 0) := by
  have hs : (W.setCell ⟨gA, q, none⟩ (.slice (some ⟨W.heap.size, 0, none⟩) n n)).heap.size = W.heap.size := by simp [World.setCell]
  have hbl : Below W.heap.size (W.setCell ⟨gA, q, none⟩ (.slice (some ⟨W.heap.size, 0, none⟩) n n)) ((W.setCell ⟨gA, q, none⟩ (.slice (some ⟨W.heap.size, 0, none⟩) n n)).alloc (.cells (Array.replicate n (Value.int .i64 0)) 3)) := (Below.refl _ _).alloc (by rw [hs]; exact Nat.le_refl _) _
  have hold : ∀ j, q + 1 ≤ j → j ≤ K → bf j < W.heap.size := fun j h1 h2 => (h.row j h1 h2).lt
  refine ⟨?_, fun j h1 h2 => ?_, fun i j h1 h2 h3 h4 he => ?_, fun j h1 h2 => ?_, fun j h1 h2 => ?_, h.hg⟩
  · rw [← avl_set bf _ hK]
    exact (h.box.put q _).keep (by rw [hs]; exact hbl)
  · by_cases e : j = q
    · subst e
      simp only [updR, if_pos]
      have e2 : Array.replicate n (Value.int .i64 0) = (ivl n fun _ => 0).toArray := by
        apply Array.ext
        · simp [ivl]
        · intro i h1 h2; simp [ivl]
      have := Blk.new (W.setCell ⟨gA, j, none⟩ (.slice (some ⟨W.heap.size, 0, none⟩) n n)) (ivl n fun _ => 0) 3
      rw [hs, ← e2] at this
      exact this
    · simp only [updR, if_neg e]
      exact ((h.row j (by omega) h2).keepG (grown_set W gA q _) (h.ne j (by omega) h2)).keep (by rw [hs]; exact hbl)
  · by_cases e1 : i = q
    · by_cases e2 : j = q
      · omega
      · simp only [if_pos e1, if_neg e2] at he
        have := hold j (by omega) h4
        omega
    · by_cases e2 : j = q
      · simp only [if_neg e1, if_pos e2] at he
        have := hold i (by omega) h2
        omega
      · simp only [if_neg e1, if_neg e2] at he
        exact h.inj i j (by omega) h2 (by omega) h4 he
  · by_cases e : j = q
    · simp only [if_pos e]; have := h.box.lt; omega
    · simp only [if_neg e]; exact h.ne j (by omega) h2
  · by_cases e : j = q
    · simp only [if_pos e]; exact hB
    · simp only [if_neg e]; exact h.hi j (by omega) h2
/-- What a number of the table says. -/
def Good (T : Tm) (rows : List (List Nat)) (arm goal n K q : Nat) (F : Nat → Int) (v : Nat) (a : Int) : Prop := a = -1 ∨ ((q : Int) ≤ a ∧ a ≤ (K : Int) ∧
  ((q = K ∧ v = goal) ∨ (q < K ∧ ∃ u, u < n ∧ 0 ≤ F u ∧ legB T ⟨arm, v, u⟩ = true ∧ AptM T rows ⟨arm, v, u⟩ q ∧ (a = F u ∨ (v = goal ∧ u = goal ∧ a = q ∧ F u = q + 1)))))
/-- A next vertex that the plan may take. -/
def OkS (T : Tm) (rows : List (List Nat)) (arm goal i : Nat) (b : Int) (F : Nat → Int) (v y : Nat) : Prop := 0 ≤ F y ∧ F y ≤ max b ((i : Int) + 1) ∧ legB T ⟨arm, v, y⟩ = true ∧ AptM T rows ⟨arm, v, y⟩ i ∧ ((i : Int) < b ∨ y = goal)
theorem oks_ex {T : Tm} {rows : List (List Nat)} {arm goal n K i : Nat} {b : Int} {R : Nat → Nat → Int} (hG : ∀ q, q ≤ K → ∀ v, v < n → Good T rows arm goal n K q (R (q + 1)) v (R q v)) (hi : i < K) {v : Nat} (hv : v < n) (h0 : 0 ≤ R i v) (h1 : R i v ≤ max b (i : Int)) :
    ∃ y, y < n ∧ OkS T rows arm goal i b (R (i + 1)) v y := by
  rcases hG i (by omega) v hv with h | ⟨h2, h3, ⟨h4, -⟩ | ⟨-, u, hu, h5, h6, h7, h8⟩⟩
  · omega
  · omega
  · have hgu : ((i : Int) + 1) ≤ R (i + 1) u := by
      rcases hG (i + 1) (by omega) u hu with h | ⟨h, -⟩
      · omega
      · simpa using h
    refine ⟨u, hu, h5, ?_, h6, h7, ?_⟩
    · rcases h8 with h8 | ⟨-, -, -, h8⟩ <;> omega
    · rcases h8 with h8 | ⟨-, h8, -, -⟩
      · left; omega
      · exact .inr h8
theorem oks_end {T : Tm} {rows : List (List Nat)} {arm goal n K : Nat} {R : Nat → Nat → Int} (hG : ∀ q, q ≤ K → ∀ v, v < n → Good T rows arm goal n K q (R (q + 1)) v (R q v)) {v : Nat} (hv : v < n) (h0 : 0 ≤ R K v) : v = goal := by
  rcases hG K (Nat.le_refl _) v hv with h | ⟨h2, h3, ⟨-, h4⟩ | ⟨h4, -⟩⟩
  · omega
  · exact h4
  · omega
end Go.Proofs.Jn
