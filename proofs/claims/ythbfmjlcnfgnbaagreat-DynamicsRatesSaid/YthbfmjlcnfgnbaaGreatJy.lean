/-
  What the readings of the arguments say of memory.
-/
import Derived.Test.YthbfmjlcnfgnbaaGreatJx
import Derived.Deep.Slices
import Derived.OpenShut
import Derived.ChangeArms
namespace Go.Proofs.En
open Go.RowKit

theorem list_of {A : Type} (P : Nat → A → Prop) : ∀ n : Nat, (∀ i, i < n → ∃ r, P i r) → ∃ rs : List A, rs.length = n ∧ ∀ (i : Nat) (r : A), rs[i]? = some r → P i r
  | 0, _ => ⟨[], rfl, fun i r h => by simp at h⟩
  | n + 1, h => by
    obtain ⟨rs, hl, hr⟩ := list_of P n fun i hi => h i (by omega)
    obtain ⟨r, hp⟩ := h n (by omega)
    refine ⟨rs ++ [r], by simp [hl], fun i r' hi => ?_⟩
    rcases Nat.lt_or_ge i rs.length with hlt | hge
    · rw [List.getElem?_append_left hlt] at hi
      exact hr i r' hi
    · rw [List.getElem?_append_right hge] at hi
      have : i = n := by
        rcases Nat.eq_or_lt_of_le hge with h | h
        · omega
        · rw [List.getElem?_eq_none (by simp; omega)] at hi; cases hi
      subst this
      have e : i - rs.length = 0 := by omega
      rw [e] at hi
      simp at hi
      subst hi
      exact hp

/-- A slice that is read lies in memory, row for row. -/
theorem open_rows {H : Type} {enc : TypeId × Value → H} {P : Program} {w : World} {base : Nat} {spare : Nat → Bool} {held : Bool} {A : Type} (f : A → List Value) {t e : TypeId} {n fuel : Nat} {v : Value} {x : DataW H × List MemPlace} (ht : P.underlying t = some (.slice e)) (hc : P.cellsOf e = n) (hn : 0 < n)
    (hrow : ∀ (m : Nat) (cs : List Value) (y : DataW H × List MemPlace), DataW.trod enc P w base spare held m e cs = some y → ∃ r : A, cs = f r)
    (h : DataW.trod enc P w base spare held fuel t [v] = some x) : ∃ (oa : Option Addr) (cap : Nat) (rs : List A), v = .slice oa rs.length cap ∧ rs.length ≤ 9223372036854775807 ∧ Sl w oa n (rs.map f) := by
  rcases Go.Deep.open_slice ht h with ⟨h0, _⟩ | ⟨a, len, cap, m, k, D, Pl, h1, hb, hl, hm, hmm, _, hx⟩
  · injection h0 with h0 _
    subst h0
    exact ⟨none, 0, [], rfl, by simp, fun h => absurd rfl h⟩
  · injection h1 with h1 _
    subst h1
    have hlm : len ≤ m := by rw [hmm]; split <;> omega
    obtain ⟨rs, hrl, hr⟩ := list_of (fun i r => w.cells? base (a.add (i * n)) n = some (f r)) len (fun i hi => by
      obtain ⟨cs, c1, c2⟩ := hx i (by omega)
      rw [hc] at c1
      obtain ⟨r, rfl⟩ := hrow _ _ _ c2
      exact ⟨r, c1⟩)
    subst hrl
    refine ⟨some a, cap, rs, rfl, by unfold maxLen at hm; omega, fun hne => ?_⟩
    have hne' : rs ≠ [] := fun h => hne (by simp [h])
    have cell : ∀ (i : Nat) (r : A), rs[i]? = some r → ∀ q u, (f r)[q]? = some u → w.cell? ((a.add (i * n)).add q) = some u := by
      intro i r hi q u hq
      obtain ⟨_, c2, c3⟩ := World.cells?_some (hr i r hi)
      have hqn : q < n := by
        rcases Nat.lt_or_ge q (f r).length with h' | h'
        · omega
        · rw [List.getElem?_eq_none h'] at hq; cases hq
      rw [c3 q hqn, hq]
    -- the slice's address has no spot
    have sp : a.spot = none := by
      cases rs with
      | nil => exact absurd rfl hne'
      | cons r0 rt =>
        obtain ⟨_, c2, c3⟩ := World.cells?_some (hr 0 r0 rfl)
        have c4 := c3 0 hn
        have : (f r0)[0]? = some ((f r0)[0]'(by omega)) := List.getElem?_eq_getElem _
        rw [this] at c4
        cases hs : a.spot with
        | none => rfl
        | some s =>
          exfalso
          have e0 : ((a.add (0 * n)).add 0) = a := by simp [Addr.add]
          rw [e0] at c4
          unfold World.cell? at c4
          rw [hs] at c4
          revert c4
          cases w.heap[a.block]? with
          | none => simp
          | some o => cases o <;> simp
    obtain ⟨b, off, sp'⟩ := a
    simp at sp
    subst sp
    refine ⟨b, off, rfl, ?_, fun i r hi q u hq => ?_⟩
    · cases rs with
      | nil => exact absurd rfl hne'
      | cons r0 rt =>
        obtain ⟨_, c2, c3⟩ := World.cells?_some (hr 0 r0 rfl)
        have c4 := c3 0 hn
        have : (f r0)[0]? = some ((f r0)[0]'(by omega)) := List.getElem?_eq_getElem _
        rw [this] at c4
        rcases Nat.lt_or_ge b w.heap.size with h' | h'
        · exact h'
        · exfalso
          have e0 : (((⟨b, off, none⟩ : Addr).add (0 * n)).add 0) = ⟨b, off, none⟩ := by simp [Addr.add]
          rw [e0] at c4
          simp [World.cell?, Array.getElem?_eq_none h'] at c4
    · rw [List.getElem?_map] at hi
      cases hri : rs[i]? with
      | none => rw [hri] at hi; cases hi
      | some r' =>
        rw [hri] at hi
        simp at hi
        subst hi
        rw [← cell i r' hri q u hq]
        congr 1
        simp only [Addr.add]
        split <;> split <;> simp_all <;> omega

theorem row_int {H : Type} {enc : TypeId × Value → H} {w : World} {base : Nat} {spare : Nat → Bool} {held : Bool} (e : TypeId) (hu : Tryz.prog.underlying e = some (.int .i64)) (m : Nat) (cs : List Value) (y : DataW H × List MemPlace) (h : DataW.trod enc Tryz.prog w base spare held m e cs = some y) : ∃ r : Int, cs = [.int .i64 r] := by
  obtain ⟨n, rfl, _⟩ := DataW.trod_int hu h
  exact ⟨n, rfl⟩
theorem clo2 : Tryz.prog.cellsOf 2 = 1 := by kernel_rfl
theorem clo3 : Tryz.prog.cellsOf 3 = 1 := by kernel_rfl
theorem clo9 : Tryz.prog.cellsOf 9 = 1 := by kernel_rfl
theorem clo40 : Tryz.prog.cellsOf 40 = 3 := by kernel_rfl
theorem clo54 : Tryz.prog.cellsOf 54 = 5 := by kernel_rfl
theorem clo80 : Tryz.prog.cellsOf 80 = 12 := by kernel_rfl

theorem get_some {A : Type} {xs : List A} {n i : Nat} (h : xs.length = n) (hi : i < n) : ∃ y, xs[i]? = some y := ⟨_, List.getElem?_eq_getElem (by omega)⟩

set_option maxRecDepth 100000 in
theorem row_vec {H : Type} {enc : TypeId × Value → H} {w : World} {base : Nat} {spare : Nat → Bool} {held : Bool} {m : Nat} {a b c : Value} {y : DataW H × List MemPlace} (h : DataW.trod enc Tryz.prog w base spare held m 40 [a, b, c] = some y) : ∃ x y z : Int, a = .int .i64 x ∧ b = .int .i64 y ∧ c = .int .i64 z := by
  obtain ⟨xs, n, _, _, _, hl, hf⟩ := DataW.trod_array Tryz.underlying40 h
  obtain ⟨y0, g0⟩ := get_some hl (i := 0) (by omega)
  obtain ⟨y1, g1⟩ := get_some hl (i := 1) (by omega)
  obtain ⟨y2, g2⟩ := get_some hl (i := 2) (by omega)
  have h0 := hf 0 (by omega)
  have h1 := hf 1 (by omega)
  have h2 := hf 2 (by omega)
  rw [g0, clo2] at h0
  rw [g1, clo2] at h1
  rw [g2, clo2] at h2
  obtain ⟨x0, e0⟩ := row_int 2 Tryz.underlying2 _ _ _ h0
  obtain ⟨x1, e1⟩ := row_int 2 Tryz.underlying2 _ _ _ h1
  obtain ⟨x2, e2⟩ := row_int 2 Tryz.underlying2 _ _ _ h2
  simp at e0 e1 e2
  exact ⟨x0, x1, x2, e0, e1, e2⟩

set_option maxRecDepth 100000 in
theorem row_joint {H : Type} {enc : TypeId × Value → H} {w : World} {base : Nat} {spare : Nat → Bool} {held : Bool} (m : Nat) (cs : List Value) (y : DataW H × List MemPlace) (h : DataW.trod enc Tryz.prog w base spare held m 80 cs = some y) : ∃ r : JV, cs = r.vals := by
  obtain ⟨xs, n, _, _, hc, hl, hf⟩ := DataW.trod_struct Tryz.underlying80 h
  rw [clo80] at hc
  match cs, hc with
  | [c0, c1, c2, c3, c4, c5, c6, c7, c8, c9, c10, c11], _ =>
    have hl' : xs.length = 10 := hl
    obtain ⟨y0, g0⟩ := get_some hl' (i := 0) (by omega)
    have h0 := hf 0 _ rfl
    simp only [g0] at h0
    obtain ⟨y1, g1⟩ := get_some hl' (i := 1) (by omega)
    have h1 := hf 1 _ rfl
    simp only [g1] at h1
    obtain ⟨y2, g2⟩ := get_some hl' (i := 2) (by omega)
    have h2 := hf 2 _ rfl
    simp only [g2] at h2
    obtain ⟨y3, g3⟩ := get_some hl' (i := 3) (by omega)
    have h3 := hf 3 _ rfl
    simp only [g3] at h3
    obtain ⟨y4, g4⟩ := get_some hl' (i := 4) (by omega)
    have h4 := hf 4 _ rfl
    simp only [g4] at h4
    obtain ⟨y5, g5⟩ := get_some hl' (i := 5) (by omega)
    have h5 := hf 5 _ rfl
    simp only [g5] at h5
    obtain ⟨y6, g6⟩ := get_some hl' (i := 6) (by omega)
    have h6 := hf 6 _ rfl
    simp only [g6] at h6
    obtain ⟨y7, g7⟩ := get_some hl' (i := 7) (by omega)
    have h7 := hf 7 _ rfl
    simp only [g7] at h7
    obtain ⟨y8, g8⟩ := get_some hl' (i := 8) (by omega)
    have h8 := hf 8 _ rfl
    simp only [g8] at h8
    obtain ⟨y9, g9⟩ := get_some hl' (i := 9) (by omega)
    have h9 := hf 9 _ rfl
    simp only [g9] at h9
    obtain ⟨nm, e0, _⟩ := DataW.trod_string Tryz.underlying9 h0
    obtain ⟨x1, e1⟩ := row_int 3 Tryz.underlying3 _ _ _ h1
    obtain ⟨x2, e2⟩ := row_int 3 Tryz.underlying3 _ _ _ h2
    obtain ⟨o0, o1, o2, f0, f1, f2⟩ := row_vec h3
    obtain ⟨x4, e4⟩ := row_int 2 Tryz.underlying2 _ _ _ h4
    obtain ⟨x5, e5⟩ := row_int 2 Tryz.underlying2 _ _ _ h5
    obtain ⟨x6, e6⟩ := row_int 2 Tryz.underlying2 _ _ _ h6
    obtain ⟨x7, e7⟩ := row_int 2 Tryz.underlying2 _ _ _ h7
    obtain ⟨x8, e8⟩ := row_int 2 Tryz.underlying2 _ _ _ h8
    obtain ⟨x9, e9⟩ := row_int 2 Tryz.underlying2 _ _ _ h9
    simp [clo2, clo3, clo9] at e0 e1 e2 e4 e5 e6 e7 e8 e9
    subst f0 f1 f2 e0 e1 e2 e4 e5 e6 e7 e8 e9
    exact ⟨⟨nm, x1, x2, o0, o1, o2, x4, x5, x6, x7, x8, x9⟩, rfl⟩

set_option maxRecDepth 100000 in
theorem row_mass {H : Type} {enc : TypeId × Value → H} {w : World} {base : Nat} {spare : Nat → Bool} {held : Bool} (m : Nat) (cs : List Value) (y : DataW H × List MemPlace) (h : DataW.trod enc Tryz.prog w base spare held m 54 cs = some y) : ∃ r : MV, cs = r.vals := by
  obtain ⟨xs, n, _, _, hc, hl, hf⟩ := DataW.trod_struct Tryz.underlying54 h
  rw [clo54] at hc
  match cs, hc with
  | [c0, c1, c2, c3, c4], _ =>
    have hl' : xs.length = 3 := hl
    obtain ⟨y0, g0⟩ := get_some hl' (i := 0) (by omega)
    have h0 := hf 0 _ rfl
    simp only [g0] at h0
    obtain ⟨y1, g1⟩ := get_some hl' (i := 1) (by omega)
    have h1 := hf 1 _ rfl
    simp only [g1] at h1
    obtain ⟨y2, g2⟩ := get_some hl' (i := 2) (by omega)
    have h2 := hf 2 _ rfl
    simp only [g2] at h2
    obtain ⟨x0, e0⟩ := row_int 3 Tryz.underlying3 _ _ _ h0
    obtain ⟨x1, e1⟩ := row_int 2 Tryz.underlying2 _ _ _ h1
    obtain ⟨o0, o1, o2, f0, f1, f2⟩ := row_vec h2
    simp [clo2, clo3] at e0 e1
    subst f0 f1 f2 e0 e1
    exact ⟨⟨x0, x1, o0, o1, o2⟩, rfl⟩

/-- A slice of numbers that is read. -/
theorem open_nums {H : Type} {enc : TypeId × Value → H} {w : World} {base : Nat} {spare : Nat → Bool} {held : Bool} {t e : TypeId} {fuel : Nat} {v : Value} {x : DataW H × List MemPlace} (ht : Tryz.prog.underlying t = some (.slice e)) (hu : Tryz.prog.underlying e = some (.int .i64)) (hc : Tryz.prog.cellsOf e = 1)
    (h : DataW.trod enc Tryz.prog w base spare held fuel t [v] = some x) : ∃ (oa : Option Addr) (cap : Nat) (rs : List Int), v = .slice oa rs.length cap ∧ rs.length ≤ 9223372036854775807 ∧ Sl w oa 1 (pvals rs) :=
  open_rows (fun p : Int => [.int .i64 p]) ht hc (by omega) (row_int e hu) h
theorem laidOut : laidOutB Tryz.prog = true := by kernel_rfl
end Go.Proofs.En
