/-
  Texts put together: Cb Cc Bp Dj.
-/
import Derived.Test.YteeeogdfnpdpcaaGreatZNeighborFinds16
import Derived.Laws.MakeOwn
import Derived.Defers
import Derived.Recover
set_option linter.unusedVariables false
section
/-
  The plain law of k-d trees: parents as the code finds them, links as the reference counts them.
-/
namespace Go.Proofs.Ng
open Go.RowKit

theorem kd_bad {d : Nat} {t : List Nd} {i : Nat} {x : Nd} (hx : t[i]? = some x) (h : ¬ NdOk t.length d i x) : ¬ KdS d t := fun k => h (k.ok i x hx)
/-- What the code knows behind i nodes. -/
structure ParI (d : Nat) (t : List Nd) (i : Nat) (ab : List Int) (us : List Bool) : Prop where
  la : ab.length = t.length
  lu : us.length = t.length
  ok : ∀ (k : Nat) (x : Nd), k < i → t[k]? = some x → NdOk t.length d k x
  ab : ∀ c : Nat, c < t.length → (ab[c]? = some (-1) ∧ ∀ p, p < i → ¬ Lk t p c) ∨ ∃ p : Nat, p < i ∧ ab[c]? = some ((p : Nat) : Int) ∧ Lk t p c ∧ ∀ p', p' < i → Lk t p' c → p' = p
  diff : ∀ (k : Nat) (x : Nd), k < i → t[k]? = some x → x.lo = x.hi → x.lo = -1
  us : ∀ p : Nat, p < t.length → (us[p]? = some true ∧ ∃ (k : Nat) (x : Nd), k < i ∧ t[k]? = some x ∧ x.pt = (p : Nat)) ∨ (us[p]? = some false ∧ ∀ (k : Nat) (x : Nd), k < i → t[k]? = some x → x.pt ≠ (p : Nat))
  pts : ∀ (k k' : Nat) (x y : Nd), k < i → k' < i → t[k]? = some x → t[k']? = some y → x.pt = y.pt → k = k'
  one : ∀ k, 1 ≤ k → k < i → ∃ p, p < i ∧ Lk t p k
theorem ParI.start (d : Nat) (t : List Nd) : ParI d t 0 (List.replicate t.length (-1)) (List.replicate t.length false) :=
  ⟨by simp, by simp, fun _ _ h => absurd h (Nat.not_lt_zero _), fun c hc => .inl ⟨by simp [hc], fun _ h => absurd h (Nat.not_lt_zero _)⟩, fun _ _ h => absurd h (Nat.not_lt_zero _), fun p hp => .inr ⟨by simp [hp], fun _ _ h => absurd h (Nat.not_lt_zero _)⟩, fun _ _ _ _ h => absurd h (Nat.not_lt_zero _), fun _ _ h => absurd h (Nat.not_lt_zero _)⟩
variable {d : Nat} {t : List Nd} {i : Nat} {ab : List Int} {us : List Bool} {x : Nd}
theorem ParI.used (h : ParI d t i ab us) (hx : t[i]? = some x) {p : Nat} (hp : x.pt = (p : Nat)) (hu : us[p]? = some true) : ¬ KdS d t := by
  intro k
  have hp1 := (k.ok i x hx).p1
  rcases h.us p (by omega) with ⟨_, j, y, hj, hy, hyp⟩ | ⟨h1, _⟩
  · have := k.pts j i y x hy hx (by omega)
    omega
  · rw [hu] at h1; cases h1
theorem ParI.two (h : ParI d t i ab us) {c : Nat} (hc : c < t.length) {v : Int} (hv : ab[c]? = some v) (hv1 : v ≠ -1) (hl : Lk t i c) : ¬ KdS d t := by
  intro k
  rcases h.ab c hc with ⟨h1, _⟩ | ⟨p, hp, _, hl', _⟩
  · rw [hv] at h1; injection h1 with h1; exact hv1 h1
  · have := k.uniq p i c hl' hl; omega
theorem ParI.none (h : ParI d t i ab us) (hi : 0 < i) (hil : i < t.length) (hv : ab[i]? = some (-1)) : ¬ KdS d t := by
  intro k
  obtain ⟨p, hp⟩ := k.one i hi hil
  have := (k.up.lk hp).1
  rcases h.ab i hil with ⟨_, h1⟩ | ⟨q, hq, h1, _⟩
  · exact h1 p this hp
  · rw [hv] at h1; injection h1 with h1; omega
/-- The parents behind one node more. -/
def ab1 (ab : List Int) (i : Nat) (c : Int) : List Int := if c = -1 then ab else ab.set c.toNat (i : Nat)
theorem ab1_len (ab : List Int) (i : Nat) (c : Int) : (ab1 ab i c).length = ab.length := by unfold ab1; split <;> simp
theorem ab1_low {ab : List Int} {i : Nat} {c : Int} (hc : c = -1 ∨ (i : Int) < c) : (ab1 ab i c)[i]? = ab[i]? := by
  unfold ab1
  split
  · rfl
  · rw [List.getElem?_set_ne (by omega)]
theorem ParI.next (h : ParI d t i ab us) (hx : t[i]? = some x) (ho : NdOk t.length d i x) (hu : us[x.pt.toNat]? = some false) (hl : x.lo ≠ -1 → ab[x.lo.toNat]? = some (-1)) (hh : x.hi ≠ -1 → (ab1 ab i x.lo)[x.hi.toNat]? = some (-1)) (h0 : 0 < i → ab[i]? ≠ some (-1)) : ParI d t (i + 1) (ab1 (ab1 ab i x.lo) i x.hi) (us.set x.pt.toNat true) := by
  have hil := (List.getElem?_eq_some_iff.1 hx).1
  have hol := ho.lo
  have hoh := ho.hi
  unfold inR at hol hoh
  have hnot : ∀ (p : Nat), p < i + 1 → ¬ p = i → p < i := fun p h1 h2 => by omega
  have hlk : ∀ c : Nat, Lk t i c ↔ x.lo = (c : Nat) ∨ x.hi = (c : Nat) := fun c => ⟨fun ⟨y, hy, hc⟩ => by rw [hx] at hy; injection hy with hy; subst hy; exact hc, fun hc => ⟨x, hx, hc⟩⟩
  have hdif : x.lo = x.hi → x.lo = -1 := by
    intro e
    apply Classical.byContradiction
    intro hne
    have h1 := hh (by omega)
    unfold ab1 at h1
    rw [if_neg hne, ← e, List.getElem?_set_self (by rw [h.la]; omega)] at h1
    injection h1 with h1
    omega
  refine ⟨by rw [ab1_len, ab1_len]; exact h.la, by simp [h.lu], ?_, ?_, ?_, ?_, ?_, ?_⟩
  · intro k y hk hy
    by_cases e : k = i
    · subst e; rw [hx] at hy; injection hy with hy; subst hy; exact ho
    · exact h.ok k y (hnot k hk e) hy
  · intro c hc
    have hbase := h.ab c hc
    by_cases hlc : Lk t i c
    · right
      refine ⟨i, by omega, ?_, hlc, fun p' hp' hl' => ?_⟩
      · rcases (hlk c).1 hlc with e | e
        · have e1 : (ab1 (ab1 ab i x.lo) i x.hi)[c]? = (ab1 ab i x.lo)[c]? := by
            unfold ab1
            split
            · rfl
            · rw [List.getElem?_set_ne (by have := hdif; omega)]
          rw [e1]
          unfold ab1
          rw [if_neg (by omega), show x.lo.toNat = c by omega, List.getElem?_set_self (by rw [h.la]; omega)]
        · have e2 : (ab1 (ab1 ab i x.lo) i x.hi)[c]? = some ((i : Nat) : Int) := by
            rw [ab1, if_neg (by omega), show x.hi.toNat = c by omega, List.getElem?_set_self (by rw [ab1_len, h.la]; omega)]
          exact e2
      · by_cases e : p' = i
        · exact e
        · exfalso
          have hp2 := hnot p' hp' e
          have habc : ab[c]? = some (-1) := by
            rcases (hlk c).1 hlc with e1 | e1
            · have := hl (by omega); rw [show x.lo.toNat = c by omega] at this; exact this
            · have h1 := hh (by omega)
              rw [show x.hi.toNat = c by omega] at h1
              unfold ab1 at h1
              split at h1
              · exact h1
              · rw [List.getElem?_set] at h1
                split at h1
                · split at h1
                  · injection h1 with h1; omega
                  · cases h1
                · exact h1
          rcases hbase with ⟨_, h1⟩ | ⟨p, hp, h1, _⟩
          · exact h1 p' hp2 hl'
          · rw [habc] at h1; injection h1 with h1; omega
    · have hn := fun e => hlc ((hlk c).2 e)
      have e1 : (ab1 (ab1 ab i x.lo) i x.hi)[c]? = ab[c]? := by
        have a1 : (ab1 (ab1 ab i x.lo) i x.hi)[c]? = (ab1 ab i x.lo)[c]? := by
          rw [ab1]
          split
          · rfl
          · rw [List.getElem?_set_ne (by intro e; exact hn (.inr (by omega)))]
        rw [a1, ab1]
        split
        · rfl
        · rw [List.getElem?_set_ne (by intro e; exact hn (.inl (by omega)))]
      rw [e1]
      rcases hbase with ⟨h1, h2⟩ | ⟨p, hp, h1, h2, h3⟩
      · refine .inl ⟨h1, fun p hp hl' => ?_⟩
        by_cases e : p = i
        · subst e; exact hlc hl'
        · exact h2 p (hnot p hp e) hl'
      · refine .inr ⟨p, by omega, h1, h2, fun p' hp' hl' => ?_⟩
        by_cases e : p' = i
        · subst e; exact absurd hl' hlc
        · exact h3 p' (hnot p' hp' e) hl'
  · intro k y hk hy
    by_cases e : k = i
    · subst e; rw [hx] at hy; injection hy with hy; subst hy; exact hdif
    · exact h.diff k y (hnot k hk e) hy
  · intro p hp
    have h0 := ho.p0
    by_cases e : x.pt = (p : Nat)
    · refine .inl ⟨?_, i, x, by omega, hx, e⟩
      rw [show x.pt.toNat = p by omega, List.getElem?_set_self (by rw [h.lu]; exact hp)]
    · rw [List.getElem?_set_ne (by omega)]
      rcases h.us p hp with ⟨h1, k, y, hk, hy, hyp⟩ | ⟨h1, h2⟩
      · exact .inl ⟨h1, k, y, by omega, hy, hyp⟩
      · refine .inr ⟨h1, fun k y hk hy => ?_⟩
        by_cases e2 : k = i
        · subst e2; rw [hx] at hy; injection hy with hy; subst hy; exact e
        · exact h2 k y (hnot k hk e2) hy
  · have key : ∀ k y, k < i → t[k]? = some y → x.pt = y.pt → False := fun k y hk hy e => by
      have h0 := ho.p0
      have h1 := ho.p1
      rcases h.us x.pt.toNat (by omega) with ⟨h2, _⟩ | ⟨_, h2⟩
      · rw [hu] at h2; cases h2
      · exact h2 k y hk hy (by omega)
    intro k k' y z hk hk' hy hz e
    by_cases e1 : k = i
    · by_cases e2 : k' = i
      · omega
      · exfalso
        subst e1; rw [hx] at hy; injection hy with hy; subst hy
        exact key k' z (hnot k' hk' e2) hz e
    · by_cases e2 : k' = i
      · exfalso
        subst e2; rw [hx] at hz; injection hz with hz; subst hz
        exact key k y (hnot k hk e1) hy e.symm
      · exact h.pts k k' y z (hnot k hk e1) (hnot k' hk' e2) hy hz e
  · intro k hk hki
    by_cases e : k = i
    · subst e
      rcases h.ab k hil with ⟨h1, _⟩ | ⟨p, hp, _, h2, _⟩
      · exact absurd h1 (h0 (by omega))
      · exact ⟨p, by omega, h2⟩
    · obtain ⟨p, hp, h2⟩ := h.one k hk (hnot k hki e)
      exact ⟨p, by omega, h2⟩
/-- All nodes are checked. -/
theorem ParI.fin (h : ParI d t t.length ab us) : KdS d t ∧ ∀ c : Nat, c < t.length → (ab[c]? = some (-1) ∧ c = 0) ∨ ∃ p : Nat, ab[c]? = some ((p : Nat) : Int) ∧ Lk t p c := by
  have hlt : ∀ i j, Lk t i j → i < t.length := fun i j ⟨x, hx, _⟩ => (List.getElem?_eq_some_iff.1 hx).1
  have hget : ∀ i y, t[i]? = some y → i < t.length := fun i y hx => (List.getElem?_eq_some_iff.1 hx).1
  have hj : ∀ i j, Lk t i j → j < t.length := fun i j ⟨x, hx, hc⟩ => by
    have h1 := (h.ok i x (hget i x hx) hx).lo
    have h2 := (h.ok i x (hget i x hx) hx).hi
    unfold inR at h1 h2
    rcases hc with hc | hc <;> omega
  have hS : KdS d t := by
    refine ⟨fun i x hx => h.ok i x (hget i x hx) hx, fun i j x y hx hy e => h.pts i j x y (hget i x hx) (hget j y hy) hx hy e, fun j h1 h2 => ?_, fun i i' j h1 h2 => ?_, fun i x hx => h.diff i x (hget i x hx) hx⟩
    · obtain ⟨p, _, hp⟩ := h.one j h1 h2
      exact ⟨p, hp⟩
    · rcases h.ab j (hj i j h1) with ⟨_, h3⟩ | ⟨p, _, _, _, h3⟩
      · exact absurd h1 (h3 i (hlt i j h1))
      · rw [h3 i (hlt i j h1) h1, h3 i' (hlt i' j h2) h2]
  refine ⟨hS, fun c hc => ?_⟩
  rcases h.ab c hc with ⟨h1, h2⟩ | ⟨p, _, h1, h2, _⟩
  · refine .inl ⟨h1, ?_⟩
    apply Classical.byContradiction
    intro h0
    obtain ⟨p, hp⟩ := hS.one c (by omega) hc
    exact h2 p (hlt p c hp) hp
  · exact .inr ⟨p, h1, h2⟩

/-! the reference's count -/
def lk1 (c : Nat) (x : Nd) : Nat := (if x.lo = (c : Nat) then 1 else 0) + (if x.hi = (c : Nat) then 1 else 0)
def cntL (t : List Nd) (c : Nat) : Nat := (t.map (lk1 c)).sum
theorem cntL_snoc (t : List Nd) (x : Nd) (c : Nat) : cntL (t ++ [x]) c = cntL t c + lk1 c x := by simp [cntL]
theorem mem_le_sum : ∀ (l : List Nat) (a : Nat), a ∈ l → a ≤ l.sum
  | [], a, h => by cases h
  | x :: l, a, h => by
    rw [List.mem_cons] at h
    rw [List.sum_cons]
    rcases h with rfl | h
    · omega
    · have := mem_le_sum l a h; omega
theorem sum_two : ∀ (l : List Nat) (i j a b : Nat), i < j → l[i]? = some a → l[j]? = some b → a + b ≤ l.sum
  | [], i, j, a, b, _, h, _ => by simp at h
  | x :: l, 0, j + 1, a, b, _, h1, h2 => by
    simp at h1 h2
    subst h1
    have : b ≤ l.sum := mem_le_sum _ _ (List.mem_of_getElem? h2)
    simp; omega
  | x :: l, i + 1, j + 1, a, b, h, h1, h2 => by
    simp at h1 h2
    have := sum_two l i j a b (by omega) h1 h2
    simp; omega
theorem sum_at : ∀ (l : List Nat) (i a : Nat), l[i]? = some a → (∀ j b, l[j]? = some b → j ≠ i → b = 0) → l.sum = a
  | [], i, a, h, _ => by simp at h
  | x :: l, 0, a, h, h0 => by
    simp at h; subst h
    have : l.sum = 0 := by
      rw [List.sum_eq_zero_iff_forall_eq_nat]
      intro b hb
      obtain ⟨j, hj⟩ := List.getElem?_of_mem hb
      exact h0 (j + 1) b (by simpa using hj) (by omega)
    simp [this]
  | x :: l, i + 1, a, h, h0 => by
    have hx := h0 0 x (by simp) (by omega)
    subst hx
    have := sum_at l i a (by simpa using h) (fun j b hj hne => h0 (j + 1) b (by simpa using hj) (by omega))
    simp [this]
theorem lk1_pos {t : List Nd} {i c : Nat} {x : Nd} (hx : t[i]? = some x) : 1 ≤ lk1 c x ↔ Lk t i c := by
  unfold lk1 Lk
  constructor
  · intro h
    refine ⟨x, hx, ?_⟩
    split at h
    · left; assumption
    · split at h
      · right; assumption
      · omega
  · rintro ⟨y, hy, hc⟩
    rw [hx] at hy; injection hy with hy; subst hy
    rcases hc with hc | hc
    · rw [if_pos hc]; omega
    · rw [if_pos hc]; omega
theorem KdS.cnt (h : KdS d t) {c : Nat} (h1 : 1 ≤ c) (h2 : c < t.length) : cntL t c = 1 := by
  obtain ⟨i, hl⟩ := h.one c h1 h2
  obtain ⟨x, hx, hc⟩ := id hl
  refine (sum_at _ i (lk1 c x) (by simp [hx]) fun j b hj hne => ?_).trans ?_
  · rw [List.getElem?_map, Option.map_eq_some_iff] at hj
    obtain ⟨y, hy, rfl⟩ := hj
    apply Classical.byContradiction
    intro h0
    exact hne (h.uniq j i c ((lk1_pos hy).1 (by omega)) hl)
  · have := h.diff i x hx
    unfold lk1
    rcases hc with hc | hc
    · rw [if_pos hc, if_neg (by omega)]
    · rw [if_neg (by omega), if_pos hc]
theorem cnt_uniq (hup : Up t) (hone : ∀ c, 1 ≤ c → c < t.length → cntL t c = 1) : (∀ j, 1 ≤ j → j < t.length → ∃ i, Lk t i j) ∧ (∀ i i' j, Lk t i j → Lk t i' j → i = i') ∧ (∀ (i : Nat) (x : Nd), t[i]? = some x → x.lo = x.hi → x.lo = -1) := by
  refine ⟨fun j h1 h2 => ?_, fun i i' j h1 h2 => ?_, fun i x hx e => ?_⟩
  · apply Classical.byContradiction
    intro hno
    have h0 : cntL t j = 0 := by
      unfold cntL
      rw [List.sum_eq_zero_iff_forall_eq_nat]
      intro b hb
      rw [List.mem_map] at hb
      obtain ⟨y, hy, rfl⟩ := hb
      obtain ⟨i, hi⟩ := List.getElem?_of_mem hy
      apply Classical.byContradiction
      intro h3
      exact hno ⟨i, (lk1_pos hi).1 (by omega)⟩
    have := hone j h1 h2
    omega
  · apply Classical.byContradiction
    intro hne
    have hj := hup.lk h1
    have hc := hone j (by omega) hj.2
    obtain ⟨x, hx, _⟩ := id h1
    obtain ⟨y, hy, _⟩ := id h2
    have a1 := (lk1_pos (c := j) hx).2 h1
    have a2 := (lk1_pos (c := j) hy).2 h2
    have hxm : (t.map (lk1 j))[i]? = some (lk1 j x) := by simp [hx]
    have hym : (t.map (lk1 j))[i']? = some (lk1 j y) := by simp [hy]
    rcases Nat.lt_or_gt_of_ne hne with h | h
    · have := sum_two _ i i' _ _ h hxm hym
      unfold cntL at hc; omega
    · have := sum_two _ i' i _ _ h hym hxm
      unfold cntL at hc; omega
  · apply Classical.byContradiction
    intro hne
    have h1 := (hup i x hx).1
    unfold inR at h1
    have hc := hone x.lo.toNat (by omega) (by omega)
    have hm : lk1 x.lo.toNat x ≤ cntL t x.lo.toNat := mem_le_sum _ _ (List.mem_map.2 ⟨x, List.mem_of_getElem? hx, rfl⟩)
    unfold lk1 at hm
    rw [if_pos (by omega), if_pos (by omega)] at hm
    omega
/-- What the reference knows behind i nodes. -/
structure RefI (d : Nat) (t : List Nd) (i : Nat) (us : List Bool) (cn : List Int) : Prop where
  lu : us.length = t.length
  lc : cn.length = t.length
  ok : ∀ (k : Nat) (x : Nd), k < i → t[k]? = some x → NdOk t.length d k x
  us : ∀ p : Nat, p < t.length → (us[p]? = some true ∧ ∃ (k : Nat) (x : Nd), k < i ∧ t[k]? = some x ∧ x.pt = (p : Nat)) ∨ (us[p]? = some false ∧ ∀ (k : Nat) (x : Nd), k < i → t[k]? = some x → x.pt ≠ (p : Nat))
  pts : ∀ (k k' : Nat) (x y : Nd), k < i → k' < i → t[k]? = some x → t[k']? = some y → x.pt = y.pt → k = k'
  cn : ∀ c : Nat, c < t.length → cn[c]? = some ((cntL (t.take i) c : Nat) : Int)
theorem RefI.start (d : Nat) (t : List Nd) : RefI d t 0 (List.replicate t.length false) (List.replicate t.length 0) :=
  ⟨by simp, by simp, fun _ _ h => absurd h (Nat.not_lt_zero _), fun p hp => .inr ⟨by simp [hp], fun _ _ h => absurd h (Nat.not_lt_zero _)⟩, fun _ _ _ _ h => absurd h (Nat.not_lt_zero _), fun c hc => by simp [hc, cntL]⟩
theorem RefI.used {cn : List Int} (h : RefI d t i us cn) (hx : t[i]? = some x) {p : Nat} (hp : x.pt = (p : Nat)) (hu : us[p]? = some true) : ¬ KdS d t := by
  intro k
  have hp1 := (k.ok i x hx).p1
  rcases h.us p (by omega) with ⟨_, j, y, hj, hy, hyp⟩ | ⟨h1, _⟩
  · have := k.pts j i y x hy hx (by omega)
    omega
  · rw [hu] at h1; cases h1
/-- The counts behind one link more. -/
def cn1 (cn : List Int) (c : Int) : List Int := if c = -1 then cn else cn.set c.toNat ((cn[c.toNat]?.getD 0) + 1)
theorem cn1_len (cn : List Int) (c : Int) : (cn1 cn c).length = cn.length := by unfold cn1; split <;> simp
theorem cn1_get {cn : List Int} {c : Int} {j : Nat} {v : Int} (hj : cn[j]? = some v) (hc : c = -1 ∨ 0 ≤ c) : (cn1 cn c)[j]? = some (v + if c = (j : Nat) then 1 else 0) := by
  have hl := (List.getElem?_eq_some_iff.1 hj).1
  unfold cn1
  split
  · rw [hj, if_neg (by omega), Int.add_zero]
  · by_cases e : c = (j : Nat)
    · rw [if_pos e, show c.toNat = j by omega, List.getElem?_set_self hl, hj]; rfl
    · rw [if_neg e, Int.add_zero, List.getElem?_set_ne (by omega), hj]
theorem RefI.next {cn : List Int} (h : RefI d t i us cn) (hx : t[i]? = some x) (ho : NdOk t.length d i x) (hu : us[x.pt.toNat]? = some false) : RefI d t (i + 1) (us.set x.pt.toNat true) (cn1 (cn1 cn x.lo) x.hi) := by
  have hnot : ∀ (p : Nat), p < i + 1 → ¬ p = i → p < i := fun p h1 h2 => by omega
  have hol := ho.lo
  have hoh := ho.hi
  unfold inR at hol hoh
  refine ⟨by simp [h.lu], by rw [cn1_len, cn1_len]; exact h.lc, ?_, ?_, ?_, ?_⟩
  · intro k y hk hy
    by_cases e : k = i
    · subst e; rw [hx] at hy; injection hy with hy; subst hy; exact ho
    · exact h.ok k y (hnot k hk e) hy
  · intro p hp
    have h0 := ho.p0
    by_cases e : x.pt = (p : Nat)
    · refine .inl ⟨?_, i, x, by omega, hx, e⟩
      rw [show x.pt.toNat = p by omega, List.getElem?_set_self (by rw [h.lu]; exact hp)]
    · rw [List.getElem?_set_ne (by omega)]
      rcases h.us p hp with ⟨h1, k, y, hk, hy, hyp⟩ | ⟨h1, h2⟩
      · exact .inl ⟨h1, k, y, by omega, hy, hyp⟩
      · refine .inr ⟨h1, fun k y hk hy => ?_⟩
        by_cases e2 : k = i
        · subst e2; rw [hx] at hy; injection hy with hy; subst hy; exact e
        · exact h2 k y (hnot k hk e2) hy
  · have key : ∀ k y, k < i → t[k]? = some y → x.pt = y.pt → False := fun k y hk hy e => by
      have h0 := ho.p0
      have h1 := ho.p1
      rcases h.us x.pt.toNat (by omega) with ⟨h2, _⟩ | ⟨_, h2⟩
      · rw [hu] at h2; cases h2
      · exact h2 k y hk hy (by omega)
    intro k k' y z hk hk' hy hz e
    by_cases e1 : k = i
    · by_cases e2 : k' = i
      · omega
      · exfalso
        subst e1; rw [hx] at hy; injection hy with hy; subst hy
        exact key k' z (hnot k' hk' e2) hz e
    · by_cases e2 : k' = i
      · exfalso
        subst e2; rw [hx] at hz; injection hz with hz; subst hz
        exact key k y (hnot k hk e1) hy e.symm
      · exact h.pts k k' y z (hnot k hk e1) (hnot k' hk' e2) hy hz e
  · intro c hc
    have e : t.take (i + 1) = t.take i ++ [x] := by rw [List.take_add_one, hx]; rfl
    rw [e, cntL_snoc, cn1_get (cn1_get (h.cn c hc) (by omega)) (by omega)]
    unfold lk1
    congr 1
    split <;> split <;> simp <;> omega
/-- All nodes are counted. -/
theorem RefI.fin {cn : List Int} (h : RefI d t t.length us cn) (h1 : ∀ c, 1 ≤ c → c < t.length → cn[c]? = some 1) : KdS d t := by
  have hget : ∀ i y, t[i]? = some y → i < t.length := fun i y hx => (List.getElem?_eq_some_iff.1 hx).1
  have hup : Up t := fun i x hx => ⟨(h.ok i x (hget i x hx) hx).lo, (h.ok i x (hget i x hx) hx).hi⟩
  obtain ⟨k1, k2, k3⟩ := cnt_uniq hup fun c a b => by
    have := h.cn c b
    rw [h1 c a b, List.take_length] at this
    injection this with this
    omega
  exact ⟨fun i x hx => h.ok i x (hget i x hx) hx, fun i j x y hx hy e => h.pts i j x y (hget i x hx) (hget j y hy) hx hy e, k1, k2, k3⟩
theorem RefI.not {cn : List Int} (h : RefI d t t.length us cn) {c : Nat} (h1 : 1 ≤ c) (h2 : c < t.length) {v : Int} (hv : cn[c]? = some v) (hne : v ≠ 1) : ¬ KdS d t := fun k => by
  have := h.cn c h2
  rw [hv, List.take_length, k.cnt h1 h2] at this
  injection this with this
  exact hne this
end Go.Proofs.Ng
end

section
/-
  Walks: parents: rows of numbers and of truth values; what the walk keeps.
-/
namespace Go.Proofs.Ng
open Go.RowKit

def bls (l : List Bool) : List Value := l.map fun b => .bool b
theorem bls_get {l : List Bool} {k : Nat} {b : Bool} (h : l[k]? = some b) : (bls l)[k]? = some (.bool b) := by simp [bls, h]
theorem bls_set (l : List Bool) (k : Nat) (b : Bool) : (bls l).set k (.bool b) = bls (l.set k b) := by simp [bls, List.map_set]
theorem pfl_get {l : List Int} {k : Nat} {x : Int} (h : l[k]? = some x) : (pflat l)[k]? = some (.int .i64 x) := by simp [pflat, h]
theorem pfl_set (l : List Int) (k : Nat) (x : Int) : (pflat l).set k (.int .i64 x) = pflat (l.set k x) := by simp [pflat, List.map_set]
theorem made_zero (n : Nat) : madeCells #[Value.int .i64 0] n = (pflat (List.replicate n 0)).toArray := by
  apply Array.ext
  · simp [madeCells, pflat]
  · intro i h1 h2
    simp [madeCells, Nat.mod_one, pflat]
theorem made_false (n : Nat) : madeCells #[Value.bool false] n = (bls (List.replicate n false)).toArray := by
  apply Array.ext
  · simp [madeCells, bls]
  · intro i h1 h2
    simp [madeCells, Nat.mod_one, bls]
theorem info4 : (Tryz.prog.info? 4).map (fun i => (i.zero, i.size, i.bytes)) = some (some (.bool false), 1, 1) := by kernel_rfl
theorem under44 : Tryz.prog.underlying 38 = some (.slice 4) := by kernel_rfl
theorem run_make24 (n : Nat) (hn : n ≤ 100000) (u : World) : (Instr.makeSlice 29 (.int .i64 (n : Nat)) (.int .i64 (n : Nat))).run Tryz.prog u = .ok (.slice (some ⟨u.heap.size, 0, none⟩) n n) (u.alloc (.cells (pflat (List.replicate n 0)).toArray 3)) := by
  obtain ⟨i, hi, hz, hs, hb⟩ := info_parts info3
  have := run_makeSlice (P := Tryz.prog) u 29 3 i (.int .i64 0) under24 hi hz .i64 .i64 n n (by omega) (Int.le_refl _) (by rw [hs]; simp; omega) (by rw [hb]; simp; omega) (by omega)
  rw [hs] at this
  simp only [Int.toNat_natCast, Nat.mul_one] at this
  have hc : madeCells (Value.int .i64 0).cells n = (pflat (List.replicate n 0)).toArray := made_zero n
  rw [this, hc]
theorem run_make44 (n : Nat) (hn : n ≤ 100000) (u : World) : (Instr.makeSlice 38 (.int .i64 (n : Nat)) (.int .i64 (n : Nat))).run Tryz.prog u = .ok (.slice (some ⟨u.heap.size, 0, none⟩) n n) (u.alloc (.cells (bls (List.replicate n false)).toArray 4)) := by
  obtain ⟨i, hi, hz, hs, hb⟩ := info_parts info4
  have := run_makeSlice (P := Tryz.prog) u 38 4 i (.bool false) under44 hi hz .i64 .i64 n n (by omega) (Int.le_refl _) (by rw [hs]; simp; omega) (by rw [hb]; simp; omega) (by omega)
  rw [hs] at this
  simp only [Int.toNat_natCast, Nat.mul_one] at this
  have hc : madeCells (Value.bool false).cells n = (bls (List.replicate n false)).toArray := made_false n
  rw [this, hc]
/-- The first k are -1, the others nought. -/
def negL (n k : Nat) : List Int := (List.range n).map fun i => if i < k then -1 else 0
theorem negL_len (n k : Nat) : (negL n k).length = n := by simp [negL]
theorem negL_zero (n : Nat) : negL n 0 = List.replicate n 0 := by
  apply List.ext_getElem
  · simp [negL]
  · intro i h1 h2; simp [negL]
theorem negL_all (n : Nat) : negL n n = List.replicate n (-1) := by
  apply List.ext_getElem
  · simp [negL]
  · intro i h1 h2; simp [negL] at h1 ⊢; omega
theorem negL_set (n k : Nat) : (negL n k).set k (-1) = negL n (k + 1) := by
  apply List.ext_getElem
  · simp [negL]
  · intro i h1 h2
    simp only [negL, List.getElem_set, List.getElem_map, List.getElem_range]
    by_cases e : k = i
    · subst e; simp
    · rw [if_neg e]
      by_cases h3 : i < k
      · rw [if_pos h3, if_pos (by omega)]
      · rw [if_neg h3, if_neg (by omega)]
/-- Boxes that a call makes first. -/
theorem boxes1 (w : World) (a : List Value) (s : TypeId) : Row (w.alloc (.cells a.toArray s)) w.heap.size a ∧ Below w.heap.size w (w.alloc (.cells a.toArray s)) :=
  ⟨Row.new w a s, (Below.refl _ _).alloc (Nat.le_refl _) _⟩
theorem boxes2 (w : World) (a b : List Value) (s t : TypeId) : Row ((w.alloc (.cells a.toArray s)).alloc (.cells b.toArray t)) w.heap.size a ∧ Row ((w.alloc (.cells a.toArray s)).alloc (.cells b.toArray t)) (w.heap.size + 1) b ∧
    Below w.heap.size w ((w.alloc (.cells a.toArray s)).alloc (.cells b.toArray t)) := by
  have e : (w.alloc (.cells a.toArray s)).heap.size = w.heap.size + 1 := by simp
  have r := Row.new (w.alloc (.cells a.toArray s)) b t
  rw [e] at r
  exact ⟨(Row.new w a s).al _, r, ((Below.refl _ _).alloc (Nat.le_refl _) _).alloc (by simp) _⟩
theorem boxes3 (w : World) (a b c : List Value) (s t u : TypeId) : Row (((w.alloc (.cells a.toArray s)).alloc (.cells b.toArray t)).alloc (.cells c.toArray u)) w.heap.size a ∧ Row (((w.alloc (.cells a.toArray s)).alloc (.cells b.toArray t)).alloc (.cells c.toArray u)) (w.heap.size + 1) b ∧
    Row (((w.alloc (.cells a.toArray s)).alloc (.cells b.toArray t)).alloc (.cells c.toArray u)) (w.heap.size + 1 + 1) c ∧ Below w.heap.size w (((w.alloc (.cells a.toArray s)).alloc (.cells b.toArray t)).alloc (.cells c.toArray u)) := by
  obtain ⟨h1, h2, h3⟩ := boxes2 w a b s t
  have e : ((w.alloc (.cells a.toArray s)).alloc (.cells b.toArray t)).heap.size = w.heap.size + 1 + 1 := by simp
  have r := Row.new ((w.alloc (.cells a.toArray s)).alloc (.cells b.toArray t)) c u
  rw [e] at r
  exact ⟨h1.al _, h2.al _, r, h3.alloc (by simp; omega) _⟩
theorem Blk.al {W : World} {b : Nat} {l : List Value} (h : Blk W b l) (o : Obj) : Blk (W.alloc o) b l := h.keep ((Below.refl _ _).alloc (Nat.le_refl _) _)
/-- Blocks that a call makes first. -/
theorem blks1 (w : World) (a : List Value) (s : TypeId) : Blk (w.alloc (.cells a.toArray s)) w.heap.size a ∧ Below w.heap.size w (w.alloc (.cells a.toArray s)) :=
  ⟨Blk.new w a s, (Below.refl _ _).alloc (Nat.le_refl _) _⟩
theorem blks2 (w : World) (a b : List Value) (s t : TypeId) : Blk ((w.alloc (.cells a.toArray s)).alloc (.cells b.toArray t)) w.heap.size a ∧ Blk ((w.alloc (.cells a.toArray s)).alloc (.cells b.toArray t)) (w.heap.size + 1) b ∧
    Below w.heap.size w ((w.alloc (.cells a.toArray s)).alloc (.cells b.toArray t)) := by
  have e : (w.alloc (.cells a.toArray s)).heap.size = w.heap.size + 1 := by simp
  have r := Blk.new (w.alloc (.cells a.toArray s)) b t
  rw [e] at r
  exact ⟨(Blk.new w a s).al _, r, ((Below.refl _ _).alloc (Nat.le_refl _) _).alloc (by simp) _⟩
theorem blks3 (w : World) (a b c : List Value) (s t u : TypeId) : Blk (((w.alloc (.cells a.toArray s)).alloc (.cells b.toArray t)).alloc (.cells c.toArray u)) w.heap.size a ∧ Blk (((w.alloc (.cells a.toArray s)).alloc (.cells b.toArray t)).alloc (.cells c.toArray u)) (w.heap.size + 1) b ∧
    Blk (((w.alloc (.cells a.toArray s)).alloc (.cells b.toArray t)).alloc (.cells c.toArray u)) (w.heap.size + 1 + 1) c ∧ Below w.heap.size w (((w.alloc (.cells a.toArray s)).alloc (.cells b.toArray t)).alloc (.cells c.toArray u)) := by
  obtain ⟨h1, h2, h3⟩ := blks2 w a b s t
  have e : ((w.alloc (.cells a.toArray s)).alloc (.cells b.toArray t)).heap.size = w.heap.size + 1 + 1 := by simp
  have r := Blk.new ((w.alloc (.cells a.toArray s)).alloc (.cells b.toArray t)) c u
  rw [e] at r
  exact ⟨h1.al _, h2.al _, r, h3.alloc (by simp; omega) _⟩
/-- Two new blocks. -/
structure Two (w W : World) (g h : Nat) (la lb : List Value) : Prop where
  a : Blk W g la
  b : Blk W h lb
  bel : Below w.heap.size w W
  ne : g ≠ h
  lg : w.heap.size ≤ g
  lh : w.heap.size ≤ h
theorem Two.keep {w W W' : World} {g h : Nat} {la lb : List Value} (k : Two w W g h la lb) (hb : Below W.heap.size W W') : Two w W' g h la lb := ⟨k.a.keep hb, k.b.keep hb, below_call k.bel hb, k.ne, k.lg, k.lh⟩
theorem Two.putA {w W : World} {g h : Nat} {la lb : List Value} (k : Two w W g h la lb) (i : Nat) (v : Value) : Two w (W.setCell ⟨g, i, none⟩ v) g h (la.set i v) lb := ⟨k.a.put i v, k.b.keepG (grown_set W g i v) (fun e => k.ne e.symm), k.bel.setCell (p := ⟨g, i, none⟩) k.lg _, k.ne, k.lg, k.lh⟩
theorem Two.putB {w W : World} {g h : Nat} {la lb : List Value} (k : Two w W g h la lb) (i : Nat) (v : Value) : Two w (W.setCell ⟨h, i, none⟩ v) g h la (lb.set i v) := ⟨k.a.keepG (grown_set W h i v) k.ne, k.b.put i v, k.bel.setCell (p := ⟨h, i, none⟩) k.lh _, k.ne, k.lg, k.lh⟩
/-- The children that have been looked at. -/
def abK (ab : List Int) (i : Nat) (ch : List Int) (k : Nat) : List Int := (ch.take k).foldl (fun a c => ab1 a i c) ab
theorem abK_zero (ab : List Int) (i : Nat) (ch : List Int) : abK ab i ch 0 = ab := rfl
theorem abK_succ {ab : List Int} {i : Nat} {ch : List Int} {k : Nat} {c : Int} (h : ch[k]? = some c) : abK ab i ch (k + 1) = ab1 (abK ab i ch k) i c := by
  unfold abK; rw [List.take_add_one, h]; simp
theorem abK_len (ab : List Int) (i : Nat) (ch : List Int) (k : Nat) : (abK ab i ch k).length = ab.length := by
  unfold abK
  generalize ch.take k = l
  induction l generalizing ab with
  | nil => rfl
  | cons a r ih => rw [List.foldl_cons, ih, ab1_len]
def ChOk (n i : Nat) (ab ch : List Int) (k : Nat) : Prop := ∀ (j : Nat) (c : Int), j < k → ch[j]? = some c → inR i n c ∧ (c ≠ -1 → (abK ab i ch j)[c.toNat]? = some (-1))
theorem ChOk.next {n i : Nat} {ab ch : List Int} {k : Nat} {c : Int} (h : ChOk n i ab ch k) (hc : ch[k]? = some c) (h1 : inR i n c) (h2 : c ≠ -1 → (abK ab i ch k)[c.toNat]? = some (-1)) : ChOk n i ab ch (k + 1) := by
  intro j c' hj hc'
  by_cases e : j = k
  · subst e; rw [hc] at hc'; injection hc' with hc'; subst hc'; exact ⟨h1, h2⟩
  · exact h j c' (by omega) hc'
theorem child_low {ch : List Int} {lo hi : Int} {k : Nat} {c : Int} (hch : ch = [lo, hi]) (hc : ch[k]? = some c) : (k = 0 ∧ c = lo) ∨ (k = 1 ∧ c = hi) := by
  subst hch
  rcases k with _ | _ | k
  · simp at hc; exact .inl ⟨rfl, hc.symm⟩
  · simp at hc; exact .inr ⟨rfl, hc.symm⟩
  · simp at hc
variable {d : Nat} {t : List Nd} {i : Nat} {ab : List Int} {us : List Bool} {x : Nd}
/-- A child that has another node above it, or is out of range. -/
theorem child_out {k : Nat} {c : Int} (hx : t[i]? = some x) (hc : [x.lo, x.hi][k]? = some c) (h : ¬ inR i t.length c) : ¬ KdS d t := fun hK => by
  have ho := hK.ok i x hx
  rcases child_low rfl hc with ⟨_, rfl⟩ | ⟨_, rfl⟩
  · exact h ho.lo
  · exact h ho.hi
theorem child_two (h : ParI d t i ab us) {k : Nat} {c v : Int} (hx : t[i]? = some x) (hc : [x.lo, x.hi][k]? = some c) (hr : inR i t.length c) (hc1 : c ≠ -1) (hv : (abK ab i [x.lo, x.hi] k)[c.toNat]? = some v) (hv1 : v ≠ -1) : ¬ KdS d t := by
  unfold inR at hr
  have hlt : c.toNat < t.length := by omega
  rcases child_low rfl hc with ⟨rfl, rfl⟩ | ⟨rfl, rfl⟩
  · exact h.two hlt hv hv1 ⟨x, hx, .inl (by omega)⟩
  · by_cases e : x.lo = x.hi
    · exact fun hK => hc1 (by have := hK.diff i x hx e; omega)
    · have e1 : abK ab i [x.lo, x.hi] 1 = ab1 ab i x.lo := by rw [abK_succ (k := 0) rfl]; rfl
      rw [e1] at hv
      unfold ab1 at hv
      split at hv
      · exact h.two hlt hv hv1 ⟨x, hx, .inr (by omega)⟩
      · rw [List.getElem?_set] at hv
        split at hv
        · rename_i h1
          exact fun hK => by have := (hK.ok i x hx).lo; unfold inR at this; omega
        · exact h.two hlt hv hv1 ⟨x, hx, .inr (by omega)⟩
theorem abK_two (ab : List Int) (i : Nat) (a b : Int) : abK ab i [a, b] 2 = ab1 (ab1 ab i a) i b := rfl
/-- What parents answers. -/
def ParP (d : Nat) (t : List Nd) (w : World) (e : Ending) (W' : World) : Prop := Below w.heap.size w W' ∧
  ((¬ KdS d t ∧ e = .returned (.tuple #[.slice none 0 0, .bool false])) ∨ ∃ (g : Nat) (ab : List Int), KdS d t ∧ e = .returned (.tuple #[.slice (some ⟨g, 0, none⟩) t.length t.length, .bool true]) ∧ w.heap.size ≤ g ∧ Blk W' g (pflat ab) ∧ ∀ c : Nat, c < t.length → (ab[c]? = some (-1) ∧ c = 0) ∨ ∃ p : Nat, ab[c]? = some ((p : Nat) : Int) ∧ Lk t p c)
end Go.Proofs.Ng
end

section
/-
  Walks: Build.
-/
namespace Go.Proofs.Ng
open Go.RowKit

theorem catch24 (p : Addr) (w : World) :
    CallsD Tryz.prog 27 #[.pointer (some p)] .returning w fun e u' w' => e = .returned (.tuple #[]) ∧ u' = .returning ∧ w' = w := by
  refine callsD_of_wpS Tryz.func27 rfl fun c₀ cs hu => ?_
  apply wpS_seq
  apply wpS_region
  simp [wpOpsS, go_sem, recoverD, hu, Tryz.ntmps27, Exit.thenS]
  refine wpS_cond (t := false) (by simp [Act.eval, Array.replicate]) ?_
  simp only [Bool.false_eq_true, if_false]
  refine wpS_of_wp (wp_skip ?_)
  cases c₀
  simp_all [bodyPostS, results, Tryz.results27]
/-- The first k are their places, the others nought. -/
def upL (n k : Nat) : List Nat := (List.range n).map fun i => if i < k then i else 0
theorem upL_len (n k : Nat) : (upL n k).length = n := by simp [upL]
theorem upL_zero (n : Nat) : cvs (upL n 0) = pflat (List.replicate n 0) := by
  apply List.ext_getElem
  · simp [upL, cvs, pflat]
  · intro i h1 h2; simp [upL, cvs, pflat]
theorem upL_all (n : Nat) : upL n n = List.range n := by
  apply List.ext_getElem
  · simp [upL]
  · intro i h1 h2; simp [upL] at h1 ⊢; omega
theorem upL_set (n k : Nat) (h : k < n) : (cvs (upL n k)).set k (.int .i64 (k : Nat)) = cvs (upL n (k + 1)) := by
  apply List.ext_getElem
  · simp [upL, cvs]
  · intro i h1 h2
    simp only [upL, cvs, List.getElem_set, List.getElem_map, List.getElem_range]
    by_cases e : k = i
    · subst e; simp
    · rw [if_neg e]
      by_cases h3 : i < k
      · rw [if_pos h3, if_pos (by omega)]
      · rw [if_neg h3, if_neg (by omega)]
set_option maxRecDepth 100000 in
set_option maxHeartbeats 4000000 in
theorem build11 (oa : Option Addr) (ca : Nat) (pts : List (List Int)) (w : World) (hP : Pts w oa pts) :
    Calls Tryz.prog 12 #[.slice oa pts.length ca] w (NodesP (buildP pts) w) := by
  have hmf : ∀ (fn : Fn) (first cap : Array Value) (w : World), (Instr.makeFunc fn first cap).run Tryz.prog w = .ok (.func fn first cap) w := fun _ _ _ _ => rfl
  have hsf : ∀ (a : Addr) (fn : Fn) (x y : Array Value) (u : World), (store a (.func fn x y)).run Tryz.prog u = stored Tryz.prog u a (.func fn x y) .plain := fun a fn x y u => run_store Tryz.prog u a (.func fn x y) .plain rfl
  have h25 := fun X hX => validPoints25 oa ca pts X (hP.keep hX)
  have HPP := Lib.hid hP
  clear hP
  by_cases hv : vpB pts = true
  · have hbp : buildP pts = (growP pts pts.length [] (List.range pts.length) 0).1 := by unfold buildP; rw [if_pos hv]
    obtain ⟨hp1024, -⟩ := vp_dim hv
    rw [hv] at h25
    have HV := Lib.hid hv
    have HB25 := Lib.hid h25
    rw [hbp]
    clear h25 hbp hv
    go_enter_defers Tryz.func12, Tryz.ntmps12
    go_upto_region 2 with fail
    have hbx_ := blks2 w [.slice oa pts.length ca] [.slice none 0 0] 26 27
    have HB := Lib.hid (hbx_.2.2)
    have hod : w.heap.size ≤ w.heap.size ∧ w.heap.size < w.heap.size + 1 := by omega
    generalize (w.alloc (.cells #[.slice oa pts.length ca] 26)).alloc (.cells #[.slice none 0 0] 27) = W1 at hbx_ HB ⊢
    obtain ⟨r1, r2, hbel_⟩ := hbx_
    generalize w.heap.size + 1 = b2 at r2 hod ⊢
    obtain ⟨b1, hn_⟩ : ∃ n, n = w.heap.size := ⟨_, rfl⟩
    rw [← hn_] at r1 ⊢
    replace hod := And.intro (Nat.le_of_eq hn_.symm) (hn_ ▸ hod.2)
    clear hn_ hbel_
    have HO1 : Hid (w.heap.size ≤ b1 ∧ w.heap.size ≤ b2 ∧ b1 ≠ b2) := Lib.hid (by omega)
    clear hod
    have a0 : W1.cell? ⟨b1, 0, none⟩ = some (.slice oa pts.length ca) := r1.c 0 _ rfl
    have l1 := r1.lt
    have H25 := Lib.hid (HB25.out W1 HB.out)
    have HR1 := Lib.hid r1
    have HR2 := Lib.hid r2
    have r2l := r2.lt
    have hmk := run_make24 pts.length (by omega)
    clear r1 r2
    go_wp2_with fail
    with_reducible refine H25.out.mono ?_
    rintro e W2 ⟨rfl, rfl⟩
    go_wp2_with fail
    clear hmk
    have hS : Blk (W2.alloc (.cells (pflat (List.replicate pts.length 0)).toArray 3)) W2.heap.size (cvs (upL pts.length 0)) := by rw [upL_zero]; exact Blk.new W2 _ 3
    have hb1 : Below W2.heap.size W2 (W2.alloc (.cells (pflat (List.replicate pts.length 0)).toArray 3)) := (Below.refl _ _).alloc (Nat.le_refl _) _
    have HR1 := Lib.hid (HR1.out.keep hb1)
    have HR2 := Lib.hid (HR2.out.keep hb1)
    have HB2 := Lib.hid (below_call HB.out hb1)
    have HSL : Hid (w.heap.size ≤ W2.heap.size ∧ b1 ≠ W2.heap.size ∧ b2 ≠ W2.heap.size) := Lib.hid ⟨HB.out.size, by omega, by have := r2l; omega⟩
    generalize (W2.alloc (.cells (pflat (List.replicate pts.length 0)).toArray 3)) = W3 at hS HR1 HR2 HB2 ⊢
    generalize W2.heap.size = gS at hS HSL ⊢
    clear hb1 a0 l1 r2l HB H25
    go_loopw [15] (fun i W => ∃ k : Nat, i = .int .i64 (k : Nat) ∧ k ≤ pts.length ∧ Blk W gS (cvs (upL pts.length k)) ∧ Blk W b1 [.slice oa pts.length ca] ∧ Blk W b2 [.slice none 0 0] ∧ Below w.heap.size w W) (fun i _ => pts.length - (intOf i).toNat)
    case atStart => exact ⟨0, rfl, Nat.zero_le _, hS, HR1.out, HR2.out, HB2.out⟩
    case round =>
      clear hS HR1 HR2 HB2
      obtain ⟨k, rfl, hk, hS, r1, r2, hB⟩ := hrel
      obtain ⟨Wb, rfl⟩ : ∃ X, X = wr := ⟨_, rfl⟩
      by_cases hlt : k < pts.length
      · obtain ⟨u, hu⟩ : ∃ u, (upL pts.length k)[k]? = some u := ⟨_, List.getElem?_eq_getElem (by rw [upL_len]; exact hlt)⟩
        have x0 : Wb.cell? ⟨gS, k, none⟩ = some (.int .i64 (u : Nat)) := hS.c k _ (cvs_get hu)
        have f0 := hS.f k
        have ls := hS.lt
        have hS2 := hS.put k (.int .i64 (k : Nat))
        rw [upL_set pts.length k hlt] at hS2
        have HS2 := Lib.hid hS2
        have HR1 := Lib.hid (r1.keepG (grown_set Wb gS k (.int .i64 (k : Nat))) HSL.out.2.1)
        have HR2 := Lib.hid (r2.keepG (grown_set Wb gS k (.int .i64 (k : Nat))) HSL.out.2.2)
        have HB2 := Lib.hid (hB.setCell (p := ⟨gS, k, none⟩) HSL.out.1 (.int .i64 (k : Nat)))
        clear hS hS2 r1 r2 hB hu
        go_wp2_with fail
        go_roundw
        case rel => exact ⟨k + 1, by simp, by omega, HS2.out, HR1.out, HR2.out, HB2.out⟩
        case measure => simp [intOf]; omega
      · have hke : k = pts.length := by omega
        subst hke
        rw [upL_all] at hS
        have l1 := r1.lt
        have l2 := r2.lt
        have ls := hS.lt
        have HS := Lib.hid hS
        have HR1 := Lib.hid r1
        have HR2 := Lib.hid r2
        have HB := Lib.hid hB
        clear hS r1 r2 hB
        go_upto_region 12 with fail
        have hal : Below Wb.heap.size Wb (Wb.alloc (.cells #[growV b1 b2 Wb.heap.size] 53)) := (Below.refl _ _).alloc (Nat.le_refl _) _
        have r5 := Blk.new Wb [growV b1 b2 Wb.heap.size] 53
        have hsz : (Wb.alloc (.cells #[growV b1 b2 Wb.heap.size] 53)).heap.size = Wb.heap.size + 1 := by simp
        have hpl : Pl w (Wb.heap.size + 1) b1 b2 Wb.heap.size gS := by
          obtain ⟨o1, o2, o3⟩ := HO1.out
          obtain ⟨o4, o5, o6⟩ := HSL.out
          have := HB.out.size
          exact ⟨by omega, by omega, by omega, by omega, o3, by omega, o5, by omega, o6, by omega⟩
        have hG : GW w (Wb.heap.size + 1) b1 b2 Wb.heap.size gS oa pts.length ca (List.range pts.length) [] (.slice none 0 0) (Wb.alloc (.cells #[growV b1 b2 Wb.heap.size] 53)) :=
          ⟨below_call HB.out hal, HR1.out.keep hal, HR2.out.keep hal, r5, World.ownsRow_nil _ _ _ _, HS.out.keep hal, by rw [hsz]; exact Nat.le_refl _⟩
        have hgr := grow26 HPP.out HV.out hpl pts.length 0 pts.length 0 pts.length (List.range pts.length) [] (.slice none 0 0) _ (Nat.le_refl _) (by simp) (by omega) (by simp; omega) (Nat.le_refl _) (by simp; omega) (fun x hx => List.mem_range.1 hx) hG
        rw [List.drop_zero, List.take_of_length_le (by simp), show (((0 : Nat) : Int)) = 0 from rfl] at hgr
        have HPL := Lib.hid hpl
        have HSZ : Hid (w.heap.size ≤ Wb.heap.size + 1) := Lib.hid (by have := HB.out.size; omega)
        have x5 : (Wb.alloc (.cells #[growV b1 b2 Wb.heap.size] 53)).cell? ⟨Wb.heap.size, 0, none⟩ = some (growV b1 b2 Wb.heap.size) := r5.c 0 _ rfl
        have l5 := r5.lt
        unfold growV at x5 l5 hgr
        change Code.wp _ _ _ _ (Wb.alloc (.cells #[.func (.func 29) #[] #[.pointer (some ⟨b1, 0, none⟩), .pointer (some ⟨b2, 0, none⟩), .pointer (some ⟨Wb.heap.size, 0, none⟩)]] 53))
        clear hG hpl r5 hsz hal HS HR1 HR2 HB ls l1 l2
        generalize (Wb.alloc (.cells #[.func (.func 29) #[] #[.pointer (some ⟨b1, 0, none⟩), .pointer (some ⟨b2, 0, none⟩), .pointer (some ⟨Wb.heap.size, 0, none⟩)]] 53)) = W6 at x5 l5 hgr ⊢
        generalize Wb.heap.size = b5 at *
        obtain ⟨R, hR⟩ : ∃ R, R = growP pts pts.length [] (List.range pts.length) 0 := ⟨_, rfl⟩
        rw [← hR] at hgr
        have HRR := Lib.hid hR
        clear hR
        have HGR := Lib.hid hgr
        clear hgr
        go_wp2_with fail
        with_reducible refine HGR.out.mono ?_
        rintro e W7 ⟨c', v', rfl, hG, -, -, -⟩
        have x2 : W7.cell? ⟨b2, 0, none⟩ = some v' := hG.k2.c 0 _ rfl
        have f2 := hG.k2.f 0
        have l2 := hG.k2.lt
        obtain ⟨o1, o2, o3⟩ := HO1.out
        have hown : (W7.setCell ⟨b2, 0, none⟩ v').ownsRow w.heap.size 57 4 v' R.1.length (nflat R.1) := own_base (own_blk hG.own fun g _ _ hb => Below.heap_setCell W7 ⟨b2, 0, none⟩ v' g (show g ≠ b2 by have := HPL.out.p2; omega)) HSZ.out
        have hbel : Below w.heap.size w (W7.setCell ⟨b2, 0, none⟩ v') := hG.bel.setCell (p := ⟨b2, 0, none⟩) o2 _
        have HF := Lib.hid (own_nodes hown hbel)
        have hla : (W7.setCell ⟨b2, 0, none⟩ v').cell? ⟨b2, 0, none⟩ = some v' := World.cell?_setCell_same W7 ⟨b2, 0, none⟩ _ x2
        obtain ⟨tb, ct, rfl, -⟩ := own_rows (rows := R.1.map Nd.vals) (nd_four R.1) (by rw [List.length_map]; exact hG.own)
        rw [List.length_map] at *
        clear hG hown hbel
        go_wp2_with fail
        refine leaves_cons (f := 27) (args := #[.pointer (some ⟨b2, 0, none⟩)]) (by simp) (by simp [go_sem]) ?_
        refine (catch24 _ _).mono ?_
        rintro e u' w'' ⟨rfl, rfl, rfl⟩
        simp [Leaves, settle, results, Tryz.results12, go_sem, hla]
        rw [← HRR.out]
        exact HF.out
  · have hv' : vpB pts = false := by simpa using hv
    have hbp : buildP pts = [] := by unfold buildP; rw [if_neg hv]
    rw [hbp]
    rw [hv'] at h25
    have HB25 := Lib.hid h25
    clear h25 hv hv' hbp
    go_enter_defers Tryz.func12, Tryz.ntmps12
    go_upto_region 2 with fail
    have hbx_ := blks2 w [.slice oa pts.length ca] [.slice none 0 0] 26 27
    have HB := Lib.hid (hbx_.2.2)
    have hod : w.heap.size ≤ w.heap.size ∧ w.heap.size < w.heap.size + 1 := by omega
    generalize (w.alloc (.cells #[.slice oa pts.length ca] 26)).alloc (.cells #[.slice none 0 0] 27) = W1 at hbx_ HB ⊢
    obtain ⟨r1, r2, hbel_⟩ := hbx_
    generalize w.heap.size + 1 = b2 at r2 hod ⊢
    obtain ⟨b1, hn_⟩ : ∃ n, n = w.heap.size := ⟨_, rfl⟩
    rw [← hn_] at r1 ⊢
    replace hod := And.intro (Nat.le_of_eq hn_.symm) (hn_ ▸ hod.2)
    clear hn_ hbel_
    have HO1 : Hid (w.heap.size ≤ b1 ∧ w.heap.size ≤ b2 ∧ b1 ≠ b2) := Lib.hid (by omega)
    clear hod
    have a0 : W1.cell? ⟨b1, 0, none⟩ = some (.slice oa pts.length ca) := r1.c 0 _ rfl
    have b0 : W1.cell? ⟨b2, 0, none⟩ = some (.slice none 0 0) := r2.c 0 _ rfl
    have l1 := r1.lt
    have l2 := r2.lt
    have f2 := r2.f 0
    have H25 := Lib.hid (HB25.out W1 HB.out)
    clear r1 r2
    go_wp2_with fail
    with_reducible refine H25.out.mono ?_
    rintro e W2 ⟨rfl, rfl⟩
    go_wp2_with fail
    have hla : (W2.setCell ⟨b2, 0, none⟩ (.slice none 0 0)).cell? ⟨b2, 0, none⟩ = some (.slice none 0 0) := World.cell?_setCell_same W2 ⟨b2, 0, none⟩ _ b0
    refine leaves_cons (f := 27) (args := #[.pointer (some ⟨b2, 0, none⟩)]) (by simp) (by simp [go_sem]) ?_
    refine (catch24 _ _).mono ?_
    rintro e u' w'' ⟨rfl, rfl, rfl⟩
    simp [Leaves, settle, results, Tryz.results12, go_sem, hla]
    exact ⟨none, 0, rfl, Nat.le_refl _, fun h => absurd rfl h, HB.out.setCell (p := ⟨b2, 0, none⟩) HO1.out.2.1 _, fun a h => by cases h⟩
end Go.Proofs.Ng
end

section
/-
  Distances: the plain sum; walks: the code's.
-/
namespace Go.Proofs.Ng
open Go.RowKit

def wt (js : List JV) (k : Nat) : Int := (js[k]?.map JV.weight).getD 0
def at0 (q : List Int) (k : Nat) : Int := (q[k]?).getD 0
def gapA (x : Int) : Int := max x (-x)
theorem gapA_nn (x : Int) : 0 ≤ gapA x := by unfold gapA; omega
/-- The sum of the first m gaps. -/
def dsum (js : List JV) (q x : List Int) : Nat → Int
  | 0 => 0
  | m + 1 => dsum js q x m + wt js m * gapA (at0 q m - at0 x m)
def dst (js : List JV) (q x : List Int) : Int := dsum js q x x.length
/-- Numbers that do not overflow. -/
structure Tame (js : List JV) (q : List Int) : Prop where
  w : ∀ (k : Nat) (j : JV), js[k]? = some j → 1 ≤ j.weight ∧ j.weight ≤ 1024
  q : ∀ (k : Nat) (x : Int), q[k]? = some x → -2147483648 ≤ x ∧ x ≤ 2147483648
  len : js.length ≤ 10
theorem gap_bd {a b : Int} (ha : -2147483648 ≤ a ∧ a ≤ 2147483648) (hb : -2147483648 ≤ b ∧ b ≤ 2147483648) : 0 ≤ gapA (a - b) ∧ gapA (a - b) ≤ 4294967296 := by unfold gapA; omega
theorem at0_some {q : List Int} {k : Nat} {x : Int} (h : q[k]? = some x) : at0 q k = x := by simp [at0, h]
theorem wt_some {js : List JV} {k : Nat} {j : JV} (h : js[k]? = some j) : wt js k = j.weight := by simp [wt, h]
theorem term_bd {w g : Int} (h1 : 1 ≤ w) (h2 : w ≤ 1024) (h3 : 0 ≤ g) (h4 : g ≤ 4294967296) : 0 ≤ w * g ∧ w * g ≤ 4398046511104 := by
  refine ⟨Int.mul_nonneg (by omega) h3, ?_⟩
  calc w * g ≤ 1024 * g := Int.mul_le_mul_of_nonneg_right h2 h3
    _ ≤ 1024 * 4294967296 := Int.mul_le_mul_of_nonneg_left h4 (by omega)
    _ = 4398046511104 := by decide
theorem dsum_bd {js : List JV} {q x : List Int} (ht : Tame js q) (hx : ∀ (k : Nat) (y : Int), x[k]? = some y → -2147483648 ≤ y ∧ y ≤ 2147483648) (hl : js.length = q.length) (hxl : x.length = js.length) : ∀ m : Nat, m ≤ js.length → 0 ≤ dsum js q x m ∧ dsum js q x m ≤ m * 4398046511104
  | 0, _ => by simp [dsum]
  | m + 1, hm => by
    obtain ⟨h1, h2⟩ := dsum_bd ht hx hl hxl m (by omega)
    obtain ⟨j, hj⟩ : ∃ j, js[m]? = some j := ⟨_, List.getElem?_eq_getElem (by omega)⟩
    obtain ⟨a, ha⟩ : ∃ a, q[m]? = some a := ⟨_, List.getElem?_eq_getElem (by omega)⟩
    obtain ⟨b, hb⟩ : ∃ b, x[m]? = some b := ⟨_, List.getElem?_eq_getElem (by omega)⟩
    have hw := ht.w m j hj
    have hg := gap_bd (ht.q m a ha) (hx m b hb)
    have := term_bd hw.1 hw.2 hg.1 hg.2
    show 0 ≤ dsum js q x m + wt js m * gapA (at0 q m - at0 x m) ∧ dsum js q x m + wt js m * gapA (at0 q m - at0 x m) ≤ _
    rw [wt_some hj, at0_some ha, at0_some hb]
    have e : ((m + 1 : Nat) : Int) * 4398046511104 = (m : Int) * 4398046511104 + 4398046511104 := by omega
    omega
set_option maxRecDepth 100000 in
set_option maxHeartbeats 4000000 in
theorem distance63 (oj op ot oq : Option Addr) (cj cp nt ct cq : Nat) (js : List JV) (pts : List (List Int)) (q : List Int) (p : Nat) (W : World) (hJ : Sl W oj 12 (js.map JV.vals)) (hP : Pts W op pts) (hQ : Sl W oq 1 (pvals q)) (ht : Tame js q) (hv : vpB pts = true) (hl : js.length = q.length) (hd : dimP pts = js.length) (hp : p < pts.length) :
    Calls Tryz.prog 67 #[.agg #[.slice oj js.length cj, .slice op pts.length cp, .slice ot nt ct, .slice oq q.length cq], .int .i64 p] W fun e W' => e = .returned (.int .i64 (dst js q (pts[p]?.getD []))) ∧ Below W.heap.size W W' := by
  obtain ⟨hp1024, hdim⟩ := vp_dim hv
  obtain ⟨x, hx⟩ : ∃ x, pts[p]? = some x := ⟨_, List.getElem?_eq_getElem hp⟩
  have hxl := (hdim x (List.mem_of_getElem? hx)).1
  have hx31 : ∀ (k : Nat) (y : Int), x[k]? = some y → -2147483648 ≤ y ∧ y ≤ 2147483648 := fun k y hy => by
    unfold vpB at hv
    rw [Bool.and_eq_true, decide_eq_true_eq, List.all_eq_true] at hv
    have h1 := hv.2 x (List.mem_of_getElem? hx)
    unfold okC at h1
    rw [Bool.and_eq_true] at h1
    unfold smallB at h1
    have h2 := List.all_eq_true.1 h1.2 y (List.mem_of_getElem? hy)
    unfold okX at h2
    simpa using h2
  rw [hx, Option.getD_some]
  have hba : Below W.heap.size W (W.alloc (.cells #[.slice oj js.length cj, .slice op pts.length cp, .slice ot nt ct, .slice oq q.length cq] 60)) := (Below.refl _ _).alloc (Nat.le_refl _) _
  have r2 := Blk.new W [.slice oj js.length cj, .slice op pts.length cp, .slice ot nt ct, .slice oq q.length cq] 60
  obtain ⟨bp, offp, ox, cx, rfl, y0, lp, hsx⟩ := (hP.keep hba).get hx
  have HJ := Lib.hid (hJ.keep hba)
  have HQ := Lib.hid (hQ.keep hba)
  have HX := Lib.hid hsx
  have HBA := Lib.hid hba
  have HXL := Lib.hid (show x.length = js.length by omega)
  have HL := Lib.hid hl
  have HT := Lib.hid ht
  have HX31 := Lib.hid hx31
  have hx10 : x.length ≤ 10 := by have := ht.len; omega
  have hdb := fun m hm => dsum_bd ht hx31 hl (by omega) m hm
  have HDB := Lib.hid hdb
  have hpi : (p : Int) < (pts.length : Int) := by omega
  clear hJ hP hQ hba hsx hl ht hx31 hxl hdim hv hd hx hdb
  go_enter Tryz.func67, Tryz.ntmps67
  go_upto_region 2 with fail
  generalize (W.alloc (.cells #[.slice oj js.length cj, .slice (some ⟨bp, offp, none⟩) pts.length cp, .slice ot nt ct, .slice oq q.length cq] 60)) = W1 at r2 y0 lp HJ HQ HX HBA ⊢
  generalize W.heap.size = n2 at r2 ⊢
  have c0 : W1.cell? ⟨n2, 0, none⟩ = some (.slice oj js.length cj) := r2.c 0 _ rfl
  have c1 : W1.cell? ⟨n2, 1, none⟩ = some (.slice (some ⟨bp, offp, none⟩) pts.length cp) := r2.c 1 _ rfl
  have c3 : W1.cell? ⟨n2, 3, none⟩ = some (.slice oq q.length cq) := r2.c 3 _ rfl
  have l2 := r2.lt
  clear r2
  go_wp2_with fail
  go_loopw [5, 15] (fun s i X => ∃ k : Nat, i = .int .i64 (k : Nat) ∧ k ≤ x.length ∧ s = .int .i64 (dsum js q x k) ∧ X = W1) (fun _ i _ => x.length - (intOf i).toNat)
  case atStart => exact ⟨0, rfl, Nat.zero_le _, rfl, rfl⟩
  case round =>
    obtain ⟨k, rfl, hk, rfl, rfl⟩ := hrel
    by_cases hlt : k < x.length
    · obtain ⟨j, hj⟩ : ∃ j, js[k]? = some j := ⟨_, List.getElem?_eq_getElem (by have := HXL.out; omega)⟩
      obtain ⟨a, ha⟩ : ∃ a, q[k]? = some a := ⟨_, List.getElem?_eq_getElem (by have := HXL.out; have := HL.out; omega)⟩
      obtain ⟨b, hb⟩ : ∃ b, x[k]? = some b := ⟨_, List.getElem?_eq_getElem hlt⟩
      obtain ⟨bj, offj, rfl, hjr⟩ := HJ.out (jvals_ne (show k < js.length by have := HXL.out; omega))
      obtain ⟨bq, offq, rfl, z1, lq⟩ := pv_get HQ.out ha
      obtain ⟨bx, offx, rfl, z2, lx⟩ := pv_get HX.out hb
      have z3 : wr.cell? ⟨bj, offj + k * 12 + 8, none⟩ = some (.int .i64 j.weight) := hjr.c k _ (rows_get hj) 8 _ rfl
      have lj := hjr.lt
      have hkq : (k : Int) < (q.length : Int) := by have := HXL.out; have := HL.out; omega
      have hkj : (k : Int) < (js.length : Int) := by have := HXL.out; omega
      have hg := gap_bd (HT.out.q k a ha) (HX31.out k b hb)
      have hw := HT.out.w k j hj
      have ht := term_bd hw.1 hw.2 hg.1 hg.2
      have hs := HDB.out k (by have := HXL.out; omega)
      have ha2 := HT.out.q k a ha
      have hb2 := HX31.out k b hb
      have hnext : dsum js q x (k + 1) = dsum js q x k + j.weight * gapA (a - b) := by
        show dsum js q x k + wt js k * gapA (at0 q k - at0 x k) = _
        rw [wt_some hj, at0_some ha, at0_some hb]
      have HN := Lib.hid hnext
      clear hjr hj ha hb hnext
      generalize dsum js q x k = s at hs HN ⊢
      generalize j.weight = w8 at z3 hw ht HN ⊢
      go_wp2_with fail
      go_roundw
      case rel =>
        refine ⟨k + 1, by simp, by omega, ?_, by trivial⟩
        have e : w8 * max (a - b) (-(a - b)) = w8 * gapA (a - b) := rfl
        rw [HN.out, e]
        generalize w8 * gapA (a - b) = tt at ht ⊢
        have hk10 : k < 10 := by omega
        rw [IntWalk.wrap64_in tt (by omega), IntWalk.wrap64_in _ (by omega)]
      case measure => simp [intOf]; omega
    · have hke : k = x.length := by omega
      subst hke
      go_wp2_with fail
      go_ret
      exact ⟨rfl, HBA.out⟩
end Go.Proofs.Ng
end

