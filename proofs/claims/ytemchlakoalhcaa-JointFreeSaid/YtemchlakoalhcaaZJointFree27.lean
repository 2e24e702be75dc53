/-
  Texts put together: Id Ie If Ig.
-/
import Derived.Test.YtemchlakoalhcaaZJointFree13
import Derived.Test.YtemchlakoalhcaaZJointFree26
import Derived.Test.YtemchlakoalhcaaZJointFree19
import Derived.Deep.LoopGhost
import Derived.Test.YtemchlakoalhcaaZJointFree22
set_option linter.unusedVariables false
section
/-
  The plain law: an arm's way and the labels.
-/
namespace Go.Proofs.Jn
open Go.RowKit

theorem beq_dec (a b : Nat) : Nat.beq a b = decide (a = b) := by
  rw [Bool.eq_iff_iff, decide_eq_true_eq]
  exact ⟨Nat.eq_of_beq_eq_true, fun h => by rw [h]; exact Nat.beq_refl b⟩
theorem has_edge {es : List Ed} (h : ∀ e ∈ es, e.st = 1) (x y : Nat) : hasE (es.map fun e => (e.u, e.v)) x y = edgeB es x y := by
  unfold hasE edgeB
  rw [List.any_map, Bool.eq_iff_iff, List.any_eq_true, List.any_eq_true]
  have key : ∀ e : Ed, e ∈ es → (((fun e : Nat × Nat => Nat.beq e.1 (bif Nat.ble x y then x else y) && Nat.beq e.2 (bif Nat.ble x y then y else x)) ∘ fun e : Ed => (e.u, e.v)) e = (decide (e.u = min x y) && decide (e.v = max x y) && decide (e.st = 1))) := by
    intro e he
    show (Nat.beq e.u (bif Nat.ble x y then x else y) && Nat.beq e.v (bif Nat.ble x y then y else x)) = _
    rw [h e he, decide_eq_true (rfl : (1 : Int) = 1), Bool.and_true, beq_dec, beq_dec]
    rcases Nat.lt_or_ge y x with hxy | hxy
    · have : Nat.ble x y = false := by
        rw [← Bool.not_eq_true, Nat.ble_eq]; omega
      rw [this, cond_false, cond_false, Nat.min_eq_right (Nat.le_of_lt hxy), Nat.max_eq_left (Nat.le_of_lt hxy)]
    · have : Nat.ble x y = true := Nat.ble_eq_true_of_le hxy
      rw [this, cond_true, cond_true, Nat.min_eq_left hxy, Nat.max_eq_right hxy]
  constructor
  · rintro ⟨e, he, hp⟩; exact ⟨e, he, by rw [← key e he]; exact hp⟩
  · rintro ⟨e, he, hp⟩; exact ⟨e, he, by rw [key e he]; exact hp⟩
theorem arm_reach {T : Tm} {k : Nat} {m : Mp} (hm : T.ms[k]? = some m) (hst : ∀ e ∈ m.es, e.st = 1) {x : Nat} (hx : x < m.n) : ∀ (n y : Nat), (ArmR T k n x y ↔ y ∈ reachS m.n (pairsM m) x n) ∧ (y ∈ reachS m.n (pairsM m) x n → y < m.n)
  | 0, y => by
    refine ⟨?_, fun h => ?_⟩
    · show x = y ↔ y ∈ [x]
      simp [eq_comm]
    · have : y ∈ [x] := h
      simp at this; omega
  | n + 1, y => by
    have ih := arm_reach hm hst hx n
    have hE := fun z => has_edge hst z y
    show ((∃ z, ArmR T k n x z ∧ legB T ⟨k, z, y⟩ = true) ↔ y ∈ (List.range m.n).filter fun y => (reachS m.n (pairsM m) x n).any fun z => Nat.beq z y || hasE (pairsM m) z y) ∧ (y ∈ (List.range m.n).filter (fun y => (reachS m.n (pairsM m) x n).any fun z => Nat.beq z y || hasE (pairsM m) z y) → y < m.n)
    rw [List.mem_filter, List.mem_range, List.any_eq_true]
    refine ⟨⟨?_, ?_⟩, fun h => h.1⟩
    · rintro ⟨z, h1, h2⟩
      obtain ⟨m', hm', h3, h4, h5⟩ := legB_of h2
      simp only at hm' h3 h4 h5
      rw [hm] at hm'
      injection hm' with hm'
      subst hm'
      refine ⟨h4, z, (ih z).1.1 h1, ?_⟩
      unfold pairsM
      rw [hE z]
      simp only [Bool.or_eq_true, decide_eq_true_eq] at h5 ⊢
      rcases h5 with h5 | h5
      · exact .inl (by rw [h5]; exact Nat.beq_refl y)
      · exact .inr h5
    · rintro ⟨hy, z, h1, h2⟩
      refine ⟨z, (ih z).1.2 h1, ?_⟩
      have hz := (ih z).2 h1
      unfold pairsM at h2
      rw [hE z] at h2
      unfold legB
      simp only [hm, Bool.and_eq_true, Bool.or_eq_true, decide_eq_true_eq]
      refine ⟨⟨hz, hy⟩, ?_⟩
      rcases Bool.or_eq_true _ _ ▸ h2 with h | h
      · exact .inl (Nat.eq_of_beq_eq_true h)
      · exact .inr h
theorem arm_dist {T : Tm} {k : Nat} {m : Mp} (hm : T.ms[k]? = some m) (hM : MadeM m) {x y : Nat} (hx : x < m.n) (hy : y < m.n) (n : Nat) : ArmR T k n x y ↔ ∃ d, distM m x y = some d ∧ d ≤ n := by
  rw [(arm_reach hm hM.st hx n y).1]
  exact (good_of (made_good hM) hy).rch n x hx
end Go.Proofs.Jn
end

section
/-
  Walks of the reference's search: UsableIn, less, asked.
-/
namespace Go.Proofs.Jn
open Go.RowKit

set_option maxRecDepth 100000 in
set_option maxHeartbeats 4000000 in
theorem usableIn_any (e : Ed) (w : World) (he : e.st = 1) : Calls Try.prog 45 #[.agg #[.int .i64 (e.u : Nat), .int .i64 (e.v : Nat), .int .i64 e.c, .int .i64 e.st, .int .i64 e.k0, .slice e.s1.a e.s1.n e.s1.c, .int .i64 e.k2, .int .i64 e.k3, .slice e.s4.a e.s4.n e.s4.c, .int .i64 e.k5, .slice e.s6.a e.s6.n e.s6.c, .slice e.s7.a e.s7.n e.s7.c], .int .i64 0] w (BoolP true w) := by
  rw [he]
  go_enter Try.func45, Try.ntmps45
  go_upto_region 1 with fail
  have hbx_ := boxes1 w [.int .i64 (e.u : Nat), .int .i64 (e.v : Nat), .int .i64 e.c, .int .i64 1, .int .i64 e.k0, .slice e.s1.a e.s1.n e.s1.c, .int .i64 e.k2, .int .i64 e.k3, .slice e.s4.a e.s4.n e.s4.c, .int .i64 e.k5, .slice e.s6.a e.s6.n e.s6.c, .slice e.s7.a e.s7.n e.s7.c] 54
  have HB := Lib.hid (hbx_.2)
  generalize w.alloc (.cells #[.int .i64 (e.u : Nat), .int .i64 (e.v : Nat), .int .i64 e.c, .int .i64 1, .int .i64 e.k0, .slice e.s1.a e.s1.n e.s1.c, .int .i64 e.k2, .int .i64 e.k3, .slice e.s4.a e.s4.n e.s4.c, .int .i64 e.k5, .slice e.s6.a e.s6.n e.s6.c, .slice e.s7.a e.s7.n e.s7.c] 54) = W0 at hbx_ HB ⊢
  obtain ⟨r1, hbel_⟩ := hbx_
  obtain ⟨n1, hn_⟩ : ∃ n, n = w.heap.size := ⟨_, rfl⟩
  rw [← hn_] at r1 ⊢
  clear hn_ hbel_
  have a3 : W0.cell? ⟨n1, 3, none⟩ = some (.int .i64 1) := r1.c 3 _ rfl
  have l1 := r1.lt
  clear r1
  go_wp2
  go_ret
  exact boolP_mk rfl HB.out

def lbC : Option Nat → Int
  | none => -1
  | some d => (d : Nat)
def lbE : Option Nat → Int
  | none => 0
  | some d => (d : Nat)
/-- A label as it lies. -/
def encO (o : Option Nat) : List Value := [.int .i64 (lbC o), .int .i64 (lbE o)]
set_option maxRecDepth 100000 in
set_option maxHeartbeats 4000000 in
theorem less_any (a : Nat) (o : Option Nat) (w : World) : Calls Try.prog 62 #[.agg #[.int .i64 (a : Nat), .int .i64 (a : Nat)], .agg #[.int .i64 (lbC o), .int .i64 (lbE o)]] w (BoolP (lessO a o) w) := by
  have d1 : decide ((a : Int) < 0) = false := decide_eq_false (by omega)
  have d2 : decide ((a : Int) ≥ 0) = true := decide_eq_true (by omega)
  go_enter Try.func62, Try.ntmps62
  go_upto_region 1 with fail
  have hbx_ := boxes2 w [.int .i64 (a : Nat), .int .i64 (a : Nat)] [.int .i64 (lbC o), .int .i64 (lbE o)] 106 106
  have HB := Lib.hid (hbx_.2.2)
  generalize (w.alloc (.cells #[.int .i64 (a : Nat), .int .i64 (a : Nat)] 106)).alloc (.cells #[.int .i64 (lbC o), .int .i64 (lbE o)] 106) = W0 at hbx_ HB ⊢
  obtain ⟨r1, r2, hbel_⟩ := hbx_
  obtain ⟨n1, hn_⟩ : ∃ n, n = w.heap.size := ⟨_, rfl⟩
  rw [← hn_] at r1 r2 ⊢
  clear hn_ hbel_
  have a0 : W0.cell? ⟨n1, 0, none⟩ = some (.int .i64 (a : Nat)) := r1.c 0 _ rfl
  have a1 : W0.cell? ⟨n1, 1, none⟩ = some (.int .i64 (a : Nat)) := r1.c 1 _ rfl
  have l1 := r1.lt
  have l2 := r2.lt
  cases o with
  | none =>
    have b0 : W0.cell? ⟨n1 + 1, 0, none⟩ = some (.int .i64 (-1)) := r2.c 0 _ rfl
    have b1 : W0.cell? ⟨n1 + 1, 1, none⟩ = some (.int .i64 0) := r2.c 1 _ rfl
    clear r1 r2
    go_wp2
    go_ret
    exact boolP_mk rfl HB.out
  | some y =>
    have b0 : W0.cell? ⟨n1 + 1, 0, none⟩ = some (.int .i64 (y : Nat)) := r2.c 0 _ rfl
    have b1 : W0.cell? ⟨n1 + 1, 1, none⟩ = some (.int .i64 (y : Nat)) := r2.c 1 _ rfl
    have d3 : decide ((y : Int) < 0) = false := decide_eq_false (by omega)
    clear r1 r2
    rcases Nat.lt_trichotomy a y with h | h | h
    · have e1 : decide ((a : Int) < (y : Int)) = true := decide_eq_true (by omega)
      have e2 : lessO a (some y) = true := by simp [lessO, Nat.blt_eq]; exact h
      go_wp2
      go_ret
      exact boolP_mk (by rw [e2]) HB.out
    · subst h
      have e2 : lessO a (some a) = false := by unfold lessO; rw [← Bool.not_eq_true, Nat.blt_eq]; omega
      go_wp2
      go_ret
      exact boolP_mk (by rw [e2]) HB.out
    · have e1 : decide ((a : Int) < (y : Int)) = false := decide_eq_false (by omega)
      have e3 : ((a : Int) == (y : Int)) = false := by simp; omega
      have e2 : lessO a (some y) = false := by
        unfold lessO
        rw [← Bool.not_eq_true, Nat.blt_eq]
        omega
      go_wp2
      go_ret
      exact boolP_mk (by rw [e2]; simp; omega) HB.out
end Go.Proofs.Jn
end

section
/-
  Walks of the reference's search: labels.
-/
namespace Go.Proofs.Jn
open Go.RowKit

/-- Labels as they lie. -/
def encL (l : List (Option Nat)) : List Value := l.flatMap encO
theorem encL_get : ∀ {l : List (Option Nat)} {k : Nat} {o : Option Nat}, l[k]? = some o → (encL l)[k * 2]? = some (.int .i64 (lbC o)) ∧ (encL l)[k * 2 + 1]? = some (.int .i64 (lbE o))
  | [], k, o, h => by simp at h
  | a :: l, 0, o, h => by simp at h; subst h; exact ⟨rfl, rfl⟩
  | a :: l, k + 1, o, h => by
    have := encL_get (l := l) (k := k) (o := o) (by simpa using h)
    have e : encL (a :: l) = .int .i64 (lbC a) :: .int .i64 (lbE a) :: encL l := rfl
    rw [e, show (k + 1) * 2 = k * 2 + 1 + 1 by omega, show k * 2 + 1 + 1 + 1 = k * 2 + 1 + 1 + 1 by omega]
    simpa using this
theorem encL_set : ∀ {l : List (Option Nat)} {k : Nat} (o : Option Nat), ((encL l).set (k * 2) (.int .i64 (lbC o))).set (k * 2 + 1) (.int .i64 (lbE o)) = encL (l.set k o)
  | [], k, o => rfl
  | a :: l, 0, o => rfl
  | a :: l, k + 1, o => by
    have e : encL (a :: l) = .int .i64 (lbC a) :: .int .i64 (lbE a) :: encL l := rfl
    have := encL_set (l := l) (k := k) o
    rw [e, show (k + 1) * 2 = k * 2 + 1 + 1 by omega]
    simp only [List.set_cons_succ]
    rw [this]
    rfl
theorem encL_set1 {l : List (Option Nat)} {k : Nat} (h : l[k]? = some (some 0)) : (encL l).set (k * 2) (.int .i64 (-1)) = encL (l.set k none) := by
  rw [← encL_set]
  have h1 := (encL_get h).2
  show (encL l).set (k * 2) (.int .i64 (-1)) = ((encL l).set (k * 2) (.int .i64 (-1))).set (k * 2 + 1) (.int .i64 0)
  apply List.ext_getElem?
  intro i
  rw [List.getElem?_set (l := (encL l).set _ _)]
  by_cases e : k * 2 + 1 = i
  · subst e
    rw [if_pos rfl, List.getElem?_set_ne (by omega), h1]
    have hl := (List.getElem?_eq_some_iff.1 h1).1
    simp only [List.length_set, hl, if_true]
    rfl
  · rw [if_neg e]
theorem made_lab (n : Nat) (h : n ≤ 4) : madeCells #[Value.int .i64 0, Value.int .i64 0] (n * 2) = (encL (List.replicate n (some 0))).toArray := by
  rcases (by omega : n = 0 ∨ n = 1 ∨ n = 2 ∨ n = 3 ∨ n = 4) with e | e | e | e | e <;> subst e <;> kernel_rfl
theorem under103 : Try.prog.underlying 103 = some (.slice 106) := by kernel_rfl
theorem info106 : (Try.prog.info? 106).map (fun i => (i.zero, i.size, i.bytes)) = some (some (.agg #[.int .i64 0, .int .i64 0]), 2, 16) := by kernel_rfl
theorem run_make103 (n : Nat) (hn : n ≤ 4) (u : World) : (Instr.makeSlice 103 (.int .i64 (n : Nat)) (.int .i64 (n : Nat))).run Try.prog u = .ok (.slice (some ⟨u.heap.size, 0, none⟩) n n) (u.alloc (.cells (encL (List.replicate n (some 0))).toArray 106)) := by
  obtain ⟨i, hi, hz, hs, hb⟩ := info_parts info106
  have := run_makeSlice (P := Try.prog) u 103 106 i (.agg #[.int .i64 0, .int .i64 0]) under103 hi hz .i64 .i64 n n (by omega) (Int.le_refl _) (by rw [hs]; simp; omega) (by rw [hb]; simp; omega) (by omega)
  rw [hs] at this
  simp only [Int.toNat_natCast] at this
  have hc : madeCells (Value.agg #[.int .i64 0, .int .i64 0]).cells (n * 2) = (encL (List.replicate n (some 0))).toArray := made_lab n hn
  rw [this, hc]
theorem tch_low {w W W' : World} {g : Nat} (h : Below w.heap.size w W) (k : Tch (fun b => b = g) W W') (hg : w.heap.size ≤ g) : Below w.heap.size w W' :=
  ⟨k.os.trans h.os, k.tape.trans h.tape, k.output.trans h.output, Nat.le_trans h.size k.size, fun b hb => (k.block b (Nat.lt_of_lt_of_le hb h.size) (fun e => by omega)).trans (h.block b hb)⟩
theorem pass_app : ∀ (es fs : List (Nat × Nat)) (s : List (Option Nat) × Bool), pass (es ++ fs) s = pass fs (pass es s)
  | [], _, _ => rfl
  | e :: es, fs, s => pass_app es fs _
/-- How many there are, and how great at most. -/
structure LabS (n B : Nat) (l : List (Option Nat)) : Prop where
  len : l.length = n
  bd : ∀ x d : Nat, l[x]? = some (some d) → d ≤ B
theorem LabS.mono {n B B' : Nat} {l : List (Option Nat)} (h : LabS n B l) (hb : B ≤ B') : LabS n B' l := ⟨h.len, fun x d hx => Nat.le_trans (h.bd x d hx) hb⟩
theorem relax_some {l : List (Option Nat)} {b : Bool} {x y d : Nat} {o : Option Nat} (h1 : l[x]? = some (some d)) (h2 : l[y]? = some o) : relax (l, b) x y = bif lessO (d + 1) o then (l.set y (some (d + 1)), true) else (l, b) := by
  simp [relax, List.getD_eq_getElem?_getD, h1, h2]
theorem relax_none {l : List (Option Nat)} {b : Bool} {x y : Nat} (h1 : l[x]? = some none) : relax (l, b) x y = (l, b) := by
  simp [relax, List.getD_eq_getElem?_getD, h1]
theorem relax_ok {n B : Nat} (s : List (Option Nat) × Bool) (x y : Nat) (h : LabS n B s.1) : LabS n (B + 1) (relax s x y).1 := by
  unfold relax
  cases h1 : s.1.getD x none with
  | none => exact h.mono (by omega)
  | some d =>
    have hd : d ≤ B := by
      rw [List.getD_eq_getElem?_getD] at h1
      cases h2 : s.1[x]? with
      | none => rw [h2] at h1; cases h1
      | some o =>
        rw [h2] at h1
        simp only [Option.getD_some] at h1
        subst h1
        exact h.bd x d h2
    dsimp only
    cases lessO (d + 1) (s.1.getD y none) with
    | false => exact h.mono (by omega)
    | true =>
      refine ⟨by show (s.1.set y _).length = n; rw [List.length_set]; exact h.len, fun z c hz => ?_⟩
      have hz : (s.1.set y (some (d + 1)))[z]? = some (some c) := hz
      rw [List.getElem?_set] at hz
      by_cases e : y = z
      · rw [if_pos e] at hz
        split at hz
        · injection hz with hz; injection hz with hz; omega
        · cases hz
      · rw [if_neg e] at hz
        have := h.bd z c hz
        omega
theorem pass_ok {n : Nat} : ∀ (es : List (Nat × Nat)) {B : Nat} (s : List (Option Nat) × Bool), LabS n B s.1 → LabS n (B + 2 * es.length) (pass es s).1
  | [], B, s, h => h
  | e :: es, B, s, h => (pass_ok es _ (relax_ok _ _ _ (relax_ok _ _ _ h))).mono (by simp; omega)
theorem itr_ok {n tg : Nat} (es : List (Nat × Nat)) (h16 : es.length ≤ 16) (ht : tg < n) : ∀ j, LabS n (32 * j) (itr es (startL n tg) j)
  | 0 => ⟨by simp [itr, startL], fun x d hx => by
      simp only [itr, startL, List.getElem?_set] at hx
      split at hx
      · split at hx
        · injection hx with hx; injection hx with hx; omega
        · cases hx
      · rw [List.getElem?_replicate] at hx
        split at hx
        · injection hx with hx; cases hx
        · cases hx⟩
  | j + 1 => (pass_ok es (itr es (startL n tg) j, false) (itr_ok es h16 ht j)).mono (by omega)
theorem pairs_take {m : Mp} {k : Nat} {e : Ed} (h : m.es[k]? = some e) : (pairsM m).take (k + 1) = (pairsM m).take k ++ [(e.u, e.v)] := by
  rw [List.take_add_one]
  congr 1
  simp [pairsM, h]
/-- The two ways along an edge. -/
def rlx (s : List (Option Nat) × Bool) (u v : Nat) : Nat → List (Option Nat) × Bool
  | 0 => s
  | 1 => relax s u v
  | _ => relax (relax s u v) v u
theorem rlx_ok {n B u v q : Nat} {l l' : List (Option Nat)} {b b' : Bool} (h : LabS n B l) (e : rlx (l, b) u v q = (l', b')) (hq : q ≤ 2) : LabS n (B + q) l' := by
  have h0 : LabS n B (l, b).1 := h
  have key : LabS n (B + q) (rlx (l, b) u v q).1 := by
    rcases (by omega : q = 0 ∨ q = 1 ∨ q = 2) with e | e | e <;> subst e
    · exact h0
    · exact relax_ok _ _ _ h0
    · exact relax_ok _ _ _ (relax_ok _ _ _ h0)
  rw [e] at key
  exact key
theorem pair_at {n : Nat} (s : List (Option Nat) × Bool) (u v q : Nat) (hq : q < 2) (hm : v < n) (hu : u < v) : ∃ x y : Nat, ([.int .i64 (u : Nat), .int .i64 (v : Nat), .int .i64 (v : Nat), .int .i64 (u : Nat)] : List Value)[q * 2]? = some (.int .i64 (x : Nat)) ∧ ([.int .i64 (u : Nat), .int .i64 (v : Nat), .int .i64 (v : Nat), .int .i64 (u : Nat)] : List Value)[q * 2 + 1]? = some (.int .i64 (y : Nat)) ∧ x < n ∧ y < n ∧ rlx s u v (q + 1) = relax (rlx s u v q) x y := by
  rcases (by omega : q = 0 ∨ q = 1) with e | e <;> subst e
  · exact ⟨u, v, rfl, rfl, by omega, hm, rfl⟩
  · exact ⟨v, u, rfl, rfl, hm, by omega, rfl⟩
theorem Blk.oth {W : World} {b n : Nat} {l : List Value} (h : Blk W b l) (hne : b ≠ n) (i : Nat) (v : Value) : Blk (W.setCell ⟨n, i, none⟩ v) b l := h.keepG (grown_set W n i v) hne
theorem Tch.setNew {Cb : Nat → Prop} {W W' : World} (h : Tch Cb W W') {n : Nat} (hn : W.heap.size ≤ n) (i : Nat) (x : Value) : Tch Cb W (W'.setCell ⟨n, i, none⟩ x) :=
  ⟨h.os, h.tape, h.output, Nat.le_trans h.size (by simp [World.setCell]), fun b hb hc => by rw [Below.heap_setCell W' ⟨n, i, none⟩ x b (fun e => by have : b = n := e; omega)]; exact h.block b hb hc⟩
theorem keepLb {V X X' : World} {n7 n8 n9 p q : Nat} {a b c d e : Value} (l7 : n7 < V.heap.size) (l8 : n8 < V.heap.size) (l9 : n9 < V.heap.size)
    (h : X.cell? ⟨n7, 0, none⟩ = some a ∧ X.cell? ⟨n7, 1, none⟩ = some b ∧ X.cell? ⟨n8, 1, none⟩ = some c ∧ X.cell? ⟨n9, p, none⟩ = some d ∧ X.cell? ⟨n9, q, none⟩ = some e ∧ Below V.heap.size V X) (hb : Below X.heap.size X X') :
    X'.cell? ⟨n7, 0, none⟩ = some a ∧ X'.cell? ⟨n7, 1, none⟩ = some b ∧ X'.cell? ⟨n8, 1, none⟩ = some c ∧ X'.cell? ⟨n9, p, none⟩ = some d ∧ X'.cell? ⟨n9, q, none⟩ = some e ∧ Below V.heap.size V X' := by
  obtain ⟨h1, h2, h3, h4, h5, h6⟩ := h
  have m7 := Nat.lt_of_lt_of_le l7 h6.size
  have m8 := Nat.lt_of_lt_of_le l8 h6.size
  have m9 := Nat.lt_of_lt_of_le l9 h6.size
  exact ⟨(hb.cell (p := ⟨n7, 0, none⟩) m7).trans h1, (hb.cell (p := ⟨n7, 1, none⟩) m7).trans h2, (hb.cell (p := ⟨n8, 1, none⟩) m8).trans h3, (hb.cell (p := ⟨n9, p, none⟩) m9).trans h4, (hb.cell (p := ⟨n9, q, none⟩) m9).trans h5, below_call h6 hb⟩
/-- Whether another pass is due. -/
def agF (es : List (Nat × Nat)) (o : List (Option Nat)) : Nat → Bool
  | 0 => true
  | j + 1 => (pass es (itr es o j, false)).2
/-- What labels answers. -/
def LabP (m : Mp) (tg : Nat) (w : World) (e : Ending) (W : World) : Prop := ∃ g, e = .returned (.slice (some ⟨g, 0, none⟩) m.n m.n) ∧ Blk W g (encL (finL m.n (pairsM m) tg)) ∧ w.heap.size ≤ g ∧ Below w.heap.size w W

set_option maxRecDepth 100000 in
set_option maxHeartbeats 4000000 in
theorem labels_any (m : Mp) (tg : Nat) (w : World) (hM : MadeM m) (hc1 : ∀ e ∈ m.es, e.c = 1) (hto : tg < m.n) (hE : Sl w m.oe 12 (m.es.map Ed.vals)) :
    Calls Try.prog 44 #[.agg #[.slice m.op m.n m.cp, .slice m.oe m.es.length m.ce], .int .i64 (tg : Nat), .int .i64 0] w (LabP m tg w) := by
  have HM := Lib.hid hM
  have HC1 := Lib.hid hc1
  have hn4 := hM.n4.2
  have hn2 := hM.n4.1
  have h16 := hM.n6
  have hmk := run_make103 m.n hn4
  have HG := Lib.hid (good_of (made_good hM) hto)
  clear hM hc1
  go_enter Try.func44, Try.ntmps44
  go_upto_region 1 with fail
  have hbx_ := blks1 w [.slice m.op m.n m.cp, .slice m.oe m.es.length m.ce] 43
  replace hE := hE.keep hbx_.2
  have HB := Lib.hid (hbx_.2)
  generalize w.alloc (.cells #[.slice m.op m.n m.cp, .slice m.oe m.es.length m.ce] 43) = W0 at hbx_ hE HB ⊢
  obtain ⟨r3, hbel_⟩ := hbx_
  obtain ⟨n3, hn_⟩ : ∃ n, n = w.heap.size := ⟨_, rfl⟩
  rw [← hn_] at r3 ⊢
  clear hn_ hbel_
  have HE := Lib.hid hE
  have a0 : W0.cell? ⟨n3, 0, none⟩ = some (.slice m.op m.n m.cp) := r3.c 0 _ rfl
  have a1 : W0.cell? ⟨n3, 1, none⟩ = some (.slice m.oe m.es.length m.ce) := r3.c 1 _ rfl
  have l3 := r3.lt
  have HR3 := Lib.hid r3
  clear hE r3
  go_upto_region 2 with fail
  have hL := Blk.new W0 (encL (List.replicate m.n (some 0))) 106
  have hbA : Below W0.heap.size W0 (W0.alloc (.cells (encL (List.replicate m.n (some 0))).toArray 106)) := (Below.refl _ _).alloc (Nat.le_refl _) _
  clear a0 a1 hmk
  generalize W0.alloc (.cells (encL (List.replicate m.n (some 0))).toArray 106) = W1 at hL hbA ⊢
  have hg0 : n3 < W0.heap.size := l3
  have hg1 : w.heap.size ≤ W0.heap.size := HB.out.size
  have HBA := Lib.hid hbA
  have HEb := Lib.hid (HE.out.keep hbA)
  have hlt : ∀ b off s, m.oe = some ⟨b, off, s⟩ → m.es ≠ [] → b < W0.heap.size := fun b off s he hne => by
    obtain ⟨b', off', h1, h2⟩ := HE.out (by simpa using hne)
    rw [he] at h1
    injection h1 with h1
    injection h1 with h1
    rw [h1]
    exact h2.lt
  have HLT := Lib.hid hlt
  clear l3 hbA hlt
  generalize W0.heap.size = g at hL hg0 hg1 HLT ⊢
  go_wp2_with fail
  go_loopw [8] (fun i W => ∃ (k : Nat) (l : List (Option Nat)), i = .int .i64 (k : Nat) ∧ k ≤ m.n ∧ l.length = m.n ∧ (∀ i, i < k → l[i]? = some none) ∧ (∀ i, k ≤ i → i < m.n → l[i]? = some (some 0)) ∧ Blk W g (encL l) ∧ Tch (fun b => b = g) W1 W) (fun i _ => m.n - (intOf i).toNat)
  case atStart => exact ⟨0, _, rfl, Nat.zero_le _, List.length_replicate, fun i h => absurd h (Nat.not_lt_zero _), fun i _ h => by simp [h], hL, Tch.of_below (Below.refl _ _)⟩
  case round =>
    clear hL
    obtain ⟨k, l, rfl, hk, hll, hl1, hl2, hL, hW⟩ := hrel
    obtain ⟨Wa, rfl⟩ : ∃ X, X = wr := ⟨_, rfl⟩
    have HLL := Lib.hid hll
    have HL1 := Lib.hid hl1
    have HL2 := Lib.hid hl2
    have HL := Lib.hid hL
    have HW := Lib.hid hW
    clear hll hl1 hl2 hL hW
    by_cases hlt : k < m.n
    · have x0 := HL.out.c (k * 2) _ (encL_get (HL2.out k (Nat.le_refl _) hlt)).1
      have f0 := HL.out.f (k * 2)
      have lg := HL.out.lt
      go_wp2_with fail
      refine ⟨⟨k + 1, _, by simp, by omega, ?_, ?_, ?_, by rw [← encL_set1 (HL2.out k (Nat.le_refl _) hlt)]; exact HL.out.put _ _, HW.out.set rfl _ _⟩, by simp [intOf]; omega⟩
      · rw [List.length_set, HLL.out]
      · intro i hi
        rw [List.getElem?_set]
        by_cases e : k = i
        · rw [if_pos e, if_pos (by rw [HLL.out]; omega)]
        · rw [if_neg e]; exact HL1.out i (by omega)
      · intro i h1 h2
        rw [List.getElem?_set, if_neg (by omega)]
        exact HL2.out i (by omega) h2
    · obtain rfl : k = m.n := by omega
      have hlr : l = List.replicate m.n none := by
        apply List.ext_getElem?
        intro i
        by_cases hi : i < m.n
        · rw [HL1.out i (by omega)]; simp [hi]
        · rw [List.getElem?_eq_none (by rw [HLL.out]; omega), List.getElem?_eq_none (by simp; omega)]
      have HLR := Lib.hid hlr
      have ht : l[tg]? = some none := by rw [hlr]; simp [hto]
      have x0 := HL.out.c (tg * 2) _ (encL_get ht).1
      have x1 := HL.out.c (tg * 2 + 1) _ (encL_get ht).2
      have f0 := HL.out.f (tg * 2)
      have f1 := HL.out.f (tg * 2 + 1)
      have lg := HL.out.lt
      have i1 : (tg : Int) < (m.n : Int) := by omega
      clear hlr ht
      go_upto_region 7 with fail
      have hL2 : Blk ((Wa.setCell ⟨g, tg * 2, none⟩ (.int .i64 0)).setCell ⟨g, tg * 2 + 1, none⟩ (.int .i64 0)) g (encL (startL m.n tg)) := by
        have := (HL.out.put (tg * 2) (.int .i64 (lbC (some 0)))).put (tg * 2 + 1) (.int .i64 (lbE (some 0)))
        rw [encL_set, HLR.out] at this
        exact this
      have hW2 : Tch (fun b => b = g) W1 ((Wa.setCell ⟨g, tg * 2, none⟩ (.int .i64 0)).setCell ⟨g, tg * 2 + 1, none⟩ (.int .i64 0)) := (HW.out.set rfl _ _).set rfl _ _
      clear x0 x1 f0 f1 lg i1 HL HL1 HL2 HLR HLL HW
      generalize (Wa.setCell ⟨g, tg * 2, none⟩ (.int .i64 0)).setCell ⟨g, tg * 2 + 1, none⟩ (.int .i64 0) = W2 at hL2 hW2 ⊢
      have HBW : Hid (Below w.heap.size w W1) := Lib.hid (below_call HB.out HBA.out)
      have HR1 := Lib.hid (HR3.out.keep HBA.out)
      have hne3 : n3 ≠ g := by omega
      have hag : ∀ j, j ≤ 4 → agF (pairsM m) (startL m.n tg) j = true → j ≤ 3 := fun j hj h => by
        rcases Nat.lt_or_ge j 4 with h4 | h4
        · omega
        · have : j = 3 + 1 := by omega
          subst this
          have h5 : (pass (pairsM m) (itr (pairsM m) (startL m.n tg) 3, false)).2 = true := h
          have h6 : (pass (pairsM m) (itr (pairsM m) (startL m.n tg) 3, false)).2 = false := HG.out.st
          rw [h5] at h6
          cases h6
      have HAG := Lib.hid hag
      have HHL := Lib.hid hL2
      have HHW := Lib.hid hW2
      have HG1 := Lib.hid hg1
      clear hag hL2 hW2 hg0 hg1 hlt HB HBA HR3 HE
      go_wp2_with fail
      go_loopg [9] 4 (fun gk v W => ∃ (j : Nat) (b : Bool), v = .bool b ∧ j + gk = 4 ∧ b = agF (pairsM m) (startL m.n tg) j ∧ Blk W g (encL (itr (pairsM m) (startL m.n tg) j)) ∧ Tch (fun b => b = g) W1 W)
      case atStart => exact ⟨0, true, rfl, rfl, rfl, HHL.out, HHW.out⟩
      case round =>
        clear HHL HHW
        obtain ⟨j, b, rfl, hj, hb, hL, hW⟩ := hrel
        obtain ⟨Wb, rfl⟩ : ∃ X, X = wr := ⟨_, rfl⟩
        have HBj := Lib.hid hb
        have HL := Lib.hid hL
        have HW := Lib.hid hW
        clear hb hL hW
        cases b with
        | false =>
          go_wp2_with fail
          go_ret
          have HBJ := HBj.out
          cases j with
          | zero => cases HBJ
          | succ i =>
            have hfin : itr (pairsM m) (startL m.n tg) (i + 1) = finL m.n (pairsM m) tg := HG.out.it i (by omega) HBJ.symm
            refine ⟨g, rfl, by rw [← hfin]; exact HL.out, HG1.out, tch_low HBW.out HW.out HG1.out⟩
        | true =>
          have hj3 := HAG.out j (by omega) HBj.out.symm
          clear HBj
          go_wp2_with fail
          generalize ho : itr (pairsM m) (startL m.n tg) j = o at HL
          have HO := Lib.hid ho
          clear ho
          go_loopw [9, 10] (fun v i W => ∃ (k : Nat) (l : List (Option Nat)) (b : Bool), i = .int .i64 (k : Nat) ∧ k ≤ m.es.length ∧ v = .bool b ∧ pass ((pairsM m).take k) (o, false) = (l, b) ∧ Blk W g (encL l) ∧ Tch (fun b => b = g) W1 W) (fun _ i _ => m.es.length - (intOf i).toNat)
          case atStart => exact ⟨0, o, false, rfl, Nat.zero_le _, rfl, rfl, HL.out, HW.out⟩
          case round =>
            clear HL HW
            obtain ⟨k, l, b, rfl, hk, rfl, hp, hL, hW⟩ := hrel
            obtain ⟨Wc, rfl⟩ : ∃ X, X = wr := ⟨_, rfl⟩
            have HP := Lib.hid hp
            have HL := Lib.hid hL
            have HW := Lib.hid hW
            have r3 := HW.out.blk HR1.out hne3
            have HR3 := Lib.hid r3
            have a0 : Wc.cell? ⟨n3, 0, none⟩ = some (.slice m.op m.n m.cp) := r3.c 0 _ rfl
            have a1 : Wc.cell? ⟨n3, 1, none⟩ = some (.slice m.oe m.es.length m.ce) := r3.c 1 _ rfl
            have l3 := r3.lt
            clear hp hL hW r3
            by_cases hlt : k < m.es.length
            · obtain ⟨e, he⟩ : ∃ e, m.es[k]? = some e := ⟨_, List.getElem?_eq_getElem hlt⟩
              have hEW : Sl Wc m.oe 12 (m.es.map Ed.vals) := HEb.out.tch HW.out fun b off s hb => by
                have := HLT.out b off s hb (by intro h0; rw [h0] at hlt; exact absurd hlt (Nat.not_lt_zero _))
                show ¬ b = g
                omega
              obtain ⟨be, offe, hoe, hEr⟩ := hEW (map_ne hlt)
              rw [hoe] at a1
              have x0 : Wc.cell? ⟨be, offe + k * 12, none⟩ = some (.int .i64 (e.u : Nat)) := hEr.c k _ (map_get he) 0 _ rfl
              have x1 : Wc.cell? ⟨be, offe + k * 12 + 1, none⟩ = some (.int .i64 (e.v : Nat)) := hEr.c k _ (map_get he) 1 _ rfl
              have x2 : Wc.cell? ⟨be, offe + k * 12 + 2, none⟩ = some (.int .i64 e.c) := hEr.c k _ (map_get he) 2 _ rfl
              have x3 : Wc.cell? ⟨be, offe + k * 12 + 3, none⟩ = some (.int .i64 e.st) := hEr.c k _ (map_get he) 3 _ rfl
              have x4 : Wc.cell? ⟨be, offe + k * 12 + 4, none⟩ = some (.int .i64 e.k0) := hEr.c k _ (map_get he) 4 _ rfl
              have x5 : Wc.cell? ⟨be, offe + k * 12 + 5, none⟩ = some (.slice e.s1.a e.s1.n e.s1.c) := hEr.c k _ (map_get he) 5 _ rfl
              have x6 : Wc.cell? ⟨be, offe + k * 12 + 6, none⟩ = some (.int .i64 e.k2) := hEr.c k _ (map_get he) 6 _ rfl
              have x7 : Wc.cell? ⟨be, offe + k * 12 + 7, none⟩ = some (.int .i64 e.k3) := hEr.c k _ (map_get he) 7 _ rfl
              have x8 : Wc.cell? ⟨be, offe + k * 12 + 8, none⟩ = some (.slice e.s4.a e.s4.n e.s4.c) := hEr.c k _ (map_get he) 8 _ rfl
              have x9 : Wc.cell? ⟨be, offe + k * 12 + 9, none⟩ = some (.int .i64 e.k5) := hEr.c k _ (map_get he) 9 _ rfl
              have x10 : Wc.cell? ⟨be, offe + k * 12 + 10, none⟩ = some (.slice e.s6.a e.s6.n e.s6.c) := hEr.c k _ (map_get he) 10 _ rfl
              have x11 : Wc.cell? ⟨be, offe + k * 12 + 11, none⟩ = some (.slice e.s7.a e.s7.n e.s7.c) := hEr.c k _ (map_get he) 11 _ rfl
              have lbe := hEr.lt
              have hed := HM.out.ok.ed e (List.mem_of_getElem? he)
              have HST := Lib.hid (HM.out.st e (List.mem_of_getElem? he))
              have HEC := Lib.hid (HC1.out e (List.mem_of_getElem? he))
              have HEk := Lib.hid he
              clear hEr he hEW
              go_upto_region 14 with fail
              clear x0 x1 x2 x3 x4 x5 x6 x7 x8 x9 x10 x11 lbe a0 a1 l3 hoe
              have hgc := HL.out.lt
              have hbx_ := blks1 Wc [.int .i64 (e.u : Nat), .int .i64 (e.v : Nat), .int .i64 e.c, .int .i64 e.st, .int .i64 e.k0, .slice e.s1.a e.s1.n e.s1.c, .int .i64 e.k2, .int .i64 e.k3, .slice e.s4.a e.s4.n e.s4.c, .int .i64 e.k5, .slice e.s6.a e.s6.n e.s6.c, .slice e.s7.a e.s7.n e.s7.c] 54
              replace HL := Lib.hid (HL.out.keep hbx_.2)
              replace HR3 := Lib.hid (HR3.out.keep hbx_.2)
              have HWd := Lib.hid (HW.out.trans (Tch.of_below hbx_.2))
              have hod : Wc.heap.size ≤ Wc.heap.size := by omega
              generalize Wc.alloc (.cells #[.int .i64 (e.u : Nat), .int .i64 (e.v : Nat), .int .i64 e.c, .int .i64 e.st, .int .i64 e.k0, .slice e.s1.a e.s1.n e.s1.c, .int .i64 e.k2, .int .i64 e.k3, .slice e.s4.a e.s4.n e.s4.c, .int .i64 e.k5, .slice e.s6.a e.s6.n e.s6.c, .slice e.s7.a e.s7.n e.s7.c] 54) = Wd at hbx_ HL HR3 HWd ⊢
              obtain ⟨r11, hbel_⟩ := hbx_
              obtain ⟨n11, hn_⟩ : ∃ n, n = Wc.heap.size := ⟨_, rfl⟩
              rw [← hn_] at r11 ⊢
              replace hod := Nat.le_of_eq hn_.symm
              clear hn_ hbel_
              have hus := fun X => usableIn_any e X HST.out
              have HUS := Lib.hid hus
              have y0 : Wd.cell? ⟨n11, 0, none⟩ = some (.int .i64 (e.u : Nat)) := r11.c 0 _ rfl
              have y1 : Wd.cell? ⟨n11, 1, none⟩ = some (.int .i64 (e.v : Nat)) := r11.c 1 _ rfl
              have y2 : Wd.cell? ⟨n11, 2, none⟩ = some (.int .i64 e.c) := r11.c 2 _ rfl
              have y3 : Wd.cell? ⟨n11, 3, none⟩ = some (.int .i64 e.st) := r11.c 3 _ rfl
              have y4 : Wd.cell? ⟨n11, 4, none⟩ = some (.int .i64 e.k0) := r11.c 4 _ rfl
              have y5 : Wd.cell? ⟨n11, 5, none⟩ = some (.slice e.s1.a e.s1.n e.s1.c) := r11.c 5 _ rfl
              have y6 : Wd.cell? ⟨n11, 6, none⟩ = some (.int .i64 e.k2) := r11.c 6 _ rfl
              have y7 : Wd.cell? ⟨n11, 7, none⟩ = some (.int .i64 e.k3) := r11.c 7 _ rfl
              have y8 : Wd.cell? ⟨n11, 8, none⟩ = some (.slice e.s4.a e.s4.n e.s4.c) := r11.c 8 _ rfl
              have y9 : Wd.cell? ⟨n11, 9, none⟩ = some (.int .i64 e.k5) := r11.c 9 _ rfl
              have y10 : Wd.cell? ⟨n11, 10, none⟩ = some (.slice e.s6.a e.s6.n e.s6.c) := r11.c 10 _ rfl
              have y11 : Wd.cell? ⟨n11, 11, none⟩ = some (.slice e.s7.a e.s7.n e.s7.c) := r11.c 11 _ rfl
              have l11 := r11.lt
              have HR11 := Lib.hid r11
              clear hus r11
              go_wp2_with fail
              with_reducible refine (HUS.out _).mono ?_
              rintro e' We ⟨rfl, hb⟩
              have HLe := Lib.hid (HL.out.keep hb)
              have HR3e := Lib.hid (HR3.out.keep hb)
              have HR11e := Lib.hid (HR11.out.keep hb)
              have HWe := Lib.hid (HWd.out.trans (Tch.of_below hb))
              clear y0 y1 y2 y3 y4 y5 y6 y7 y8 y9 y10 y11 l11 HL HR3 HR11 HWd hb HUS
              have y0 : We.cell? ⟨n11, 0, none⟩ = some (.int .i64 (e.u : Nat)) := HR11e.out.c 0 _ rfl
              have y1 : We.cell? ⟨n11, 1, none⟩ = some (.int .i64 (e.v : Nat)) := HR11e.out.c 1 _ rfl
              have l11 := HR11e.out.lt
              have hgl := HLe.out.lt
              go_upto_region 16 with fail
              clear y0 y1 l11
              have hbx_ := blks1 We [.int .i64 (e.u : Nat), .int .i64 (e.v : Nat), .int .i64 (e.v : Nat), .int .i64 (e.u : Nat)] 123
              replace HLe := Lib.hid (HLe.out.keep hbx_.2)
              replace HR3e := Lib.hid (HR3e.out.keep hbx_.2)
              replace HR11e := Lib.hid (HR11e.out.keep hbx_.2)
              have HWf := Lib.hid (HWe.out.trans (Tch.of_below hbx_.2))
              have hod6 : We.heap.size ≤ We.heap.size := by omega
              generalize We.alloc (.cells #[.int .i64 (e.u : Nat), .int .i64 (e.v : Nat), .int .i64 (e.v : Nat), .int .i64 (e.u : Nat)] 123) = Wf at hbx_ HLe HR3e HR11e HWf ⊢
              obtain ⟨r60, hbel_⟩ := hbx_
              obtain ⟨n60, hn_⟩ : ∃ n, n = We.heap.size := ⟨_, rfl⟩
              rw [← hn_] at r60 ⊢
              replace hod6 := Nat.le_of_eq hn_.symm
              clear hn_ hbel_
              have hg60 : n60 ≠ g := by omega
              have hg11 : n11 ≠ g := by omega
              have HR11f := HR11e
              have HR60 := Lib.hid r60
              have hls : LabS m.n (32 * j + 2 * k) l := by
                have h1 := pass_ok ((pairsM m).take k) (o, false) (by rw [← HO.out]; exact itr_ok (pairsM m) (by rw [pairsM, List.length_map]; exact h16) hto j)
                rw [HP.out] at h1
                exact h1.mono (by rw [List.length_take]; omega)
              have HLS := Lib.hid hls
              clear hgl hod hod6 r60 hls hgc
              go_loopw [9, 62] (fun v i W => ∃ (q : Nat) (l' : List (Option Nat)) (b' : Bool), i = .int .i64 (q : Nat) ∧ q ≤ 2 ∧ v = .bool b' ∧ rlx (l, b) e.u e.v q = (l', b') ∧ Blk W g (encL l') ∧ Tch (fun b => b = g) Wf W) (fun _ i _ => 2 - (intOf i).toNat)
              case atStart => exact ⟨0, l, b, rfl, Nat.zero_le _, rfl, rfl, HLe.out, Tch.of_below (Below.refl _ _)⟩
              case round =>
                clear HLe
                obtain ⟨q, l', b', rfl, hq, rfl, hrx, hL, hW⟩ := hrel
                obtain ⟨Wg, rfl⟩ : ∃ X, X = wr := ⟨_, rfl⟩
                have HRX := Lib.hid hrx
                have HLg := Lib.hid hL
                have HWg := Lib.hid hW
                have r60 := HWg.out.blk HR60.out hg60
                have l60 := r60.lt
                clear hrx hL hW
                by_cases hq2 : q < 2
                · obtain ⟨x, y, hx, hy, hxn, hyn, hnx⟩ := pair_at (l, b) e.u e.v q hq2 (hm := hed.2.1) (hu := hed.1)
                  rw [HRX.out] at hnx
                  have HNX := Lib.hid hnx
                  have x0 := r60.c (q * 2) _ hx
                  have x1 := r60.c (q * 2 + 1) _ hy
                  have hls2 := rlx_ok HLS.out HRX.out hq
                  obtain ⟨o1, ho1⟩ : ∃ o, l'[x]? = some o := ⟨_, List.getElem?_eq_getElem (by rw [hls2.len]; exact hxn)⟩
                  obtain ⟨o2, ho2⟩ : ∃ o, l'[y]? = some o := ⟨_, List.getElem?_eq_getElem (by rw [hls2.len]; exact hyn)⟩
                  have HO1 := Lib.hid ho1
                  have HO2 := Lib.hid ho2
                  have hbd : ∀ d, o1 = some d → d ≤ 32 * j + 2 * k + q := fun d hd => hls2.bd x d (by rw [ho1, hd])
                  have HBD := Lib.hid hbd
                  clear hx hy hnx ho1 ho2 hbd hls2 r60
                  go_upto_region 18 with fail
                  clear x0 x1 l60
                  have hgw := HLg.out.lt
                  have hbx_ := blks1 Wg [.int .i64 (x : Nat), .int .i64 (y : Nat)] 123
                  replace HLg := Lib.hid (HLg.out.keep hbx_.2)
                  have HWh := Lib.hid (HWg.out.trans (Tch.of_below hbx_.2))
                  have hod : Wg.heap.size ≤ Wg.heap.size := by omega
                  generalize Wg.alloc (.cells #[.int .i64 (x : Nat), .int .i64 (y : Nat)] 123) = Wh at hbx_ HLg HWh ⊢
                  obtain ⟨r13, hbel_⟩ := hbx_
                  obtain ⟨n13, hn_⟩ : ∃ n, n = Wg.heap.size := ⟨_, rfl⟩
                  rw [← hn_] at r13 ⊢
                  replace hod := Nat.le_of_eq hn_.symm
                  clear hn_ hbel_
                  have hg13 : n13 ≠ g := by omega
                  have z0 : Wh.cell? ⟨n13, 0, none⟩ = some (.int .i64 (x : Nat)) := r13.c 0 _ rfl
                  have z1 : Wh.cell? ⟨n13, 1, none⟩ = some (.int .i64 (y : Nat)) := r13.c 1 _ rfl
                  have l13 := r13.lt
                  have HR13 := Lib.hid r13
                  have hlg := HLg.out.lt
                  have c0 := HLg.out.c (x * 2) _ (encL_get HO1.out).1
                  have c1 := HLg.out.c (x * 2 + 1) _ (encL_get HO1.out).2
                  have i1 : (x : Int) < (m.n : Int) := by omega
                  have hl13 := l13
                  clear r13 hgw hod
                  go_upto_region 19 with fail
                  clear z0 z1 l13 c0 c1 i1
                  have hbx_ := blks1 Wh [.int .i64 (lbC o1), .int .i64 (lbE o1)] 106
                  replace HLg := Lib.hid (HLg.out.keep hbx_.2)
                  replace HR13 := Lib.hid (HR13.out.keep hbx_.2)
                  have HWi := Lib.hid (HWh.out.trans (Tch.of_below hbx_.2))
                  have hod : Wh.heap.size ≤ Wh.heap.size := by omega
                  generalize Wh.alloc (.cells #[.int .i64 (lbC o1), .int .i64 (lbE o1)] 106) = Wi at hbx_ HLg HR13 HWi ⊢
                  obtain ⟨r14, hbel_⟩ := hbx_
                  obtain ⟨n14, hn_⟩ : ∃ n, n = Wh.heap.size := ⟨_, rfl⟩
                  rw [← hn_] at r14 ⊢
                  replace hod := Nat.le_of_eq hn_.symm
                  clear hn_ hbel_
                  have hg14 : n14 ≠ g := by omega
                  have h1314 : n13 ≠ n14 := by omega
                  have hfn : Wf.heap.size ≤ n14 := Nat.le_trans HWh.out.size hod
                  clear hod hlg
                  cases o1 with
                  | none =>
                    have z0 : Wi.cell? ⟨n14, 0, none⟩ = some (.int .i64 (-1)) := r14.c 0 _ rfl
                    have z1 : Wi.cell? ⟨n14, 1, none⟩ = some (.int .i64 0) := r14.c 1 _ rfl
                    have l14 := r14.lt
                    clear r14
                    go_wp2_with fail
                    go_roundw
                    case rel => exact ⟨q + 1, l', b', rfl, by omega, rfl, by rw [HNX.out, relax_none HO1.out], HLg.out, HWi.out⟩
                    case measure => simp [intOf]; omega
                  | some d =>
                    have hdb := HBD.out d rfl
                    have z0 : Wi.cell? ⟨n14, 0, none⟩ = some (.int .i64 (d : Nat)) := r14.c 0 _ rfl
                    have z1 : Wi.cell? ⟨n14, 1, none⟩ = some (.int .i64 (d : Nat)) := r14.c 1 _ rfl
                    have l14 := r14.lt
                    have f0 := r14.f 0
                    have f1 := r14.f 1
                    have HR14 := Lib.hid r14
                    have r11 := HWi.out.blk HR11f.out hg11
                    have y2 : Wi.cell? ⟨n11, 2, none⟩ = some (.int .i64 1) := by rw [← HEC.out]; exact r11.c 2 _ rfl
                    have l11 := r11.lt
                    have d1 : decide ((d : Int) < 0) = false := decide_eq_false (by omega)
                    have hw1 : IntKind.i64.wrap ((d : Int) + 1) = (d : Int) + 1 := IntWalk.i64_in _ (by omega)
                    clear r14 r11
                    go_upto_region 21 with fail
                    clear z0 z1 f0 f1 l14 y2 l11 d1
                    have r14b : Blk ((Wi.setCell ⟨n14, 0, none⟩ (.int .i64 ((d : Int) + 1))).setCell ⟨n14, 1, none⟩ (.int .i64 ((d : Int) + 1))) n14 [.int .i64 ((d : Int) + 1), .int .i64 ((d : Int) + 1)] := (HR14.out.put 0 _).put 1 _
                    have r13b : Blk ((Wi.setCell ⟨n14, 0, none⟩ (.int .i64 ((d : Int) + 1))).setCell ⟨n14, 1, none⟩ (.int .i64 ((d : Int) + 1))) n13 [.int .i64 (x : Nat), .int .i64 (y : Nat)] := (HR13.out.oth h1314 _ _).oth h1314 _ _
                    have hLb : Blk ((Wi.setCell ⟨n14, 0, none⟩ (.int .i64 ((d : Int) + 1))).setCell ⟨n14, 1, none⟩ (.int .i64 ((d : Int) + 1))) g (encL l') := (HLg.out.oth (Ne.symm hg14) _ _).oth (Ne.symm hg14) _ _
                    have hWj : Tch (fun b => b = g) Wf ((Wi.setCell ⟨n14, 0, none⟩ (.int .i64 ((d : Int) + 1))).setCell ⟨n14, 1, none⟩ (.int .i64 ((d : Int) + 1))) := (HWi.out.setNew hfn _ _).setNew hfn _ _
                    generalize (Wi.setCell ⟨n14, 0, none⟩ (.int .i64 ((d : Int) + 1))).setCell ⟨n14, 1, none⟩ (.int .i64 ((d : Int) + 1)) = Wj at r14b r13b hLb hWj ⊢
                    have HR14j := Lib.hid r14b
                    have HR13j := Lib.hid r13b
                    have HLj := Lib.hid hLb
                    have HWj := Lib.hid hWj
                    have j14 := r14b.lt
                    have j13 := r13b.lt
                    have jg := hLb.lt
                    have hS : Wj.cell? ⟨n14, 0, none⟩ = some (.int .i64 ((d : Int) + 1)) ∧ Wj.cell? ⟨n14, 1, none⟩ = some (.int .i64 ((d : Int) + 1)) ∧ Wj.cell? ⟨n13, 1, none⟩ = some (.int .i64 (y : Nat)) ∧ Wj.cell? ⟨g, y * 2, none⟩ = some (.int .i64 (lbC o2)) ∧ Wj.cell? ⟨g, y * 2 + 1, none⟩ = some (.int .i64 (lbE o2)) ∧ Below Wj.heap.size Wj Wj := ⟨r14b.c 0 _ rfl, r14b.c 1 _ rfl, r13b.c 1 _ rfl, hLb.c _ _ (encL_get HO2.out).1, hLb.c _ _ (encL_get HO2.out).2, Below.refl _ _⟩
                    have hles : ∀ X, Calls Try.prog 62 #[.agg #[.int .i64 ((d : Int) + 1), .int .i64 ((d : Int) + 1)], .agg #[.int .i64 (lbC o2), .int .i64 (lbE o2)]] X (BoolP (lessO (d + 1) o2) X) := fun X => less_any (d + 1) o2 X
                    have HLES := Lib.hid hles
                    have i2 : (y : Int) < (m.n : Int) := by omega
                    clear r14b r13b hLb hWj hles HLg HR13 HR14 HWi hfn h1314
                    go_region_held3 (fun X => X.cell? ⟨n14, 0, none⟩ = some (.int .i64 ((d : Int) + 1)) ∧ X.cell? ⟨n14, 1, none⟩ = some (.int .i64 ((d : Int) + 1)) ∧ X.cell? ⟨n13, 1, none⟩ = some (.int .i64 (y : Nat)) ∧ X.cell? ⟨g, y * 2, none⟩ = some (.int .i64 (lbC o2)) ∧ X.cell? ⟨g, y * 2 + 1, none⟩ = some (.int .i64 (lbE o2)) ∧ Below Wj.heap.size Wj X)
                      (first
                        | assumption
                        | exact hS
                        | exact keepLb j14 j13 jg (by assumption) (by assumption)
                        | exact keepLb j14 j13 jg (by assumption) (Below.refl _ _).drew)
                      (first
                        | (go_at_call 62
                           with_reducible refine (HLES.out _).mono ?_
                           rintro e Xa ⟨rfl, hba⟩
                           have hVa : Below Wj.heap.size Wj Xa := (Below.refl _ _).drew.trans hba
                           have HVa := Lib.hid hVa
                           have hSa := keepLb j14 j13 jg hS hVa
                           clear hba))
                    all_goals
                      have r14 := HR14j.out.keep HVa.out
                      have r13 := HR13j.out.keep HVa.out
                      have hLa := HLj.out.keep HVa.out
                      have HWa := Lib.hid (HWj.out.trans (Tch.of_below HVa.out))
                      have x0 := r14.c 0 _ rfl
                      have x1 := r14.c 1 _ rfl
                      have x2 := r13.c 1 _ rfl
                      have y0 := hLa.c _ _ (encL_get HO2.out).1
                      have y1 := hLa.c _ _ (encL_get HO2.out).2
                      have f0 := hLa.f (y * 2)
                      have f1 := hLa.f (y * 2 + 1)
                      have l14 := r14.lt
                      have l13 := r13.lt
                      have lg := hLa.lt
                      have HLa := Lib.hid hLa
                      have hrs := relax_some (b := b') HO1.out HO2.out
                      generalize lessO (d + 1) o2 = c at hrs ⊢
                      have HRS := Lib.hid hrs
                      clear hS hSa hVa r14 r13 hLa hrs j14 j13 jg HR14j HR13j HLj HWj
                      cases c with
                      | false =>
                        clear x0 x1 x2 y0 y1 f0 f1 l14 l13 lg
                        go_wp2_with fail
                        go_roundw
                        case rel => exact ⟨q + 1, l', b', rfl, by omega, rfl, by rw [HNX.out, HRS.out]; rfl, HLa.out, HWa.out⟩
                        case measure => simp [intOf]; omega
                      | true =>
                        go_wp2_with fail
                        go_roundw
                        case rel => exact ⟨q + 1, l'.set y (some (d + 1)), true, rfl, by omega, rfl, by rw [HNX.out, HRS.out]; rfl, by rw [← encL_set]; exact (HLa.out.put _ _).put _ _, (HWa.out.set rfl _ _).set rfl _ _⟩
                        case measure => simp [intOf]; omega
                · have HQ : Hid (q = 2) := Lib.hid (by omega)
                  go_wp2_with fail
                  go_roundw
                  case rel => exact ⟨k + 1, l', b', by simp, by omega, rfl, by rw [pairs_take HEk.out, pass_app, HP.out, ← HRX.out, HQ.out]; rfl, HLg.out, (HWf.out.trans HWg.out)⟩
                  case measure => simp [intOf]; omega
            · have hkl : k = m.es.length := by omega
              have hpf : pass (pairsM m) (o, false) = (l, b) := by
                have := HP.out
                rw [hkl, List.take_of_length_le (by simp [pairsM])] at this
                exact this
              have hag2 : b = agF (pairsM m) (startL m.n tg) (j + 1) := by
                show b = (pass (pairsM m) (itr (pairsM m) (startL m.n tg) j, false)).2
                rw [HO.out, hpf]
              have hit2 : itr (pairsM m) (startL m.n tg) (j + 1) = l := by
                show (pass (pairsM m) (itr (pairsM m) (startL m.n tg) j, false)).1 = l
                rw [HO.out, hpf]
              have HAG2 := Lib.hid hag2
              have HIT2 := Lib.hid hit2
              clear hag2 hit2 hpf
              go_wp2_with fail
              go_roundg (gk - 1)
              case rel => exact ⟨j + 1, b, rfl, by omega, HAG2.out, by rw [HIT2.out]; exact HL.out, HW.out⟩
              case measure => omega
end Go.Proofs.Jn
end

section
/-
  Walks of the reference's search: asked.
-/
namespace Go.Proofs.Jn
open Go.RowKit

set_option maxRecDepth 100000 in
set_option maxHeartbeats 4000000 in
theorem asked_any (m : Mp) (x y : Nat) (w : World) (hm : MapOk m) (hx : x < m.n) (hy : y < m.n) (hE : Sl w m.oe 12 (m.es.map Ed.vals)) :
    Calls Try.prog 43 #[.agg #[.slice m.op m.n m.cp, .slice m.oe m.es.length m.ce], .int .i64 (x : Nat), .int .i64 (y : Nat)] w (BoolP true w) := by
  have hfm := fun X => formed_any m X hm
  have HF := Lib.hid hfm
  have d1 : decide ((x : Int) ≥ 0) = true := decide_eq_true (by omega)
  have d2 : decide ((y : Int) ≥ 0) = true := decide_eq_true (by omega)
  have d3 : decide ((x : Int) < (m.n : Int)) = true := decide_eq_true (by omega)
  have d4 : decide ((y : Int) < (m.n : Int)) = true := decide_eq_true (by omega)
  clear hfm hm
  go_enter Try.func43, Try.ntmps43
  go_upto_region 1 with fail
  have hbx_ := boxes1 w [.slice m.op m.n m.cp, .slice m.oe m.es.length m.ce] 43
  replace hE := hE.keep hbx_.2
  have HB := Lib.hid (hbx_.2)
  generalize w.alloc (.cells #[.slice m.op m.n m.cp, .slice m.oe m.es.length m.ce] 43) = W0 at hbx_ hE HB ⊢
  obtain ⟨r3, hbel_⟩ := hbx_
  obtain ⟨n3, hn_⟩ : ∃ n, n = w.heap.size := ⟨_, rfl⟩
  rw [← hn_] at r3 ⊢
  clear hn_ hbel_
  have HE := Lib.hid hE
  have a0 : W0.cell? ⟨n3, 0, none⟩ = some (.slice m.op m.n m.cp) := r3.c 0 _ rfl
  have a1 : W0.cell? ⟨n3, 1, none⟩ = some (.slice m.oe m.es.length m.ce) := r3.c 1 _ rfl
  have l3 := r3.lt
  have HR3 := Lib.hid r3
  clear hE r3
  go_wp2_with fail
  with_reducible refine (HF.out _ HE.out).mono ?_
  rintro e X ⟨rfl, hb⟩
  have r3 := HR3.out.keep hb
  clear a0 a1 l3
  have a0 : X.cell? ⟨n3, 0, none⟩ = some (.slice m.op m.n m.cp) := r3.c 0 _ rfl
  have l3 := r3.lt
  have HX := Lib.hid hb
  clear r3 hb HR3
  go_wp2_with fail
  go_ret
  exact boolP_mk rfl (below_call HB.out HX.out)
end Go.Proofs.Jn
end

