/-
  Texts put together: Do Kl.
-/
import Derived.Test.YtemchlakoalhcaaZJointMoves11
import Derived.Deep.Slices
import Derived.OpenShut
import Derived.ChangeArms
import Derived.ProofKit
import Derived.ChangeSame
import Derived.Carry
import Derived.Below
import Derived.Lib.SmallJoins
import Derived.Test.YtemchlakoalhcaaZJointMoves24
set_option linter.unusedVariables false
section
/-
  What the readings of the arguments say of memory.
-/
namespace Go.Proofs.Jn
open Go.RowKit
theorem list_of {A : Type} (P : Nat → A → Prop) : ∀ n : Nat, (∀ i, i < n → ∃ r, P i r) → ∃ rs : List A, rs.length = n ∧ ∀ (i : Nat) (r : A), rs[i]? = some r → P i r
  | 0, _ => ⟨[], rfl, fun i r h => by simp at h⟩
  | n + 1, h => by
    obtain ⟨rs, hl, hr⟩ := list_of P n fun i hi => h i (by omega)
    obtain ⟨r, hp⟩ := h n (by omega)
    refine ⟨rs ++ [r], by simp [hl], fun i r' hi => ?_⟩
    rcases Nat.lt_or_ge i rs.length with hlt | hge
    · rw [List.getElem?_append_left hlt] at hi
      exact hr i r' hi
    · rw [List.getElem?_append_right hge] at hi
      have : i = n := by
        rcases Nat.eq_or_lt_of_le hge with h | h
        · omega
        · rw [List.getElem?_eq_none (by simp; omega)] at hi; cases hi
      subst this
      have e : i - rs.length = 0 := by omega
      rw [e] at hi
      simp at hi
      subst hi
      exact hp

/-- A slice that is read lies in memory, row for row. -/
theorem open_rows {H : Type} {enc : TypeId × Value → H} {P : Program} {w : World} {base : Nat} {spare : Nat → Bool} {held : Bool} {A : Type} (f : A → List Value) {t e : TypeId} {n fuel : Nat} {v : Value} {x : DataW H × List MemPlace} (ht : P.underlying t = some (.slice e)) (hc : P.cellsOf e = n) (hn : 0 < n)
    (hrow : ∀ (m : Nat) (cs : List Value) (y : DataW H × List MemPlace), DataW.trod enc P w base spare held m e cs = some y → ∃ r : A, cs = f r)
    (h : DataW.trod enc P w base spare held fuel t [v] = some x) : ∃ (oa : Option Addr) (cap : Nat) (rs : List A), v = .slice oa rs.length cap ∧ rs.length ≤ 9223372036854775807 ∧ Sl w oa n (rs.map f) := by
  rcases Go.Deep.open_slice ht h with ⟨h0, _⟩ | ⟨a, len, cap, m, k, D, Pl, h1, hb, hl, hm, hmm, _, hx⟩
  · injection h0 with h0 _
    subst h0
    exact ⟨none, 0, [], rfl, by simp, fun h => absurd rfl h⟩
  · injection h1 with h1 _
    subst h1
    have hlm : len ≤ m := by rw [hmm]; split <;> omega
    obtain ⟨rs, hrl, hr⟩ := list_of (fun i r => w.cells? base (a.add (i * n)) n = some (f r)) len (fun i hi => by
      obtain ⟨cs, c1, c2⟩ := hx i (by omega)
      rw [hc] at c1
      obtain ⟨r, rfl⟩ := hrow _ _ _ c2
      exact ⟨r, c1⟩)
    subst hrl
    refine ⟨some a, cap, rs, rfl, by unfold maxLen at hm; omega, fun hne => ?_⟩
    have hne' : rs ≠ [] := fun h => hne (by simp [h])
    have cell : ∀ (i : Nat) (r : A), rs[i]? = some r → ∀ q u, (f r)[q]? = some u → w.cell? ((a.add (i * n)).add q) = some u := by
      intro i r hi q u hq
      obtain ⟨_, c2, c3⟩ := World.cells?_some (hr i r hi)
      have hqn : q < n := by
        rcases Nat.lt_or_ge q (f r).length with h' | h'
        · omega
        · rw [List.getElem?_eq_none h'] at hq; cases hq
      rw [c3 q hqn, hq]
    -- the slice's address has no spot
    have sp : a.spot = none := by
      cases rs with
      | nil => exact absurd rfl hne'
      | cons r0 rt =>
        obtain ⟨_, c2, c3⟩ := World.cells?_some (hr 0 r0 rfl)
        have c4 := c3 0 hn
        have : (f r0)[0]? = some ((f r0)[0]'(by omega)) := List.getElem?_eq_getElem _
        rw [this] at c4
        cases hs : a.spot with
        | none => rfl
        | some s =>
          exfalso
          have e0 : ((a.add (0 * n)).add 0) = a := by simp [Addr.add]
          rw [e0] at c4
          unfold World.cell? at c4
          rw [hs] at c4
          revert c4
          cases w.heap[a.block]? with
          | none => simp
          | some o => cases o <;> simp
    obtain ⟨b, off, sp'⟩ := a
    simp at sp
    subst sp
    refine ⟨b, off, rfl, ?_, fun i r hi q u hq => ?_⟩
    · cases rs with
      | nil => exact absurd rfl hne'
      | cons r0 rt =>
        obtain ⟨_, c2, c3⟩ := World.cells?_some (hr 0 r0 rfl)
        have c4 := c3 0 hn
        have : (f r0)[0]? = some ((f r0)[0]'(by omega)) := List.getElem?_eq_getElem _
        rw [this] at c4
        rcases Nat.lt_or_ge b w.heap.size with h' | h'
        · exact h'
        · exfalso
          have e0 : (((⟨b, off, none⟩ : Addr).add (0 * n)).add 0) = ⟨b, off, none⟩ := by simp [Addr.add]
          rw [e0] at c4
          simp [World.cell?, Array.getElem?_eq_none h'] at c4
    · rw [List.getElem?_map] at hi
      cases hri : rs[i]? with
      | none => rw [hri] at hi; cases hi
      | some r' =>
        rw [hri] at hi
        simp at hi
        subst hi
        rw [← cell i r' hri q u hq]
        congr 1
        simp only [Addr.add]
        split <;> split <;> simp_all <;> omega

theorem row_int {H : Type} {enc : TypeId × Value → H} {w : World} {base : Nat} {spare : Nat → Bool} {held : Bool} (e : TypeId) (hu : Try.prog.underlying e = some (.int .i64)) (m : Nat) (cs : List Value) (y : DataW H × List MemPlace) (h : DataW.trod enc Try.prog w base spare held m e cs = some y) : ∃ r : Int, cs = [.int .i64 r] := by
  obtain ⟨n, rfl, _⟩ := DataW.trod_int hu h
  exact ⟨n, rfl⟩
theorem clo3 : Try.prog.cellsOf 3 = 1 := by kernel_rfl
theorem open_nums {H : Type} {enc : TypeId × Value → H} {w : World} {base : Nat} {spare : Nat → Bool} {held : Bool} {t e : TypeId} {fuel : Nat} {v : Value} {x : DataW H × List MemPlace} (ht : Try.prog.underlying t = some (.slice e)) (hu : Try.prog.underlying e = some (.int .i64)) (hc : Try.prog.cellsOf e = 1)
    (h : DataW.trod enc Try.prog w base spare held fuel t [v] = some x) : ∃ (oa : Option Addr) (cap : Nat) (rs : List Int), v = .slice oa rs.length cap ∧ rs.length ≤ 9223372036854775807 ∧ Sl w oa 1 (pvals rs) :=
  open_rows (fun p : Int => [.int .i64 p]) ht hc (by omega) (row_int e hu) h
theorem laidOut : laidOutB Try.prog = true := by kernel_rfl
open Go.ChangeShapes Go.WideShapes Go.ChangeAt
set_option linter.unusedVariables false
/-- The post, of a world of which it is known that nothing that stood before has changed. -/
theorem post_below {H : Type} {enc : TypeId × Value → H} {P : Program} {f : Func} {s : ChangeSpec} {apart fresh handsOn again : Bool} {W W' : World} {args : Array Value} {v : Value} {ds gs : List (DataW H)} {before pa pv : List MemPlace}
    (hW : DataW.Whole enc P f.params.toList s.vars apart W args.toList ds gs before)
    (hres : ∀ (b : Nat) (sp : Nat → Bool) (hd : Bool), DataW.TrodAll enc P W' b sp hd f.resultTypes.toList (v.resultList f.resultTypes.size) (s.fn H (ds ++ gs)).results [])
    (hargs : ∀ sp : Nat → Bool, (∀ p ∈ before, sp p.block = true) → DataW.TrodAll enc P W' 0 sp true f.params.toList args.toList (s.fn H (ds ++ gs)).args pa)
    (hvars : ∀ sp : Nat → Bool, (∀ p ∈ before, sp p.block = true) → DataW.TrodVars enc P W' sp s.vars (s.fn H (ds ++ gs)).vars pv)
    (hps : before = pa ++ pv) (hb : Below W.heap.size W W')
    (hok : ∀ (j : Nat) (t : TypeId) (r : Value), f.resultTypes[j]? = some t → (v.resultList f.resultTypes.size)[j]? = some r → Value.okWide P W' .any 0 t r) :
    s.post enc P f apart fresh handsOn again W args v W' := by
  have hlt : ∀ p ∈ before, p.block < W.heap.size := fun p hp => hW.lt p hp
  have hold : ∀ p ∈ before, (fun b => decide (b < W.heap.size)) p.block = true := fun p hp => by simpa using hlt p hp
  refine ⟨ds, gs, before, [], pa, pv, hW, hres _ _ _, hargs _ hold, hvars _ hold, World.keptBut_mono (fun p hp => ⟨hp, ?_⟩) (hb.frame (· ∈ before)), fun _ => ?_⟩
  · rw [hps, List.mem_append] at hp
    exact Or.inr hp
  · obtain ⟨_, _, _, _, _, hz, hn⟩ := hW
    refine ⟨hok, _, _, ([] ++ pa) ++ pv, ⟨[] ++ pa, pv, trodAll_append (hargs _ (fun _ _ => rfl)) (hres _ _ _), hvars _ (fun _ _ => rfl), rfl, ?_, ?_⟩, ?_⟩
    · intro b off hp
      have hin : MemPlace.cell b off ∈ before := by rw [hps]; simpa using hp
      rw [hb.frozen (hlt _ hin)]
      exact hz b off hin
    · intro ha
      have := hn ha
      rw [hps] at this
      simpa using this
    · intro p hp _
      rw [hps]
      simpa using hp


/-- What was read reads as it did. -/
theorem stays {H : Type} {enc : TypeId × Value → H} {P : Program} (hl : laidOutB P = true) {W W' : World} {sp' : Nat → Bool} : ∀ (ts : List TypeId) (vs : List Value) (ds : List (DataW H)) (ps : List MemPlace), (∀ t ∈ ts, P.readableRec t = true ∧ t < P.types.size) →
    DataW.TrodAll enc P W 0 (fun _ => true) true ts vs ds ps → (∀ p ∈ ps, W.sameAt W' p) → (∀ p ∈ ps, sp' p.block = true) → DataW.TrodAll enc P W' 0 sp' true ts vs ds ps
  | [], [], [], ps, _, h, _, _ => h
  | t :: ts, v :: vs, d :: ds, ps, ht, h, h1, h2 => by
    obtain ⟨p, q, a, b, rfl⟩ := h
    exact ⟨p, q, WideElems.Trod_stays hl (ht t (by simp)).1 (ht t (by simp)).2 a (fun x hx => h1 x (by simp [hx])) (fun x hx => h2 x (by simp [hx])), stays hl ts vs ds q (fun t h => ht t (by simp [h])) b (fun x hx => h1 x (by simp [hx])) (fun x hx => h2 x (by simp [hx])), rfl⟩
  | [], _ :: _, _, _, _, h, _, _ => by simp [DataW.TrodAll] at h
  | [], [], _ :: _, _, _, h, _, _ => by simp [DataW.TrodAll] at h
  | _ :: _, [], _, _, _, h, _, _ => by simp [DataW.TrodAll] at h
  | _ :: _, _ :: _, [], _, _, h, _, _ => by simp [DataW.TrodAll] at h

theorem own37 : ownKnob Try.prog.godebug = none := by kernel_rfl
theorem read22 : Try.prog.readableRec 22 = true ∧ 22 < Try.prog.types.size := ⟨by kernel_rfl, of_decide_eq_true (by kernel_rfl)⟩
theorem read3 : Try.prog.readableRec 3 = true ∧ 3 < Try.prog.types.size := ⟨by kernel_rfl, of_decide_eq_true (by kernel_rfl)⟩
end Go.Proofs.Jn
end

section
/-
  What the readings of an arbitrary team say of memory.
-/
namespace Go.Proofs.Jn
open Go.RowKit

theorem clo2 : Try.prog.cellsOf 2 = 1 := by kernel_rfl
theorem clo40 : Try.prog.cellsOf 40 = 1 := by kernel_rfl
theorem clo41 : Try.prog.cellsOf 41 = 1 := by kernel_rfl
theorem clo43 : Try.prog.cellsOf 43 = 2 := by kernel_rfl
theorem clo44 : Try.prog.cellsOf 44 = 1 := by kernel_rfl
theorem clo45 : Try.prog.cellsOf 45 = 1 := by kernel_rfl
theorem clo47 : Try.prog.cellsOf 47 = 3 := by kernel_rfl
theorem clo48 : Try.prog.cellsOf 48 = 1 := by kernel_rfl
theorem clo50 : Try.prog.cellsOf 50 = 3 := by kernel_rfl
theorem clo52 : Try.prog.cellsOf 52 = 8 := by kernel_rfl
theorem clo54 : Try.prog.cellsOf 54 = 12 := by kernel_rfl
theorem clo65 : Try.prog.cellsOf 65 = 3 := by kernel_rfl
theorem clo74 : Try.prog.cellsOf 74 = 6 := by kernel_rfl
theorem clo26 : Try.prog.cellsOf 26 = 2 := by kernel_rfl
theorem get_some' {A : Type} {xs : List A} {n i : Nat} (h : xs.length = n) (hi : i < n) : ∃ y, xs[i]? = some y := ⟨_, List.getElem?_eq_getElem (by omega)⟩
theorem cell_sli {H : Type} {enc : TypeId × Value → H} {w : World} {base : Nat} {spare : Nat → Bool} {held : Bool} {m : Nat} {t e : TypeId} {v : Value} {y : DataW H × List MemPlace} (ht : Try.prog.underlying t = some (.slice e)) (h : DataW.trod enc Try.prog w base spare held m t [v] = some y) : ∃ s : Sli, v = .slice s.a s.n s.c := by
  rcases Go.Deep.open_slice ht h with ⟨h0, _⟩ | ⟨a, len, cap, _, _, _, _, h1, _⟩
  · injection h0 with h0 _
    exact ⟨⟨none, 0, 0⟩, h0⟩
  · injection h1 with h1 _
    exact ⟨⟨some a, len, cap⟩, h1⟩
set_option maxRecDepth 100000 in
theorem row_at3 {H : Type} {enc : TypeId × Value → H} {w : World} {base : Nat} {spare : Nat → Bool} {held : Bool} {m : Nat} {a b c : Value} {y : DataW H × List MemPlace} (h : DataW.trod enc Try.prog w base spare held m 47 [a, b, c] = some y) : ∃ (x y : Int) (s : Sli), a = .int .i64 x ∧ b = .int .i64 y ∧ c = .slice s.a s.n s.c := by
  obtain ⟨xs, n, _, _, hc, hl, hf⟩ := DataW.trod_struct Try.underlying47 h
  have hl' : xs.length = 3 := hl
  obtain ⟨y0, g0⟩ := get_some' hl' (i := 0) (by omega)
  have h0 : DataW.trod enc Try.prog w base spare held n 3 (List.take (Try.prog.cellsOf 3) (List.drop 0 ([a, b, c] : List Value))) = xs[0]? := hf 0 _ rfl
  simp only [g0] at h0
  obtain ⟨y1, g1⟩ := get_some' hl' (i := 1) (by omega)
  have h1 : DataW.trod enc Try.prog w base spare held n 2 (List.take (Try.prog.cellsOf 2) (List.drop 1 ([a, b, c] : List Value))) = xs[1]? := hf 1 _ rfl
  simp only [g1] at h1
  obtain ⟨y2, g2⟩ := get_some' hl' (i := 2) (by omega)
  have h2 : DataW.trod enc Try.prog w base spare held n 45 (List.take (Try.prog.cellsOf 45) (List.drop 2 ([a, b, c] : List Value))) = xs[2]? := hf 2 _ rfl
  simp only [g2] at h2
  obtain ⟨x0, e0⟩ := row_int 3 Try.underlying3 _ _ _ h0
  obtain ⟨x1, e1⟩ := row_int 2 Try.underlying2 _ _ _ h1
  rw [clo45] at h2
  obtain ⟨s, e2⟩ := cell_sli Try.underlying45 h2
  simp [clo2, clo3] at e0 e1
  exact ⟨x0, x1, s, e0, e1, e2⟩
set_option maxRecDepth 100000 in
theorem row_wit {H : Type} {enc : TypeId × Value → H} {w : World} {base : Nat} {spare : Nat → Bool} {held : Bool} {m : Nat} {a b c : Value} {y : DataW H × List MemPlace} (h : DataW.trod enc Try.prog w base spare held m 50 [a, b, c] = some y) : ∃ (x : Int) (s t : Sli), a = .int .i64 x ∧ b = .slice s.a s.n s.c ∧ c = .slice t.a t.n t.c := by
  obtain ⟨xs, n, _, _, hc, hl, hf⟩ := DataW.trod_struct Try.underlying50 h
  have hl' : xs.length = 3 := hl
  obtain ⟨y0, g0⟩ := get_some' hl' (i := 0) (by omega)
  have h0 : DataW.trod enc Try.prog w base spare held n 3 (List.take (Try.prog.cellsOf 3) (List.drop 0 ([a, b, c] : List Value))) = xs[0]? := hf 0 _ rfl
  simp only [g0] at h0
  obtain ⟨y1, g1⟩ := get_some' hl' (i := 1) (by omega)
  have h1 : DataW.trod enc Try.prog w base spare held n 48 (List.take (Try.prog.cellsOf 48) (List.drop 1 ([a, b, c] : List Value))) = xs[1]? := hf 1 _ rfl
  simp only [g1] at h1
  obtain ⟨y2, g2⟩ := get_some' hl' (i := 2) (by omega)
  have h2 : DataW.trod enc Try.prog w base spare held n 48 (List.take (Try.prog.cellsOf 48) (List.drop 2 ([a, b, c] : List Value))) = xs[2]? := hf 2 _ rfl
  simp only [g2] at h2
  obtain ⟨x0, e0⟩ := row_int 3 Try.underlying3 _ _ _ h0
  rw [clo48] at h1 h2
  obtain ⟨s, e1⟩ := cell_sli Try.underlying48 h1
  obtain ⟨t, e2⟩ := cell_sli Try.underlying48 h2
  simp [clo3] at e0
  exact ⟨x0, s, t, e0, e1, e2⟩
set_option maxRecDepth 100000 in
theorem row_res {H : Type} {enc : TypeId × Value → H} {w : World} {base : Nat} {spare : Nat → Bool} {held : Bool} {m : Nat} {c0 c1 c2 c3 c4 c5 c6 c7 : Value} {y : DataW H × List MemPlace} (h : DataW.trod enc Try.prog w base spare held m 52 [c0, c1, c2, c3, c4, c5, c6, c7] = some y) :
    ∃ (k0 : Int) (s1 : Sli) (k2 k3 : Int) (s4 : Sli) (k5 : Int) (s6 s7 : Sli), c0 = .int .i64 k0 ∧ c1 = .slice s1.a s1.n s1.c ∧ c2 = .int .i64 k2 ∧ c3 = .int .i64 k3 ∧ c4 = .slice s4.a s4.n s4.c ∧ c5 = .int .i64 k5 ∧ c6 = .slice s6.a s6.n s6.c ∧ c7 = .slice s7.a s7.n s7.c := by
  obtain ⟨xs, n, _, _, hc, hl, hf⟩ := DataW.trod_struct Try.underlying52 h
  have hl' : xs.length = 4 := hl
  obtain ⟨y0, g0⟩ := get_some' hl' (i := 0) (by omega)
  have h0 : DataW.trod enc Try.prog w base spare held n 3 (List.take (Try.prog.cellsOf 3) (List.drop 0 ([c0, c1, c2, c3, c4, c5, c6, c7] : List Value))) = xs[0]? := hf 0 _ rfl
  simp only [g0] at h0
  obtain ⟨y1, g1⟩ := get_some' hl' (i := 1) (by omega)
  have h1 : DataW.trod enc Try.prog w base spare held n 44 (List.take (Try.prog.cellsOf 44) (List.drop 1 ([c0, c1, c2, c3, c4, c5, c6, c7] : List Value))) = xs[1]? := hf 1 _ rfl
  simp only [g1] at h1
  obtain ⟨y2, g2⟩ := get_some' hl' (i := 2) (by omega)
  have h2 : DataW.trod enc Try.prog w base spare held n 47 (List.take (Try.prog.cellsOf 47) (List.drop 2 ([c0, c1, c2, c3, c4, c5, c6, c7] : List Value))) = xs[2]? := hf 2 _ rfl
  simp only [g2] at h2
  obtain ⟨y3, g3⟩ := get_some' hl' (i := 3) (by omega)
  have h3 : DataW.trod enc Try.prog w base spare held n 50 (List.take (Try.prog.cellsOf 50) (List.drop 5 ([c0, c1, c2, c3, c4, c5, c6, c7] : List Value))) = xs[3]? := hf 3 _ rfl
  simp only [g3] at h3
  obtain ⟨x0, e0⟩ := row_int 3 Try.underlying3 _ _ _ h0
  rw [clo44] at h1
  obtain ⟨s, e1⟩ := cell_sli Try.underlying44 h1
  rw [clo47] at h2
  rw [clo50] at h3
  obtain ⟨x2, x3, s4, e2, e3, e4⟩ := row_at3 h2
  obtain ⟨x5, s6, s7, e5, e6, e7⟩ := row_wit h3
  simp [clo3] at e0
  exact ⟨x0, s, x2, x3, s4, x5, s6, s7, e0, e1, e2, e3, e4, e5, e6, e7⟩
set_option maxRecDepth 100000 in
theorem row_edge {H : Type} {enc : TypeId × Value → H} {w : World} {base : Nat} {spare : Nat → Bool} {held : Bool} (m : Nat) (cs : List Value) (y : DataW H × List MemPlace) (h : DataW.trod enc Try.prog w base spare held m 54 cs = some y) : ∃ r : Er, cs = r.vals := by
  obtain ⟨xs, n, _, _, hc, hl, hf⟩ := DataW.trod_struct Try.underlying54 h
  rw [clo54] at hc
  match cs, hc with
  | [c0, c1, c2, c3, c4, c5, c6, c7, c8, c9, c10, c11], _ =>
    have hl' : xs.length = 5 := hl
    obtain ⟨y0, g0⟩ := get_some' hl' (i := 0) (by omega)
    have h0 : DataW.trod enc Try.prog w base spare held n 3 (List.take (Try.prog.cellsOf 3) (List.drop 0 ([c0, c1, c2, c3, c4, c5, c6, c7, c8, c9, c10, c11] : List Value))) = xs[0]? := hf 0 _ rfl
    simp only [g0] at h0
    obtain ⟨y1, g1⟩ := get_some' hl' (i := 1) (by omega)
    have h1 : DataW.trod enc Try.prog w base spare held n 3 (List.take (Try.prog.cellsOf 3) (List.drop 1 ([c0, c1, c2, c3, c4, c5, c6, c7, c8, c9, c10, c11] : List Value))) = xs[1]? := hf 1 _ rfl
    simp only [g1] at h1
    obtain ⟨y2, g2⟩ := get_some' hl' (i := 2) (by omega)
    have h2 : DataW.trod enc Try.prog w base spare held n 2 (List.take (Try.prog.cellsOf 2) (List.drop 2 ([c0, c1, c2, c3, c4, c5, c6, c7, c8, c9, c10, c11] : List Value))) = xs[2]? := hf 2 _ rfl
    simp only [g2] at h2
    obtain ⟨y3, g3⟩ := get_some' hl' (i := 3) (by omega)
    have h3 : DataW.trod enc Try.prog w base spare held n 3 (List.take (Try.prog.cellsOf 3) (List.drop 3 ([c0, c1, c2, c3, c4, c5, c6, c7, c8, c9, c10, c11] : List Value))) = xs[3]? := hf 3 _ rfl
    simp only [g3] at h3
    obtain ⟨y4, g4⟩ := get_some' hl' (i := 4) (by omega)
    have h4 : DataW.trod enc Try.prog w base spare held n 52 (List.take (Try.prog.cellsOf 52) (List.drop 4 ([c0, c1, c2, c3, c4, c5, c6, c7, c8, c9, c10, c11] : List Value))) = xs[4]? := hf 4 _ rfl
    simp only [g4] at h4
    obtain ⟨x0, e0⟩ := row_int 3 Try.underlying3 _ _ _ h0
    obtain ⟨x1, e1⟩ := row_int 3 Try.underlying3 _ _ _ h1
    obtain ⟨x2, e2⟩ := row_int 2 Try.underlying2 _ _ _ h2
    obtain ⟨x3, e3⟩ := row_int 3 Try.underlying3 _ _ _ h3
    rw [clo52] at h4
    obtain ⟨k0, s1, k2, k3, s4, k5, s6, s7, f0, f1, f2, f3, f4, f5, f6, f7⟩ := row_res h4
    simp [clo2, clo3] at e0 e1 e2 e3
    subst e0 e1 e2 e3 f0 f1 f2 f3 f4 f5 f6 f7
    exact ⟨⟨x0, x1, x2, x3, k0, s1, k2, k3, s4, k5, s6, s7⟩, rfl⟩
set_option maxRecDepth 100000 in
theorem row_move {H : Type} {enc : TypeId × Value → H} {w : World} {base : Nat} {spare : Nat → Bool} {held : Bool} {m : Nat} {a b c : Value} {y : DataW H × List MemPlace} (h : DataW.trod enc Try.prog w base spare held m 65 [a, b, c] = some y) : ∃ r : Rv, a = .int .i64 r.arm ∧ b = .int .i64 r.x ∧ c = .int .i64 r.y := by
  obtain ⟨xs, n, _, _, hc, hl, hf⟩ := DataW.trod_struct Try.underlying65 h
  have hl' : xs.length = 3 := hl
  obtain ⟨y0, g0⟩ := get_some' hl' (i := 0) (by omega)
  have h0 : DataW.trod enc Try.prog w base spare held n 3 (List.take (Try.prog.cellsOf 3) (List.drop 0 ([a, b, c] : List Value))) = xs[0]? := hf 0 _ rfl
  simp only [g0] at h0
  obtain ⟨y1, g1⟩ := get_some' hl' (i := 1) (by omega)
  have h1 : DataW.trod enc Try.prog w base spare held n 3 (List.take (Try.prog.cellsOf 3) (List.drop 1 ([a, b, c] : List Value))) = xs[1]? := hf 1 _ rfl
  simp only [g1] at h1
  obtain ⟨y2, g2⟩ := get_some' hl' (i := 2) (by omega)
  have h2 : DataW.trod enc Try.prog w base spare held n 3 (List.take (Try.prog.cellsOf 3) (List.drop 2 ([a, b, c] : List Value))) = xs[2]? := hf 2 _ rfl
  simp only [g2] at h2
  obtain ⟨x0, e0⟩ := row_int 3 Try.underlying3 _ _ _ h0
  obtain ⟨x1, e1⟩ := row_int 3 Try.underlying3 _ _ _ h1
  obtain ⟨x2, e2⟩ := row_int 3 Try.underlying3 _ _ _ h2
  simp [clo3] at e0 e1 e2
  exact ⟨⟨x0, x1, x2⟩, e0, e1, e2⟩
set_option maxRecDepth 100000 in
theorem row_conf {H : Type} {enc : TypeId × Value → H} {w : World} {base : Nat} {spare : Nat → Bool} {held : Bool} (m : Nat) (cs : List Value) (y : DataW H × List MemPlace) (h : DataW.trod enc Try.prog w base spare held m 74 cs = some y) : ∃ r : Rc, cs = r.vals := by
  obtain ⟨xs, n, _, _, hc, hl, hf⟩ := DataW.trod_struct Try.underlying74 h
  rw [clo74] at hc
  match cs, hc with
  | [c0, c1, c2, c3, c4, c5], _ =>
    have hl' : xs.length = 2 := hl
    obtain ⟨y0, g0⟩ := get_some' hl' (i := 0) (by omega)
    have h0 : DataW.trod enc Try.prog w base spare held n 65 (List.take (Try.prog.cellsOf 65) (List.drop 0 ([c0, c1, c2, c3, c4, c5] : List Value))) = xs[0]? := hf 0 _ rfl
    simp only [g0] at h0
    obtain ⟨y1, g1⟩ := get_some' hl' (i := 1) (by omega)
    have h1 : DataW.trod enc Try.prog w base spare held n 65 (List.take (Try.prog.cellsOf 65) (List.drop 3 ([c0, c1, c2, c3, c4, c5] : List Value))) = xs[1]? := hf 1 _ rfl
    simp only [g1] at h1
    rw [clo65] at h0 h1
    obtain ⟨a, e0, e1, e2⟩ := row_move h0
    obtain ⟨b, f0, f1, f2⟩ := row_move h1
    subst e0 e1 e2 f0 f1 f2
    exact ⟨⟨a, b⟩, rfl⟩
set_option maxRecDepth 100000 in
theorem row_map {H : Type} {enc : TypeId × Value → H} {w : World} {base : Nat} {spare : Nat → Bool} {held : Bool} (m : Nat) (cs : List Value) (y : DataW H × List MemPlace) (h : DataW.trod enc Try.prog w base spare held m 43 cs = some y) : ∃ r : { r : Rm // Sl w r.oe 12 (r.es.map Er.vals) }, cs = r.1.vals := by
  obtain ⟨xs, n, _, _, hc, hl, hf⟩ := DataW.trod_struct Try.underlying43 h
  rw [clo43] at hc
  match cs, hc with
  | [c0, c1], _ =>
    have hl' : xs.length = 2 := hl
    obtain ⟨y0, g0⟩ := get_some' hl' (i := 0) (by omega)
    have h0 : DataW.trod enc Try.prog w base spare held n 40 (List.take (Try.prog.cellsOf 40) (List.drop 0 ([c0, c1] : List Value))) = xs[0]? := hf 0 _ rfl
    simp only [g0] at h0
    obtain ⟨y1, g1⟩ := get_some' hl' (i := 1) (by omega)
    have h1 : DataW.trod enc Try.prog w base spare held n 41 (List.take (Try.prog.cellsOf 41) (List.drop 1 ([c0, c1] : List Value))) = xs[1]? := hf 1 _ rfl
    simp only [g1] at h1
    rw [clo40] at h0
    rw [clo41] at h1
    obtain ⟨s, e0⟩ := cell_sli Try.underlying40 h0
    obtain ⟨oa, cap, rs, e1, -, hs⟩ := open_rows Er.vals Try.underlying41 clo54 (by omega) row_edge h1
    subst e0 e1
    exact ⟨⟨⟨s.n, s.a, s.c, oa, cap, rs⟩, hs⟩, rfl⟩
set_option maxRecDepth 100000 in
/-- A team that is read. -/
theorem open_team {H : Type} {enc : TypeId × Value → H} {w : World} {base b0 : Nat} {spare : Nat → Bool} {held : Bool} {r : Go.Reach} {v : Value} {d : DataW H} {p : List MemPlace} (hv : Value.okWide Try.prog w r b0 26 v) (h : DataW.Trod enc Try.prog w base spare held 26 v d p) :
    ∃ (om oc : Option Addr) (cm cc : Nat) (ms : List Rm) (cs : List Rc), v = .agg #[.slice om ms.length cm, .slice oc cs.length cc] ∧ ms.length ≤ 9223372036854775807 ∧ cs.length ≤ 9223372036854775807 ∧ RawAt w om oc ms cs := by
  obtain ⟨v0, v1, y0, y1, n, rfl, -, -, h0, h1⟩ := Go.Joins.open_agg2 Try.underlying26 (by kernel_rfl) clo26 hv h
  obtain ⟨om, cm, rs, rfl, hl, hs⟩ := open_rows (fun r : { r : Rm // Sl w r.oe 12 (r.es.map Er.vals) } => r.1.vals) Try.underlying23 clo43 (by omega) row_map h0
  obtain ⟨oc, cc, cs, rfl, hl2, hs2⟩ := open_rows Rc.vals Try.underlying24 clo74 (by omega) row_conf h1
  refine ⟨om, oc, cm, cc, rs.map (·.1), cs, by rw [List.length_map], by rw [List.length_map]; exact hl, hl2, ⟨by rw [List.map_map]; exact hs, hs2, fun m hm => ?_⟩⟩
  obtain ⟨x, -, rfl⟩ := List.mem_map.1 hm
  exact x.2
theorem read26 : Try.prog.readableRec 26 = true ∧ 26 < Try.prog.types.size := ⟨by kernel_rfl, of_decide_eq_true (by kernel_rfl)⟩
end Go.Proofs.Jn
end

