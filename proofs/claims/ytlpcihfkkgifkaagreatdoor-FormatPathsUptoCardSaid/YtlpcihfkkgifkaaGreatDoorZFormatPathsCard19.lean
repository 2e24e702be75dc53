/-
  Texts put together: Co Dh Di FormatPaths.
-/
import Derived.Test.YtlpcihfkkgifkaaGreatDoorZFormatPathsCard1
import Derived.Deep.Slices
import Derived.OpenShut
import Derived.ChangeArms
import Derived.ProofKit
import Derived.ChangeSame
import Derived.Carry
import Derived.Below
import Derived.Lib.SmallJoins
import Derived.Test.YtlpcihfkkgifkaaGreatDoorZFormatPathsCard18
import Derived.Test.YtlpcihfkkgifkaaGreatDoorRows
import Derived.Stop.LaidErr
import Derived.Lib.LaidTab
import Derived.MakeChecks
import Derived.LaidMore
import Derived.LaidHandle
import Derived.WalkKit
import Derived.SizedLaws
import Derived.JoinedCond
import Derived.ChangeMaps5
import Derived.Deep.DeepHandedRow
import Derived.Deep.DeepWitnessRowRef
set_option linter.unusedVariables false
section
/-
  What the readings of the arguments say of memory.
-/
namespace Go.Proofs.Ng
open Go.RowKit
theorem list_of {A : Type} (P : Nat → A → Prop) : ∀ n : Nat, (∀ i, i < n → ∃ r, P i r) → ∃ rs : List A, rs.length = n ∧ ∀ (i : Nat) (r : A), rs[i]? = some r → P i r
  | 0, _ => ⟨[], rfl, fun i r h => by simp at h⟩
  | n + 1, h => by
    obtain ⟨rs, hl, hr⟩ := list_of P n fun i hi => h i (by omega)
    obtain ⟨r, hp⟩ := h n (by omega)
    refine ⟨rs ++ [r], by simp [hl], fun i r' hi => ?_⟩
    rcases Nat.lt_or_ge i rs.length with hlt | hge
    · rw [List.getElem?_append_left hlt] at hi
      exact hr i r' hi
    · rw [List.getElem?_append_right hge] at hi
      have : i = n := by
        rcases Nat.eq_or_lt_of_le hge with h | h
        · omega
        · rw [List.getElem?_eq_none (by simp; omega)] at hi; cases hi
      subst this
      have e : i - rs.length = 0 := by omega
      rw [e] at hi
      simp at hi
      subst hi
      exact hp

/-- A slice that is read lies in memory, row for row. -/
theorem open_rows {H : Type} {enc : TypeId × Value → H} {P : Program} {w : World} {base : Nat} {spare : Nat → Bool} {held : Bool} {A : Type} (f : A → List Value) {t e : TypeId} {n fuel : Nat} {v : Value} {x : DataW H × List MemPlace} (ht : P.underlying t = some (.slice e)) (hc : P.cellsOf e = n) (hn : 0 < n)
    (hrow : ∀ (m : Nat) (cs : List Value) (y : DataW H × List MemPlace), cs.length = n → DataW.trod enc P w base spare held m e cs = some y → ∃ r : A, cs = f r)
    (h : DataW.trod enc P w base spare held fuel t [v] = some x) : ∃ (oa : Option Addr) (cap : Nat) (rs : List A), v = .slice oa rs.length cap ∧ rs.length ≤ 9223372036854775807 ∧ Sl w oa n (rs.map f) ∧ (oa = none → rs = [] ∧ cap = 0) ∧ (x.1 = .nil ∧ rs = [] ∨ ∃ elems spare, x.1 = .slice elems spare ∧ elems.length = rs.length) := by
  rcases Go.Deep.open_slice ht h with ⟨h0, hx0⟩ | ⟨a, len, cap, m, k, D, Pl, h1, hb, hl, hm, hmm, hx0, hx⟩
  · injection h0 with h0 _
    subst h0
    exact ⟨none, 0, [], rfl, by simp, fun h => absurd rfl h, fun _ => ⟨rfl, rfl⟩, .inl ⟨by rw [hx0], rfl⟩⟩
  · injection h1 with h1 _
    subst h1
    have hlm : len ≤ m := by rw [hmm]; split <;> omega
    obtain ⟨rs, hrl, hr⟩ := list_of (fun i r => w.cells? base (a.add (i * n)) n = some (f r)) len (fun i hi => by
      obtain ⟨cs, c1, c2⟩ := hx i (by omega)
      rw [hc] at c1
      obtain ⟨r, rfl⟩ := hrow _ _ _ (World.cells?_some c1).2.1 c2
      exact ⟨r, c1⟩)
    subst hrl
    refine ⟨some a, cap, rs, rfl, by unfold maxLen at hm; omega, fun hne => ?_, fun h => by (cases h), .inr ⟨_, _, by rw [hx0], by simp⟩⟩
    have hne' : rs ≠ [] := fun h => hne (by simp [h])
    have cell : ∀ (i : Nat) (r : A), rs[i]? = some r → ∀ q u, (f r)[q]? = some u → w.cell? ((a.add (i * n)).add q) = some u := by
      intro i r hi q u hq
      obtain ⟨_, c2, c3⟩ := World.cells?_some (hr i r hi)
      have hqn : q < n := by
        rcases Nat.lt_or_ge q (f r).length with h' | h'
        · omega
        · rw [List.getElem?_eq_none h'] at hq; cases hq
      rw [c3 q hqn, hq]
    -- the slice's address has no spot
    have sp : a.spot = none := by
      cases rs with
      | nil => exact absurd rfl hne'
      | cons r0 rt =>
        obtain ⟨_, c2, c3⟩ := World.cells?_some (hr 0 r0 rfl)
        have c4 := c3 0 hn
        have : (f r0)[0]? = some ((f r0)[0]'(by omega)) := List.getElem?_eq_getElem _
        rw [this] at c4
        cases hs : a.spot with
        | none => rfl
        | some s =>
          exfalso
          have e0 : ((a.add (0 * n)).add 0) = a := by simp [Addr.add]
          rw [e0] at c4
          unfold World.cell? at c4
          rw [hs] at c4
          revert c4
          cases w.heap[a.block]? with
          | none => simp
          | some o => cases o <;> simp
    obtain ⟨b, off, sp'⟩ := a
    simp at sp
    subst sp
    refine ⟨b, off, rfl, ?_, fun i r hi q u hq => ?_⟩
    · cases rs with
      | nil => exact absurd rfl hne'
      | cons r0 rt =>
        obtain ⟨_, c2, c3⟩ := World.cells?_some (hr 0 r0 rfl)
        have c4 := c3 0 hn
        have : (f r0)[0]? = some ((f r0)[0]'(by omega)) := List.getElem?_eq_getElem _
        rw [this] at c4
        rcases Nat.lt_or_ge b w.heap.size with h' | h'
        · exact h'
        · exfalso
          have e0 : (((⟨b, off, none⟩ : Addr).add (0 * n)).add 0) = ⟨b, off, none⟩ := by simp [Addr.add]
          rw [e0] at c4
          simp [World.cell?, Array.getElem?_eq_none h'] at c4
    · rw [List.getElem?_map] at hi
      cases hri : rs[i]? with
      | none => rw [hri] at hi; cases hi
      | some r' =>
        rw [hri] at hi
        simp at hi
        subst hi
        rw [← cell i r' hri q u hq]
        congr 1
        simp only [Addr.add]
        split <;> split <;> simp_all <;> omega

theorem row_int {H : Type} {enc : TypeId × Value → H} {w : World} {base : Nat} {spare : Nat → Bool} {held : Bool} (e : TypeId) (hu : Tryz.prog.underlying e = some (.int .i64)) (m : Nat) (cs : List Value) (y : DataW H × List MemPlace) (_ : cs.length = 1) (h : DataW.trod enc Tryz.prog w base spare held m e cs = some y) : ∃ r : Int, cs = [.int .i64 r] := by
  obtain ⟨n, rfl, _⟩ := DataW.trod_int hu h
  exact ⟨n, rfl⟩
theorem clo3 : Tryz.prog.cellsOf 3 = 1 := by kernel_rfl
theorem open_nums {H : Type} {enc : TypeId × Value → H} {w : World} {base : Nat} {spare : Nat → Bool} {held : Bool} {t e : TypeId} {fuel : Nat} {v : Value} {x : DataW H × List MemPlace} (ht : Tryz.prog.underlying t = some (.slice e)) (hu : Tryz.prog.underlying e = some (.int .i64)) (hc : Tryz.prog.cellsOf e = 1)
    (h : DataW.trod enc Tryz.prog w base spare held fuel t [v] = some x) : ∃ (oa : Option Addr) (cap : Nat) (rs : List Int), v = .slice oa rs.length cap ∧ rs.length ≤ 9223372036854775807 ∧ Sl w oa 1 (pvals rs) ∧ (oa = none → rs = [] ∧ cap = 0) ∧ (x.1 = .nil ∧ rs = [] ∨ ∃ elems spare, x.1 = .slice elems spare ∧ elems.length = rs.length) :=
  open_rows (fun p : Int => [.int .i64 p]) ht hc (by omega) (row_int e hu) h
theorem laidOut : laidOutB Tryz.prog = true := by kernel_rfl
open Go.ChangeShapes Go.WideShapes Go.ChangeAt
set_option linter.unusedVariables false
/-- The post, of a world of which it is known that nothing that stood before has changed. -/
theorem post_below {H : Type} {enc : TypeId × Value → H} {P : Program} {f : Func} {s : ChangeSpec} {apart fresh handsOn again : Bool} {W W' : World} {args : Array Value} {v : Value} {ds gs : List (DataW H)} {before pa pv : List MemPlace}
    (hW : DataW.Whole enc P f.params.toList s.vars apart W args.toList ds gs before)
    (hres : ∀ (b : Nat) (sp : Nat → Bool) (hd : Bool), DataW.TrodAll enc P W' b sp hd f.resultTypes.toList (v.resultList f.resultTypes.size) (s.fn H (ds ++ gs)).results [])
    (hargs : ∀ sp : Nat → Bool, (∀ p ∈ before, sp p.block = true) → DataW.TrodAll enc P W' 0 sp true f.params.toList args.toList (s.fn H (ds ++ gs)).args pa)
    (hvars : ∀ sp : Nat → Bool, (∀ p ∈ before, sp p.block = true) → DataW.TrodVars enc P W' sp s.vars (s.fn H (ds ++ gs)).vars pv)
    (hps : before = pa ++ pv) (hb : Below W.heap.size W W')
    (hok : ∀ (j : Nat) (t : TypeId) (r : Value), f.resultTypes[j]? = some t → (v.resultList f.resultTypes.size)[j]? = some r → Value.okWide P W' .any 0 t r) :
    s.post enc P f apart fresh handsOn again W args v W' := by
  have hlt : ∀ p ∈ before, p.block < W.heap.size := fun p hp => hW.lt p hp
  have hold : ∀ p ∈ before, (fun b => decide (b < W.heap.size)) p.block = true := fun p hp => by simpa using hlt p hp
  refine ⟨ds, gs, before, [], pa, pv, hW, hres _ _ _, hargs _ hold, hvars _ hold, World.keptBut_mono (fun p hp => ⟨hp, ?_⟩) (hb.frame (· ∈ before)), fun _ => ?_⟩
  · rw [hps, List.mem_append] at hp
    exact Or.inr hp
  · obtain ⟨_, _, _, _, _, hz, hn⟩ := hW
    refine ⟨hok, _, _, ([] ++ pa) ++ pv, ⟨[] ++ pa, pv, trodAll_append (hargs _ (fun _ _ => rfl)) (hres _ _ _), hvars _ (fun _ _ => rfl), rfl, ?_, ?_⟩, ?_⟩
    · intro b off hp
      have hin : MemPlace.cell b off ∈ before := by rw [hps]; simpa using hp
      rw [hb.frozen (hlt _ hin)]
      exact hz b off hin
    · intro ha
      have := hn ha
      rw [hps] at this
      simpa using this
    · intro p hp _
      rw [hps]
      simpa using hp


/-- What was read reads as it did. -/
theorem stays {H : Type} {enc : TypeId × Value → H} {P : Program} (hl : laidOutB P = true) {W W' : World} {sp' : Nat → Bool} : ∀ (ts : List TypeId) (vs : List Value) (ds : List (DataW H)) (ps : List MemPlace), (∀ t ∈ ts, P.readableRec t = true ∧ t < P.types.size) →
    DataW.TrodAll enc P W 0 (fun _ => true) true ts vs ds ps → (∀ p ∈ ps, W.sameAt W' p) → (∀ p ∈ ps, sp' p.block = true) → DataW.TrodAll enc P W' 0 sp' true ts vs ds ps
  | [], [], [], ps, _, h, _, _ => h
  | t :: ts, v :: vs, d :: ds, ps, ht, h, h1, h2 => by
    obtain ⟨p, q, a, b, rfl⟩ := h
    exact ⟨p, q, WideElems.Trod_stays hl (ht t (by simp)).1 (ht t (by simp)).2 a (fun x hx => h1 x (by simp [hx])) (fun x hx => h2 x (by simp [hx])), stays hl ts vs ds q (fun t h => ht t (by simp [h])) b (fun x hx => h1 x (by simp [hx])) (fun x hx => h2 x (by simp [hx])), rfl⟩
  | [], _ :: _, _, _, _, h, _, _ => by simp [DataW.TrodAll] at h
  | [], [], _ :: _, _, _, h, _, _ => by simp [DataW.TrodAll] at h
  | _ :: _, [], _, _, _, h, _, _ => by simp [DataW.TrodAll] at h
  | _ :: _, _ :: _, [], _, _, h, _, _ => by simp [DataW.TrodAll] at h

theorem own24 : ownKnob Tryz.prog.godebug = none := by kernel_rfl
theorem clo2 : Tryz.prog.cellsOf 2 = 1 := by kernel_rfl
theorem clo31 : Tryz.prog.cellsOf 42 = 1 := by kernel_rfl
theorem read3 : Tryz.prog.readableRec 3 = true ∧ 3 < Tryz.prog.types.size := ⟨by kernel_rfl, of_decide_eq_true (by kernel_rfl)⟩
theorem read22 : Tryz.prog.readableRec 22 = true ∧ 22 < Tryz.prog.types.size := ⟨by kernel_rfl, of_decide_eq_true (by kernel_rfl)⟩
theorem read24 : Tryz.prog.readableRec 26 = true ∧ 26 < Tryz.prog.types.size := ⟨by kernel_rfl, of_decide_eq_true (by kernel_rfl)⟩
/-- A slice of points, as it is read. -/
theorem open_pts {H : Type} {enc : TypeId × Value → H} {w : World} {base : Nat} {spare : Nat → Bool} {held : Bool} {fuel : Nat} {v : Value} {x : DataW H × List MemPlace}
    (h : DataW.trod enc Tryz.prog w base spare held fuel 22 [v] = some x) : ∃ (oa : Option Addr) (cap : Nat) (pts : List (List Int)), v = .slice oa pts.length cap ∧ Pts w oa pts := by
  obtain ⟨oa, cap, rs, rfl, _, hs, _⟩ := open_rows (A := { p : Value × List Int // PtAt w p.1 p.2 }) (fun r => [r.1.1]) Tryz.underlying22 clo31 (by omega) (fun m cs y hc hy => by
    match cs, hc with
    | [u], _ =>
      obtain ⟨ox, cx, xs, rfl, _, hX, _⟩ := open_nums Tryz.underlying42 Tryz.underlying2 clo2 hy
      exact ⟨⟨(.slice ox xs.length cx, xs), ox, cx, rfl, hX⟩, rfl⟩) h
  refine ⟨oa, cap, rs.map fun r => r.1.2, by simp, ⟨rs.map fun r => r.1.1, by simp, by rw [List.map_map]; exact hs, fun k u xs hu hx => ?_⟩⟩
  rw [List.getElem?_map, Option.map_eq_some_iff] at hu hx
  obtain ⟨r, hr, rfl⟩ := hu
  obtain ⟨r', hr', rfl⟩ := hx
  rw [hr] at hr'
  injection hr' with hr'
  subst hr'
  exact r.2
theorem get_some' {A : Type} {xs : List A} {n i : Nat} (h : xs.length = n) (hi : i < n) : ∃ y, xs[i]? = some y := ⟨_, List.getElem?_eq_getElem (by omega)⟩
end Go.Proofs.Ng
end

section
/-
  What the readings of the arguments say of memory, and of its bulk.
-/
namespace Go.Proofs.Ng
open Go.RowKit

abbrev blk {H : Type} (d : DataW H) : Nat := Go.Proofs.YtlpcihfkkgifkaaGreatDoor.Rows.uptoBulk d
abbrev blkAll {H : Type} (l : List (DataW H)) : Nat := Go.Proofs.YtlpcihfkkgifkaaGreatDoor.Rows.uptoBulkAll l
theorem blk_pos {H : Type} (d : DataW H) : 1 ≤ blk d := by
  cases d with
  | lit l => cases l <;> simp [Go.Proofs.YtlpcihfkkgifkaaGreatDoor.Rows.uptoBulk]
  | _ => simp [Go.Proofs.YtlpcihfkkgifkaaGreatDoor.Rows.uptoBulk]
theorem blkAll_cons {H : Type} (d : DataW H) (l : List (DataW H)) : blkAll (d :: l) = blk d + blkAll l := by
  simp only [blkAll, blk, Go.Proofs.YtlpcihfkkgifkaaGreatDoor.Rows.uptoBulkAll]
theorem bulk_mem {H : Type} {d : DataW H} : ∀ {l : List (DataW H)}, d ∈ l → blk d ≤ blkAll l
  | e :: l, h => by
    rw [blkAll_cons]
    rcases List.mem_cons.1 h with rfl | h
    · omega
    · have := bulk_mem h; omega
theorem bulk_len {H : Type} : ∀ l : List (DataW H), l.length ≤ blkAll l
  | [] => Nat.zero_le _
  | e :: l => by
    rw [blkAll_cons]
    have := bulk_len l
    have := blk_pos e
    simp only [List.length_cons]; omega
theorem bulk_slice {H : Type} (l s : List (DataW H)) : blkAll l ≤ blk (.slice l s) := by
  simp only [blk, blkAll, Go.Proofs.YtlpcihfkkgifkaaGreatDoor.Rows.uptoBulk]; omega
theorem bulk_agg {H : Type} (l : List (DataW H)) : blkAll l ≤ blk (.agg l) := by
  simp only [blk, blkAll, Go.Proofs.YtlpcihfkkgifkaaGreatDoor.Rows.uptoBulk]; omega
/-- A slice that is read lies in memory, row for row. -/
theorem open_rowsB {H : Type} {enc : TypeId × Value → H} {P : Program} {w : World} {base : Nat} {spare : Nat → Bool} {held : Bool} {A : Type} (f : A → List Value) (B : A → DataW H → Prop) {t e : TypeId} {n fuel : Nat} {v : Value} {x : DataW H × List MemPlace} (ht : P.underlying t = some (.slice e)) (hc : P.cellsOf e = n) (hn : 0 < n)
    (hrow : ∀ (m : Nat) (cs : List Value) (y : DataW H × List MemPlace), cs.length = n → DataW.trod enc P w base spare held m e cs = some y → ∃ r : A, cs = f r ∧ B r y.1)
    (h : DataW.trod enc P w base spare held fuel t [v] = some x) : ∃ (oa : Option Addr) (cap : Nat) (rs : List A), v = .slice oa rs.length cap ∧ rs.length ≤ 9223372036854775807 ∧ Sl w oa n (rs.map f) ∧ (∀ r ∈ rs, ∃ y : DataW H, B r y ∧ blk y ≤ blk x.1) ∧ rs.length ≤ blk x.1 := by
  rcases Go.Deep.open_slice ht h with ⟨h0, hx0⟩ | ⟨a, len, cap, m, k, D, Pl, h1, hb, hl, hm, hmm, hx0, hx⟩
  · injection h0 with h0 _
    subst h0
    exact ⟨none, 0, [], rfl, by simp, fun h => absurd rfl h, fun r hr => (by cases hr), Nat.zero_le _⟩
  · injection h1 with h1 _
    subst h1
    have hlm : len ≤ m := by rw [hmm]; split <;> omega
    obtain ⟨rs, hrl, hr⟩ := list_of (fun i r => w.cells? base (a.add (i * n)) n = some (f r) ∧ B r (D i)) len (fun i hi => by
      obtain ⟨cs, c1, c2⟩ := hx i (by omega)
      rw [hc] at c1
      obtain ⟨r, rfl, hB⟩ := hrow _ _ _ (World.cells?_some c1).2.1 c2
      exact ⟨r, c1, hB⟩)
    subst hrl
    refine ⟨some a, cap, rs, rfl, by unfold maxLen at hm; omega, fun hne => ?_, fun r hr2 => ?_, ?_⟩
    rotate_left
    · obtain ⟨i, hi⟩ := List.getElem?_of_mem hr2
      refine ⟨D i, (hr i r hi).2, ?_⟩
      rw [hx0]
      exact Nat.le_trans (bulk_mem (List.mem_map.2 ⟨i, List.mem_range.2 (List.getElem?_eq_some_iff.1 hi).1, rfl⟩)) (bulk_slice _ _)
    · rw [hx0]
      refine Nat.le_trans ?_ (bulk_slice _ _)
      have := bulk_len ((List.range rs.length).map D)
      simpa using this
    have hne' : rs ≠ [] := fun h => hne (by simp [h])
    have cell : ∀ (i : Nat) (r : A), rs[i]? = some r → ∀ q u, (f r)[q]? = some u → w.cell? ((a.add (i * n)).add q) = some u := by
      intro i r hi q u hq
      obtain ⟨_, c2, c3⟩ := World.cells?_some (hr i r hi).1
      have hqn : q < n := by
        rcases Nat.lt_or_ge q (f r).length with h' | h'
        · omega
        · rw [List.getElem?_eq_none h'] at hq; cases hq
      rw [c3 q hqn, hq]
    -- the slice's address has no spot
    have sp : a.spot = none := by
      cases rs with
      | nil => exact absurd rfl hne'
      | cons r0 rt =>
        obtain ⟨_, c2, c3⟩ := World.cells?_some (hr 0 r0 rfl).1
        have c4 := c3 0 hn
        have : (f r0)[0]? = some ((f r0)[0]'(by omega)) := List.getElem?_eq_getElem _
        rw [this] at c4
        cases hs : a.spot with
        | none => rfl
        | some s =>
          exfalso
          have e0 : ((a.add (0 * n)).add 0) = a := by simp [Addr.add]
          rw [e0] at c4
          unfold World.cell? at c4
          rw [hs] at c4
          revert c4
          cases w.heap[a.block]? with
          | none => simp
          | some o => cases o <;> simp
    obtain ⟨b, off, sp'⟩ := a
    simp at sp
    subst sp
    refine ⟨b, off, rfl, ?_, fun i r hi q u hq => ?_⟩
    · cases rs with
      | nil => exact absurd rfl hne'
      | cons r0 rt =>
        obtain ⟨_, c2, c3⟩ := World.cells?_some (hr 0 r0 rfl).1
        have c4 := c3 0 hn
        have : (f r0)[0]? = some ((f r0)[0]'(by omega)) := List.getElem?_eq_getElem _
        rw [this] at c4
        rcases Nat.lt_or_ge b w.heap.size with h' | h'
        · exact h'
        · exfalso
          have e0 : (((⟨b, off, none⟩ : Addr).add (0 * n)).add 0) = ⟨b, off, none⟩ := by simp [Addr.add]
          rw [e0] at c4
          simp [World.cell?, Array.getElem?_eq_none h'] at c4
    · rw [List.getElem?_map] at hi
      cases hri : rs[i]? with
      | none => rw [hri] at hi; cases hi
      | some r' =>
        rw [hri] at hi
        simp at hi
        subst hi
        rw [← cell i r' hri q u hq]
        congr 1
        simp only [Addr.add]
        split <;> split <;> simp_all <;> omega


section
variable {H : Type} {enc : TypeId × Value → H} {w : World} {base : Nat} {spare : Nat → Bool} {held : Bool}
theorem ce2 : Tryz.prog.cellsOf 2 = 1 := by kernel_rfl
theorem ce3 : Tryz.prog.cellsOf 3 = 1 := by kernel_rfl
theorem ce22 : Tryz.prog.cellsOf 22 = 1 := by kernel_rfl
theorem ce23 : Tryz.prog.cellsOf 23 = 1 := by kernel_rfl
theorem ce26 : Tryz.prog.cellsOf 26 = 1 := by kernel_rfl
theorem ce42 : Tryz.prog.cellsOf 42 = 1 := by kernel_rfl
theorem ce49 : Tryz.prog.cellsOf 49 = 1 := by kernel_rfl
theorem ce50 : Tryz.prog.cellsOf 50 = 1 := by kernel_rfl
theorem ce38 : Tryz.prog.cellsOf 38 = 3 := by kernel_rfl
theorem ce54 : Tryz.prog.cellsOf 54 = 3 := by kernel_rfl
theorem ce52 : Tryz.prog.cellsOf 52 = 2 := by kernel_rfl
theorem ce25 : Tryz.prog.cellsOf 25 = 2 := by kernel_rfl
theorem row_i64 {e : TypeId} (hu : Tryz.prog.underlying e = some (.int .i64)) {m : Nat} {cs : List Value} {y : DataW H × List MemPlace} (h : DataW.trod enc Tryz.prog w base spare held m e cs = some y) : ∃ r : Int, cs = [.int .i64 r] ∧ Fm.inR64 r := by
  obtain ⟨n, rfl, -, hw⟩ := DataW.trod_int hu h
  exact ⟨n, rfl, by have := bounds_i64 hw; unfold Fm.inR64; omega⟩
theorem open_numsB {t e : TypeId} {fuel : Nat} {v : Value} {x : DataW H × List MemPlace} (ht : Tryz.prog.underlying t = some (.slice e)) (hu : Tryz.prog.underlying e = some (.int .i64)) (hc : Tryz.prog.cellsOf e = 1)
    (h : DataW.trod enc Tryz.prog w base spare held fuel t [v] = some x) : ∃ (oa : Option Addr) (cap : Nat) (ns : List Int), v = .slice oa ns.length cap ∧ ns.length ≤ 9223372036854775807 ∧ Sl w oa 1 (pvals ns) ∧ (∀ n ∈ ns, Fm.inR64 n) ∧ ns.length ≤ blk x.1 := by
  obtain ⟨oa, cap, rs, rfl, hl, hs, -, hb⟩ := open_rowsB (A := { n : Int // Fm.inR64 n }) (fun r => [.int .i64 r.1]) (fun _ _ => True) ht hc (by omega) (fun m cs y _ hy => by
    obtain ⟨r, rfl, hr⟩ := row_i64 hu hy
    exact ⟨⟨r, hr⟩, rfl, trivial⟩) h
  refine ⟨oa, cap, rs.map (·.1), by simp, by simpa using hl, by simpa [pvals, List.map_map, Function.comp_def] using hs, fun n hn => ?_, by simpa using hb⟩
  obtain ⟨r, -, rfl⟩ := List.mem_map.1 hn
  exact r.2
theorem open_ptsB {fuel : Nat} {v : Value} {x : DataW H × List MemPlace} (h : DataW.trod enc Tryz.prog w base spare held fuel 22 [v] = some x) :
    ∃ (oa : Option Addr) (cap : Nat) (pts : List (List Int)), v = .slice oa pts.length cap ∧ Pts w oa pts ∧ (∀ q ∈ pts, ∀ n ∈ q, Fm.inR64 n) ∧ pts.length ≤ blk x.1 ∧ ∀ q ∈ pts, q.length ≤ blk x.1 := by
  obtain ⟨oa, cap, rs, rfl, -, hs, hB, hb⟩ := open_rowsB (A := { p : Value × List Int // PtAt w p.1 p.2 ∧ ∀ n ∈ p.2, Fm.inR64 n }) (fun r => [r.1.1]) (fun r y => r.1.2.length ≤ blk y) Tryz.underlying22 ce42 (by omega) (fun m cs y hc hy => by
    match cs, hc with
    | [u], _ =>
      obtain ⟨ox, cx, xs, rfl, -, hX, hr, hbx⟩ := open_numsB Tryz.underlying42 Tryz.underlying2 ce2 hy
      exact ⟨⟨(.slice ox xs.length cx, xs), ⟨ox, cx, rfl, hX⟩, hr⟩, rfl, hbx⟩) h
  refine ⟨oa, cap, rs.map fun r => r.1.2, by simp, ⟨rs.map fun r => r.1.1, by simp, by rw [List.map_map]; exact hs, fun k u xs hu hx => ?_⟩, fun q hq => ?_, by simpa using hb, fun q hq => ?_⟩
  · rw [List.getElem?_map, Option.map_eq_some_iff] at hu hx
    obtain ⟨r, hr, rfl⟩ := hu
    obtain ⟨r', hr', rfl⟩ := hx
    rw [hr] at hr'
    injection hr' with hr'
    subst hr'
    exact r.2.1
  · obtain ⟨r, -, rfl⟩ := List.mem_map.1 hq
    exact r.2.2
  · obtain ⟨r, hr, rfl⟩ := List.mem_map.1 hq
    obtain ⟨y, h1, h2⟩ := hB r hr
    exact Nat.le_trans h1 h2
set_option maxRecDepth 100000 in
theorem row_vec {m : Nat} {cs : List Value} {y : DataW H × List MemPlace} (hl : cs.length = 3) (h : DataW.trod enc Tryz.prog w base spare held m 38 cs = some y) : ∃ r : Int × Int × Int, cs = vec3 r ∧ ∀ n ∈ Fm.vecL r, Fm.inR64 n := by
  obtain ⟨xs, m1, -, -, -, h3, hel⟩ := DataW.trod_array Tryz.underlying38 h
  match cs, hl with
  | [a, b, c], _ =>
    obtain ⟨y0, g0⟩ := get_some' h3 (i := 0) (by omega)
    obtain ⟨y1, g1⟩ := get_some' h3 (i := 1) (by omega)
    obtain ⟨y2, g2⟩ := get_some' h3 (i := 2) (by omega)
    have h0 := hel 0 (by omega)
    have h1 := hel 1 (by omega)
    have h2 := hel 2 (by omega)
    rw [ce2] at h0 h1 h2
    rw [g0] at h0
    rw [g1] at h1
    rw [g2] at h2
    obtain ⟨x0, e0, r0⟩ := row_i64 Tryz.underlying2 h0
    obtain ⟨x1, e1, r1⟩ := row_i64 Tryz.underlying2 h1
    obtain ⟨x2, e2, r2⟩ := row_i64 Tryz.underlying2 h2
    simp at e0 e1 e2
    subst e0 e1 e2
    refine ⟨(x0, x1, x2), rfl, fun n hn => ?_⟩
    simp [Fm.vecL] at hn
    rcases hn with rfl | rfl | rfl <;> assumption
theorem open_vecsB {fuel : Nat} {v : Value} {x : DataW H × List MemPlace} (h : DataW.trod enc Tryz.prog w base spare held fuel 49 [v] = some x) :
    ∃ (oa : Option Addr) (cap : Nat) (l : List (Int × Int × Int)), v = .slice oa l.length cap ∧ Sl w oa 3 (vecsV l) ∧ (∀ q ∈ l, ∀ n ∈ Fm.vecL q, Fm.inR64 n) ∧ l.length ≤ blk x.1 := by
  obtain ⟨oa, cap, rs, rfl, -, hs, -, hb⟩ := open_rowsB (A := { q : Int × Int × Int // ∀ n ∈ Fm.vecL q, Fm.inR64 n }) (fun r => vec3 r.1) (fun _ _ => True) Tryz.underlying49 ce38 (by omega) (fun m cs y hc hy => by
    obtain ⟨r, rfl, hr⟩ := row_vec hc hy
    exact ⟨⟨r, hr⟩, rfl, trivial⟩) h
  refine ⟨oa, cap, rs.map (·.1), by simp, by simpa [vecsV, List.map_map, Function.comp_def] using hs, fun n hn => ?_, by simpa using hb⟩
  obtain ⟨r, -, rfl⟩ := List.mem_map.1 hn
  exact r.2
set_option maxRecDepth 100000 in
theorem row_use {m : Nat} {cs : List Value} {y : DataW H × List MemPlace} (hl : cs.length = 3) (h : DataW.trod enc Tryz.prog w base spare held m 54 cs = some y) :
    ∃ u : Fm.UseD, UseAt w cs u ∧ (∀ n ∈ u.depth :: u.index :: u.nums, Fm.inR64 n) ∧ u.nums.length ≤ blk y.1 := by
  obtain ⟨xs, m1, -, hx, -, h3, hel⟩ := DataW.trod_struct Tryz.underlying54 h
  have h3' : xs.length = 3 := h3
  match cs, hl with
  | [a, b, c], _ =>
    obtain ⟨y0, g0⟩ := get_some' h3' (i := 0) (by omega)
    obtain ⟨y1, g1⟩ := get_some' h3' (i := 1) (by omega)
    obtain ⟨y2, g2⟩ := get_some' h3' (i := 2) (by omega)
    have h0 : DataW.trod enc Tryz.prog w base spare held m1 3 (List.take (Tryz.prog.cellsOf 3) (List.drop 0 ([a, b, c] : List Value))) = xs[0]? := hel 0 _ rfl
    have h1 : DataW.trod enc Tryz.prog w base spare held m1 2 (List.take (Tryz.prog.cellsOf 2) (List.drop 1 ([a, b, c] : List Value))) = xs[1]? := hel 1 _ rfl
    have h2 : DataW.trod enc Tryz.prog w base spare held m1 26 (List.take (Tryz.prog.cellsOf 26) (List.drop 2 ([a, b, c] : List Value))) = xs[2]? := hel 2 _ rfl
    rw [ce3, g0] at h0
    rw [ce2, g1] at h1
    rw [ce26, g2] at h2
    obtain ⟨x0, e0, r0⟩ := row_i64 Tryz.underlying3 h0
    obtain ⟨x1, e1, r1⟩ := row_i64 Tryz.underlying2 h1
    obtain ⟨on, cn, ns, e2, -, hN, r2, hb⟩ := open_numsB Tryz.underlying26 Tryz.underlying3 ce3 (v := c) h2
    simp at e0 e1
    subst e0 e1 e2
    refine ⟨⟨x0, x1, ns⟩, ⟨on, cn, rfl, hN⟩, fun n hn => ?_, ?_⟩
    · rcases List.mem_cons.1 hn with rfl | hn
      · exact r0
      · rcases List.mem_cons.1 hn with rfl | hn
        · exact r1
        · exact r2 n hn
    · rw [hx]
      refine Nat.le_trans hb (Nat.le_trans (bulk_mem ?_) (bulk_agg _))
      exact List.mem_map.2 ⟨y2, List.mem_of_getElem? g2, rfl⟩
theorem open_usesB {fuel : Nat} {v : Value} {x : DataW H × List MemPlace} (h : DataW.trod enc Tryz.prog w base spare held fuel 50 [v] = some x) :
    ∃ (oa : Option Addr) (cap : Nat) (l : List Fm.UseD), v = .slice oa l.length cap ∧ Uses w oa l ∧ (∀ u ∈ l, ∀ n ∈ u.depth :: u.index :: u.nums, Fm.inR64 n) ∧ l.length ≤ blk x.1 ∧ ∀ u ∈ l, u.nums.length ≤ blk x.1 := by
  obtain ⟨oa, cap, rs, rfl, -, hs, hB, hb⟩ := open_rowsB (A := { q : List Value × Fm.UseD // UseAt w q.1 q.2 ∧ ∀ n ∈ q.2.depth :: q.2.index :: q.2.nums, Fm.inR64 n }) (fun r => r.1.1) (fun r y => r.1.2.nums.length ≤ blk y) Tryz.underlying50 ce54 (by omega) (fun m cs y hc hy => by
    obtain ⟨u, h1, h2, h3⟩ := row_use hc hy
    exact ⟨⟨(cs, u), h1, h2⟩, rfl, h3⟩) h
  refine ⟨oa, cap, rs.map fun r => r.1.2, by simp, ⟨rs.map fun r => r.1.1, by simp, hs, fun k u xs hu hx => ?_⟩, fun q hq => ?_, by simpa using hb, fun q hq => ?_⟩
  · rw [List.getElem?_map, Option.map_eq_some_iff] at hu hx
    obtain ⟨r, hr, rfl⟩ := hu
    obtain ⟨r', hr', rfl⟩ := hx
    rw [hr] at hr'
    injection hr' with hr'
    subst hr'
    exact r.2.1
  · obtain ⟨r, -, rfl⟩ := List.mem_map.1 hq
    exact r.2.2
  · obtain ⟨r, hr, rfl⟩ := List.mem_map.1 hq
    obtain ⟨y, h1, h2⟩ := hB r hr
    exact Nat.le_trans h1 h2
set_option maxRecDepth 100000 in
theorem row_edge {m : Nat} {cs : List Value} {y : DataW H × List MemPlace} (hl : cs.length = 2) (h : DataW.trod enc Tryz.prog w base spare held m 52 cs = some y) :
    ∃ e : Fm.EdgeD, EdgeAt w cs e ∧ ((∀ v ∈ e.table, ∀ n ∈ Fm.vecL v, Fm.inR64 n) ∧ ∀ u ∈ e.uses, ∀ n ∈ u.depth :: u.index :: u.nums, Fm.inR64 n) ∧ e.table.length ≤ blk y.1 ∧ e.uses.length ≤ blk y.1 ∧ ∀ u ∈ e.uses, u.nums.length ≤ blk y.1 := by
  obtain ⟨xs, m1, -, hx, -, h3, hel⟩ := DataW.trod_struct Tryz.underlying52 h
  have h3' : xs.length = 2 := h3
  match cs, hl with
  | [a, b], _ =>
    obtain ⟨y0, g0⟩ := get_some' h3' (i := 0) (by omega)
    obtain ⟨y1, g1⟩ := get_some' h3' (i := 1) (by omega)
    have h0 : DataW.trod enc Tryz.prog w base spare held m1 49 (List.take (Tryz.prog.cellsOf 49) (List.drop 0 ([a, b] : List Value))) = xs[0]? := hel 0 _ rfl
    have h1 : DataW.trod enc Tryz.prog w base spare held m1 50 (List.take (Tryz.prog.cellsOf 50) (List.drop 1 ([a, b] : List Value))) = xs[1]? := hel 1 _ rfl
    rw [ce49, g0] at h0
    rw [ce50, g1] at h1
    obtain ⟨ot, ct, tb, rfl, hT, r0, b0⟩ := open_vecsB (v := a) h0
    obtain ⟨ou, cu, us, rfl, hU, r1, b1, b2⟩ := open_usesB (v := b) h1
    have k0 : blk y0.1 ≤ blk y.1 := by
      rw [hx]
      exact Nat.le_trans (bulk_mem (List.mem_map.2 ⟨y0, List.mem_of_getElem? g0, rfl⟩)) (bulk_agg _)
    have k1 : blk y1.1 ≤ blk y.1 := by
      rw [hx]
      exact Nat.le_trans (bulk_mem (List.mem_map.2 ⟨y1, List.mem_of_getElem? g1, rfl⟩)) (bulk_agg _)
    exact ⟨⟨tb, us⟩, ⟨ot, ct, ou, cu, rfl, hT, hU⟩, ⟨r0, r1⟩, Nat.le_trans b0 k0, Nat.le_trans b1 k1, fun u hu => Nat.le_trans (b2 u hu) k1⟩
theorem open_edgesB {fuel : Nat} {v : Value} {x : DataW H × List MemPlace} (h : DataW.trod enc Tryz.prog w base spare held fuel 23 [v] = some x) :
    ∃ (oa : Option Addr) (cap : Nat) (l : List Fm.EdgeD), v = .slice oa l.length cap ∧ Edges w oa l ∧ (∀ e ∈ l, (∀ v ∈ e.table, ∀ n ∈ Fm.vecL v, Fm.inR64 n) ∧ ∀ u ∈ e.uses, ∀ n ∈ u.depth :: u.index :: u.nums, Fm.inR64 n) ∧ l.length ≤ blk x.1 ∧
      ∀ e ∈ l, e.table.length ≤ blk x.1 ∧ e.uses.length ≤ blk x.1 ∧ ∀ u ∈ e.uses, u.nums.length ≤ blk x.1 := by
  obtain ⟨oa, cap, rs, rfl, -, hs, hB, hb⟩ := open_rowsB (A := { q : List Value × Fm.EdgeD // EdgeAt w q.1 q.2 ∧ ((∀ v ∈ q.2.table, ∀ n ∈ Fm.vecL v, Fm.inR64 n) ∧ ∀ u ∈ q.2.uses, ∀ n ∈ u.depth :: u.index :: u.nums, Fm.inR64 n) }) (fun r => r.1.1) (fun r y => r.1.2.table.length ≤ blk y ∧ r.1.2.uses.length ≤ blk y ∧ ∀ u ∈ r.1.2.uses, u.nums.length ≤ blk y) Tryz.underlying23 ce52 (by omega) (fun m cs y hc hy => by
    obtain ⟨u, h1, h2, h3⟩ := row_edge hc hy
    exact ⟨⟨(cs, u), h1, h2⟩, rfl, h3⟩) h
  refine ⟨oa, cap, rs.map fun r => r.1.2, by simp, ⟨rs.map fun r => r.1.1, by simp, hs, fun k u xs hu hx => ?_⟩, fun q hq => ?_, by simpa using hb, fun q hq => ?_⟩
  · rw [List.getElem?_map, Option.map_eq_some_iff] at hu hx
    obtain ⟨r, hr, rfl⟩ := hu
    obtain ⟨r', hr', rfl⟩ := hx
    rw [hr] at hr'
    injection hr' with hr'
    subst hr'
    exact r.2.1
  · obtain ⟨r, -, rfl⟩ := List.mem_map.1 hq
    exact r.2.2
  · obtain ⟨r, hr, rfl⟩ := List.mem_map.1 hq
    obtain ⟨y, ⟨h1, h2, h3⟩, h4⟩ := hB r hr
    exact ⟨Nat.le_trans h1 h4, Nat.le_trans h2 h4, fun u hu => Nat.le_trans (h3 u hu) h4⟩
set_option maxRecDepth 100000 in
/-- A path, as it is read. -/
theorem open_path {r : Reach} {b0 : Nat} {v : Value} {d : DataW H} {p : List MemPlace} (hv : Value.okWide Tryz.prog w r b0 25 v) (h : DataW.Trod enc Tryz.prog w base spare held 25 v d p) : ∃ q : Fm.PathD, PathAt w v q ∧ In64 q ∧ (blk d ≤ 1048576 → BulkP q) := by
  obtain ⟨v0, v1, y0, y1, n, rfl, rfl, -, h0, h1⟩ := Go.Joins.open_agg2 Tryz.underlying25 (by kernel_rfl) ce25 hv h
  obtain ⟨op, np, pts, rfl, hP, r0, b0, b1⟩ := open_ptsB h0
  obtain ⟨oe, ne, es, rfl, hE, r1, b2, b3⟩ := open_edgesB h1
  refine ⟨⟨pts, es⟩, ⟨op, np, oe, ne, rfl, hP, hE⟩, ⟨r0, r1⟩, fun hb => ?_⟩
  have k0 : blk y0.1 ≤ 1048576 := Nat.le_trans (Nat.le_trans (bulk_mem (by simp)) (bulk_agg _)) hb
  have k1 : blk y1.1 ≤ 1048576 := Nat.le_trans (Nat.le_trans (bulk_mem (by simp)) (bulk_agg _)) hb
  exact ⟨Nat.le_trans b0 k0, fun q hq => Nat.le_trans (b1 q hq) k0, Nat.le_trans b2 k1, fun e he => ⟨Nat.le_trans (b3 e he).1 k1, Nat.le_trans (b3 e he).2.1 k1, fun u hu => Nat.le_trans ((b3 e he).2.2 u hu) k1⟩⟩
end
end Go.Proofs.Ng
end

section
/-
  What the listed variables give the walk.
-/
namespace Go.Proofs.Ng
open Go.RowKit Go.Proofs.YtlpcihfkkgifkaaGreatDoor

theorem gP : Tryz.prog.globalNamed "internal/strconv.uint64pow10" = some 0 := by kernel_rfl
theorem gS : Tryz.prog.globalNamed "strconv.ErrSyntax" = some 4 := by kernel_rfl
theorem gR : Tryz.prog.globalNamed "strconv.ErrRange" = some 5 := by kernel_rfl
theorem gA : Tryz.prog.globalNamed "unicode/utf8.acceptRanges" = some 7 := by kernel_rfl
theorem tP : (Tryz.prog.globals[0]?).map (·.type) = some 138 := by kernel_rfl
theorem tS : (Tryz.prog.globals[4]?).map (·.type) = some 132 := by kernel_rfl
theorem tR : (Tryz.prog.globals[5]?).map (·.type) = some 132 := by kernel_rfl
theorem row170 (u : TypeId) (h : Tryz.prog.typeName? 3 u = some "*errors.errorString") : u = 170 :=
  typeName_ptr_named (nm := "errors.errorString") (by kernel_rfl) (by kernel_rfl) (by decide) u h
abbrev laid43 : List (String × DataW Unit) := Rows.formatPathsUptoRow.laid
theorem lib_of {W : World} (hL0 : laidMetH Tryz.prog laid43 W) (hsh : W.ShapedOpen Tryz.prog) : LibW W := by
  rw [MakeChecks.laidMetH_plain _ _ _ (by kernel_rfl)] at hL0
  have hL : laidMet Tryz.prog [("math/bits.deBruijn32tab", Rows.laid_math_bits_deBruijn32tab), ("math/bits.deBruijn64tab", Rows.laid_math_bits_deBruijn64tab), ("internal/strconv.uint64pow10", Rows.laid_internal_strconv_uint64pow10), ("unicode/utf8.acceptRanges", Rows.laid_unicode_utf8_acceptRanges), ("strconv.ErrRange", Rows.laid_strconv_ErrRange), ("strconv.ErrSyntax", Rows.laid_strconv_ErrSyntax), ("unicode/utf8.first", Rows.laid_unicode_utf8_first)] W := hL0
  have h2 := laidMet.tail (laidMet.tail hL)
  have h3 := laidMet.tail h2
  have h4 := laidMet.tail h3
  have h5 := laidMet.tail h4
  have htab : Lib.TabIs Tryz.prog W "internal/strconv.uint64pow10" .u64 Lib.pow10Tab := Lib.tabIs_of_head gP tP Tryz.underlying138 Tryz.underlying126 (by kernel_rfl) (by kernel_rfl) (show laidMet Tryz.prog (("internal/strconv.uint64pow10", Lib.tabData .u64 Lib.pow10Tab) :: _) W from h2)
  obtain ⟨a1, s1, hv1, -, -, -⟩ := laid_sentinel h4 gR tR Tryz.underlying132 row170 Tryz.underlying170 Tryz.underlying172 rfl rfl Tryz.underlying9 (by kernel_rfl) (by kernel_rfl)
  obtain ⟨a2, s2, hv2, -, -, -⟩ := laid_sentinel h5 gS tS Tryz.underlying132 row170 Tryz.underlying170 Tryz.underlying172 rfl rfl Tryz.underlying9 (by kernel_rfl) (by kernel_rfl)
  have hz : 8 ≤ W.heap.size := by
    obtain ⟨ps, ⟨g0, t0, cs0, f0, p0, q0, hg0, ht0, hv0, _⟩, _⟩ := h3
    obtain rfl := Option.some.inj (gA.symm.trans hg0)
    unfold World.var? at hv0
    rw [gA] at hv0
    rcases Nat.lt_or_ge 7 W.heap.size with h' | h'
    · exact h'
    · simp [Array.getElem?_eq_none h'] at hv0
  refine ⟨Tryz.cutL.s1_3 W hsh, ⟨170, .pointer (some a2), ?_⟩, ⟨170, .pointer (some a1), ?_⟩, hz, fun w' hb => ?_⟩
  · have := World.var?_cell gS hv2 0
    simpa using this
  · have := World.var?_cell gR hv1 0
    simpa using this
  · unfold Lib.TabIs World.var? at *
    rw [gP] at htab ⊢
    simp only [Option.bind_some] at htab ⊢
    rw [hb.block 0 (by omega)]
    exact htab
end Go.Proofs.Ng
end

section
/-
  FormatPaths: for every path, every text, every list of numbers and every three numbers, together of bulk at most 1048576, the law returns true: Kind, FormatPath and ParsePath return what the chapter specifies.
  Condition: the bulk (the statement's second form); the listed variables hold what the program's text lays.
  The row's frame follows the kit's worked examples; the walk and all beneath it are this claim's own.
-/
set_option linter.unusedVariables false
namespace Go.Proofs.YtlpcihfkkgifkaaGreatDoor.formatPaths
open Go.ChangeShapes Go.WideShapes Go.ChangeAt Go.RowKit

abbrev spec : OpenSpec := Rows.OpenSpec.upto Rows.formatPathsSpec
abbrev args0 : Array Value := #[.agg #[.slice none 0 0, .slice none 0 0], .string ⟨#[]⟩, .slice none 0 0, .int .i64 0, .int .i64 0, .int .i64 0]
def c1 : DataW Unit → List Value
  | .lit (.int k n) => [.int k n]
  | _ => []
def c2 : DataW Unit → List Value
  | .agg l => l.flatMap c1
  | d => c1 d
def c3 : DataW Unit → List Value
  | .agg l => l.flatMap c2
  | d => c2 d
/-- A world in which the listed variables hold their data. -/
noncomputable def laidWorld (os : Os) : World :=
  let N := (World.settled Tryz.prog os).heap.size
  let w0 := World.holding Tryz.prog os ⟨#[.cells #[.string ⟨#[118, 97, 108, 117, 101, 32, 111, 117, 116, 32, 111, 102, 32, 114, 97, 110, 103, 101]⟩] 172, .cells #[.string ⟨#[105, 110, 118, 97, 108, 105, 100, 32, 115, 121, 110, 116, 97, 120]⟩] 172], #[], []⟩
  let put (h : Array Obj) (g : Nat) (cs : Array Value) : Array Obj := h.modify g fun
    | .cells _ t frozen => .cells cs t frozen
    | o => o
  let h1 := put w0.heap 0 (c3 Rows.laid_internal_strconv_uint64pow10).toArray
  let h2 := put h1 2 (c3 Rows.laid_math_bits_deBruijn32tab).toArray
  let h3 := put h2 3 (c3 Rows.laid_math_bits_deBruijn64tab).toArray
  let h4 := put h3 4 #[.iface 170 (.pointer (some ⟨N + 1, 0, none⟩))]
  let h5 := put h4 5 #[.iface 170 (.pointer (some ⟨N, 0, none⟩))]
  let h6 := put h5 6 (c3 Rows.laid_unicode_utf8_first).toArray
  let h7 := put h6 7 (c3 Rows.laid_unicode_utf8_acceptRanges).toArray
  { w0 with heap := h7 }
theorem laid_met (os : Os) (args : Array Value) : laidMetH Tryz.prog Ng.laid43 ((laidWorld os).forCall (fun _ _ => 0) ⟨#[], args, []⟩).memory :=
  laidMetH_of_parts3 (fuel := 8) (laidMet_of_run' 8 (by kernel_rfl) (by kernel_rfl)) (by kernel_rfl) (by kernel_rfl)
set_option maxRecDepth 100000 in
theorem witness_row (os : Os) {H : Type} (enc : TypeId × Value → H) :
    spec.preRow enc Tryz.prog Tryz.f3 Rows.formatPathsUptoRow.domain false Ng.laid43 ((laidWorld os).forCall (fun _ _ => 0) ⟨#[], args0, []⟩).memory args0 := by
  have hw : (DataW.whole enc Tryz.prog ((laidWorld os).forCall (fun _ _ => 0) ⟨#[], args0, []⟩).memory Tryz.f3.params.toList spec.vars false args0.toList 8).map (fun x => (x.1, x.2.1)) =
      some ([.agg [.nil, .nil], .lit (.string []), .nil, .lit (.int .i64 0), .lit (.int .i64 0), .lit (.int .i64 0)], []) := by kernel_rfl
  obtain ⟨⟨x1, x2, x3⟩, hx, hx1⟩ := Option.map_eq_some_iff.1 hw
  simp only [Prod.mk.injEq] at hx1
  obtain ⟨rfl, rfl⟩ := hx1
  exact OpenSpec.preRow_of_cond 8 hx (by kernel_rfl) (fun k hk => by cases hk; rfl) (by kernel_rfl) (laid_met os _)

theorem read25 : Tryz.prog.readableRec 25 = true ∧ 25 < Tryz.prog.types.size := ⟨by kernel_rfl, of_decide_eq_true (by kernel_rfl)⟩
theorem read9 : Tryz.prog.readableRec 9 = true ∧ 9 < Tryz.prog.types.size := ⟨by kernel_rfl, of_decide_eq_true (by kernel_rfl)⟩
theorem readables : ∀ t ∈ (#[25, 9, 26, 3, 3, 3] : Array TypeId).toList, Tryz.prog.readableRec t = true ∧ t < Tryz.prog.types.size := by
  intro t ht
  have h : t = 25 ∨ t = 9 ∨ t = 26 ∨ t = 3 := by simp at ht; exact ht
  rcases h with rfl | rfl | rfl | rfl
  · exact read25
  · exact read9
  · exact Ng.read24
  · exact Ng.read3
theorem small_all {H : Type} {ds gs : List (DataW H)} (h : Rows.uptoSmall H (ds ++ gs) = true) : ∀ d ∈ ds, Ng.blk d ≤ 1048576 := by
  intro d hd
  have h1 := of_decide_eq_true h
  exact Nat.le_trans (Ng.bulk_mem (List.mem_append_left _ hd)) h1
set_option maxRecDepth 100000 in
theorem lifted (os : Os) (started : os.Started) (H : Type) (enc : TypeId × Value → H) (F : Stop.Interp) :
    ReturnsInHanded {} Tryz.checked os 3 .any (spec.preRow enc Tryz.prog Tryz.f3 Rows.formatPathsUptoRow.domain false Rows.formatPathsUptoRow.laid) ((spec.at F).post enc Tryz.prog Tryz.f3 false true false false) := by
  refine returnsInHanded_of_row (C := Tryz.checked) (s := spec) Ng.own24 started (by kernel_rfl) Tryz.func3
    (witness_row_atRef (enc := enc) (C := Tryz.checked) false (laidWorld os) args0 rfl (by kernel_rfl) (by kernel_rfl) (by kernel_rfl) (witness_row os enc)) ?_
  intro W base args ds gs before hval0 hW _ hcond0 _ hL hsh _
  have hsm := small_all (hcond0 _ rfl)
  have hlib := Ng.lib_of hL hsh
  have hval : ∀ (j : Nat) t v, Tryz.f3.params[j]? = some t → args[j]? = some v → Value.okWide Tryz.prog W .any base t v := hval0
  have hW' := hW
  obtain ⟨p, q, hA0, hV, rfl, hfz, hnd⟩ := hW
  have hA : DataW.TrodAll enc Tryz.prog W 0 (fun _ => true) true Tryz.f3.params.toList args.toList ds p := hA0
  have hAk := hA
  rw [Tryz.params3] at hA hval
  obtain ⟨v0, vs0, d0, ds0, p0, q0, hargs, rfl, rfl, h0, r0⟩ := trodAll_cons hA
  obtain ⟨v1, vs1, d1, ds1, p1, q1, rfl, rfl, rfl, h1, r1⟩ := trodAll_cons r0
  obtain ⟨v2, vs2, d2, ds2, p2, q2, rfl, rfl, rfl, h2, r2⟩ := trodAll_cons r1
  obtain ⟨v3, vs3, d3, ds3, p3, q3, rfl, rfl, rfl, h3, r3⟩ := trodAll_cons r2
  obtain ⟨v4, vs4, d4, ds4, p4, q4, rfl, rfl, rfl, h4, r4⟩ := trodAll_cons r3
  obtain ⟨v5, vs5, d5, ds5, p5, q5, rfl, rfl, rfl, h5, r5⟩ := trodAll_cons r4
  obtain ⟨rfl, rfl, rfl⟩ := trodAll_nil r5
  obtain rfl : args = #[v0, v1, v2, v3, v4, v5] := by cases args; simp_all
  obtain ⟨rfl, rfl⟩ := trodVars_none hV
  obtain ⟨pd, hP, hin, hbk⟩ := Ng.open_path (hval 0 25 v0 rfl rfl) h0
  obtain ⟨s, rfl, e1, -, hs⟩ := Go.ChangeMaps.open_string Tryz.underlying9 (hval 1 9 v1 rfl rfl) h1
  obtain ⟨a2, n2, c2, rfl⟩ := okWide_slice Tryz.underlying26 (hval 2 26 v2 rfl rfl)
  obtain ⟨x3, rfl⟩ := okWide_int Tryz.underlying3 (hval 3 3 v3 rfl rfl)
  obtain ⟨x4, rfl⟩ := okWide_int Tryz.underlying3 (hval 4 3 v4 rfl rfl)
  obtain ⟨x5, rfl⟩ := okWide_int Tryz.underlying3 (hval 5 3 v5 rfl rfl)
  obtain ⟨f2, h2⟩ := h2
  obtain ⟨ol, cl, ls, i2, hl, hI, -, -⟩ := Ng.open_numsB Tryz.underlying26 Tryz.underlying3 Ng.ce3 (v := .slice a2 n2 c2) h2
  have hb0 : Ng.blk d0 ≤ 1048576 := hsm d0 (by simp)
  have hb1 : s.size ≤ 1048576 := by
    have h := hsm d1 (by simp)
    rw [e1] at h
    have e : Ng.blk (.lit (.string s.data.toList) : DataW H) = s.data.toList.length + 1 := by simp [Ng.blk, Rows.uptoBulk]
    rw [e, Array.length_toList] at h
    have h2 : s.data.size = s.size := rfl
    omega
  rw [i2] at hAk hW' ⊢
  clear hA0 hval0
  simp only [List.append_nil] at hW' hAk
  refine (Ng.formatPaths3 W v0 pd s ol cl ls x3 x4 x5 hP (hbk hb0) hin hb1 hI hl hlib).mono fun e W' ⟨he, hg⟩ => ?_
  subst he
  have hlt := fun p hp => hW'.lt p hp
  exact ⟨_, rfl, Ng.post_below (pv := []) hW' (fun _ _ _ => (trodAll_cons_mk (shut_bool Tryz.underlying4 _) trodAll_mk0)) (fun sp hsp => Ng.stays Ng.laidOut _ _ _ _ (by rw [Tryz.params3]; exact readables) hAk (fun x hx => hg.same (hlt x hx)) hsp) (fun _ _ => rfl) (by simp)
    hg (ok_one (by kernel_rfl) rfl (okWide_bool_mk Tryz.underlying4 _))⟩

/-- THE STATEMENT -/
theorem proved : Rows.FormatPathsUptoSaid :=
  OpenClaim.holds_of_cond 3 Tryz.f3 rfl rfl rfl rfl rfl rfl rfl ⟨rfl, rfl, rfl, rfl, rfl⟩ rfl rfl rfl rfl rfl (by kernel_rfl) Tryz.func3 (by kernel_rfl)
    (of_decide_eq_true (by kernel_rfl)) (by unfold Func.isWrapper; first | (rw [if_pos (by decide +kernel)]; kernel_rfl) | (rw [if_neg (by decide +kernel)]; exact ⟨rfl, rfl⟩))
    (fun os started H enc _ F0 => by rw [OpenClaim.pre_eq_preRow]; exact lifted os started H enc F0)
#print axioms proved
end Go.Proofs.YtlpcihfkkgifkaaGreatDoor.formatPaths
end

