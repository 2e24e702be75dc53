/-
  Texts put together: Co Dh Di Ea Eb.
-/
import Derived.Test.YtlpcihfkkgifkaaGreatDoorZFormatTrajectoriesCard1
import Derived.Deep.Slices
import Derived.OpenShut
import Derived.ChangeArms
import Derived.ProofKit
import Derived.ChangeSame
import Derived.Carry
import Derived.Below
import Derived.Lib.SmallJoins
import Derived.Test.YtlpcihfkkgifkaaGreatDoorZFormatTrajectoriesCard18
import Derived.Test.YtlpcihfkkgifkaaGreatDoorRows
import Derived.Stop.LaidErr
import Derived.Lib.LaidTab
import Derived.MakeChecks
import Derived.LaidMore
import Derived.LaidHandle
import Derived.Test.YtlpcihfkkgifkaaGreatDoorZFormatTrajectoriesCard4
set_option linter.unusedVariables false
section
/-
  What the readings of the arguments say of memory.
-/
namespace Go.Proofs.Ng
open Go.RowKit
theorem list_of {A : Type} (P : Nat → A → Prop) : ∀ n : Nat, (∀ i, i < n → ∃ r, P i r) → ∃ rs : List A, rs.length = n ∧ ∀ (i : Nat) (r : A), rs[i]? = some r → P i r
  | 0, _ => ⟨[], rfl, fun i r h => by simp at h⟩
  | n + 1, h => by
    obtain ⟨rs, hl, hr⟩ := list_of P n fun i hi => h i (by omega)
    obtain ⟨r, hp⟩ := h n (by omega)
    refine ⟨rs ++ [r], by simp [hl], fun i r' hi => ?_⟩
    rcases Nat.lt_or_ge i rs.length with hlt | hge
    · rw [List.getElem?_append_left hlt] at hi
      exact hr i r' hi
    · rw [List.getElem?_append_right hge] at hi
      have : i = n := by
        rcases Nat.eq_or_lt_of_le hge with h | h
        · omega
        · rw [List.getElem?_eq_none (by simp; omega)] at hi; cases hi
      subst this
      have e : i - rs.length = 0 := by omega
      rw [e] at hi
      simp at hi
      subst hi
      exact hp

/-- A slice that is read lies in memory, row for row. -/
theorem open_rows {H : Type} {enc : TypeId × Value → H} {P : Program} {w : World} {base : Nat} {spare : Nat → Bool} {held : Bool} {A : Type} (f : A → List Value) {t e : TypeId} {n fuel : Nat} {v : Value} {x : DataW H × List MemPlace} (ht : P.underlying t = some (.slice e)) (hc : P.cellsOf e = n) (hn : 0 < n)
    (hrow : ∀ (m : Nat) (cs : List Value) (y : DataW H × List MemPlace), cs.length = n → DataW.trod enc P w base spare held m e cs = some y → ∃ r : A, cs = f r)
    (h : DataW.trod enc P w base spare held fuel t [v] = some x) : ∃ (oa : Option Addr) (cap : Nat) (rs : List A), v = .slice oa rs.length cap ∧ rs.length ≤ 9223372036854775807 ∧ Sl w oa n (rs.map f) ∧ (oa = none → rs = [] ∧ cap = 0) ∧ (x.1 = .nil ∧ rs = [] ∨ ∃ elems spare, x.1 = .slice elems spare ∧ elems.length = rs.length) := by
  rcases Go.Deep.open_slice ht h with ⟨h0, hx0⟩ | ⟨a, len, cap, m, k, D, Pl, h1, hb, hl, hm, hmm, hx0, hx⟩
  · injection h0 with h0 _
    subst h0
    exact ⟨none, 0, [], rfl, by simp, fun h => absurd rfl h, fun _ => ⟨rfl, rfl⟩, .inl ⟨by rw [hx0], rfl⟩⟩
  · injection h1 with h1 _
    subst h1
    have hlm : len ≤ m := by rw [hmm]; split <;> omega
    obtain ⟨rs, hrl, hr⟩ := list_of (fun i r => w.cells? base (a.add (i * n)) n = some (f r)) len (fun i hi => by
      obtain ⟨cs, c1, c2⟩ := hx i (by omega)
      rw [hc] at c1
      obtain ⟨r, rfl⟩ := hrow _ _ _ (World.cells?_some c1).2.1 c2
      exact ⟨r, c1⟩)
    subst hrl
    refine ⟨some a, cap, rs, rfl, by unfold maxLen at hm; omega, fun hne => ?_, fun h => by (cases h), .inr ⟨_, _, by rw [hx0], by simp⟩⟩
    have hne' : rs ≠ [] := fun h => hne (by simp [h])
    have cell : ∀ (i : Nat) (r : A), rs[i]? = some r → ∀ q u, (f r)[q]? = some u → w.cell? ((a.add (i * n)).add q) = some u := by
      intro i r hi q u hq
      obtain ⟨_, c2, c3⟩ := World.cells?_some (hr i r hi)
      have hqn : q < n := by
        rcases Nat.lt_or_ge q (f r).length with h' | h'
        · omega
        · rw [List.getElem?_eq_none h'] at hq; cases hq
      rw [c3 q hqn, hq]
    -- the slice's address has no spot
    have sp : a.spot = none := by
      cases rs with
      | nil => exact absurd rfl hne'
      | cons r0 rt =>
        obtain ⟨_, c2, c3⟩ := World.cells?_some (hr 0 r0 rfl)
        have c4 := c3 0 hn
        have : (f r0)[0]? = some ((f r0)[0]'(by omega)) := List.getElem?_eq_getElem _
        rw [this] at c4
        cases hs : a.spot with
        | none => rfl
        | some s =>
          exfalso
          have e0 : ((a.add (0 * n)).add 0) = a := by simp [Addr.add]
          rw [e0] at c4
          unfold World.cell? at c4
          rw [hs] at c4
          revert c4
          cases w.heap[a.block]? with
          | none => simp
          | some o => cases o <;> simp
    obtain ⟨b, off, sp'⟩ := a
    simp at sp
    subst sp
    refine ⟨b, off, rfl, ?_, fun i r hi q u hq => ?_⟩
    · cases rs with
      | nil => exact absurd rfl hne'
      | cons r0 rt =>
        obtain ⟨_, c2, c3⟩ := World.cells?_some (hr 0 r0 rfl)
        have c4 := c3 0 hn
        have : (f r0)[0]? = some ((f r0)[0]'(by omega)) := List.getElem?_eq_getElem _
        rw [this] at c4
        rcases Nat.lt_or_ge b w.heap.size with h' | h'
        · exact h'
        · exfalso
          have e0 : (((⟨b, off, none⟩ : Addr).add (0 * n)).add 0) = ⟨b, off, none⟩ := by simp [Addr.add]
          rw [e0] at c4
          simp [World.cell?, Array.getElem?_eq_none h'] at c4
    · rw [List.getElem?_map] at hi
      cases hri : rs[i]? with
      | none => rw [hri] at hi; cases hi
      | some r' =>
        rw [hri] at hi
        simp at hi
        subst hi
        rw [← cell i r' hri q u hq]
        congr 1
        simp only [Addr.add]
        split <;> split <;> simp_all <;> omega

theorem row_int {H : Type} {enc : TypeId × Value → H} {w : World} {base : Nat} {spare : Nat → Bool} {held : Bool} (e : TypeId) (hu : Tryz.prog.underlying e = some (.int .i64)) (m : Nat) (cs : List Value) (y : DataW H × List MemPlace) (_ : cs.length = 1) (h : DataW.trod enc Tryz.prog w base spare held m e cs = some y) : ∃ r : Int, cs = [.int .i64 r] := by
  obtain ⟨n, rfl, _⟩ := DataW.trod_int hu h
  exact ⟨n, rfl⟩
theorem clo3 : Tryz.prog.cellsOf 3 = 1 := by kernel_rfl
theorem open_nums {H : Type} {enc : TypeId × Value → H} {w : World} {base : Nat} {spare : Nat → Bool} {held : Bool} {t e : TypeId} {fuel : Nat} {v : Value} {x : DataW H × List MemPlace} (ht : Tryz.prog.underlying t = some (.slice e)) (hu : Tryz.prog.underlying e = some (.int .i64)) (hc : Tryz.prog.cellsOf e = 1)
    (h : DataW.trod enc Tryz.prog w base spare held fuel t [v] = some x) : ∃ (oa : Option Addr) (cap : Nat) (rs : List Int), v = .slice oa rs.length cap ∧ rs.length ≤ 9223372036854775807 ∧ Sl w oa 1 (pvals rs) ∧ (oa = none → rs = [] ∧ cap = 0) ∧ (x.1 = .nil ∧ rs = [] ∨ ∃ elems spare, x.1 = .slice elems spare ∧ elems.length = rs.length) :=
  open_rows (fun p : Int => [.int .i64 p]) ht hc (by omega) (row_int e hu) h
theorem laidOut : laidOutB Tryz.prog = true := by kernel_rfl
open Go.ChangeShapes Go.WideShapes Go.ChangeAt
set_option linter.unusedVariables false
/-- The post, of a world of which it is known that nothing that stood before has changed. -/
theorem post_below {H : Type} {enc : TypeId × Value → H} {P : Program} {f : Func} {s : ChangeSpec} {apart fresh handsOn again : Bool} {W W' : World} {args : Array Value} {v : Value} {ds gs : List (DataW H)} {before pa pv : List MemPlace}
    (hW : DataW.Whole enc P f.params.toList s.vars apart W args.toList ds gs before)
    (hres : ∀ (b : Nat) (sp : Nat → Bool) (hd : Bool), DataW.TrodAll enc P W' b sp hd f.resultTypes.toList (v.resultList f.resultTypes.size) (s.fn H (ds ++ gs)).results [])
    (hargs : ∀ sp : Nat → Bool, (∀ p ∈ before, sp p.block = true) → DataW.TrodAll enc P W' 0 sp true f.params.toList args.toList (s.fn H (ds ++ gs)).args pa)
    (hvars : ∀ sp : Nat → Bool, (∀ p ∈ before, sp p.block = true) → DataW.TrodVars enc P W' sp s.vars (s.fn H (ds ++ gs)).vars pv)
    (hps : before = pa ++ pv) (hb : Below W.heap.size W W')
    (hok : ∀ (j : Nat) (t : TypeId) (r : Value), f.resultTypes[j]? = some t → (v.resultList f.resultTypes.size)[j]? = some r → Value.okWide P W' .any 0 t r) :
    s.post enc P f apart fresh handsOn again W args v W' := by
  have hlt : ∀ p ∈ before, p.block < W.heap.size := fun p hp => hW.lt p hp
  have hold : ∀ p ∈ before, (fun b => decide (b < W.heap.size)) p.block = true := fun p hp => by simpa using hlt p hp
  refine ⟨ds, gs, before, [], pa, pv, hW, hres _ _ _, hargs _ hold, hvars _ hold, World.keptBut_mono (fun p hp => ⟨hp, ?_⟩) (hb.frame (· ∈ before)), fun _ => ?_⟩
  · rw [hps, List.mem_append] at hp
    exact Or.inr hp
  · obtain ⟨_, _, _, _, _, hz, hn⟩ := hW
    refine ⟨hok, _, _, ([] ++ pa) ++ pv, ⟨[] ++ pa, pv, trodAll_append (hargs _ (fun _ _ => rfl)) (hres _ _ _), hvars _ (fun _ _ => rfl), rfl, ?_, ?_⟩, ?_⟩
    · intro b off hp
      have hin : MemPlace.cell b off ∈ before := by rw [hps]; simpa using hp
      rw [hb.frozen (hlt _ hin)]
      exact hz b off hin
    · intro ha
      have := hn ha
      rw [hps] at this
      simpa using this
    · intro p hp _
      rw [hps]
      simpa using hp


/-- What was read reads as it did. -/
theorem stays {H : Type} {enc : TypeId × Value → H} {P : Program} (hl : laidOutB P = true) {W W' : World} {sp' : Nat → Bool} : ∀ (ts : List TypeId) (vs : List Value) (ds : List (DataW H)) (ps : List MemPlace), (∀ t ∈ ts, P.readableRec t = true ∧ t < P.types.size) →
    DataW.TrodAll enc P W 0 (fun _ => true) true ts vs ds ps → (∀ p ∈ ps, W.sameAt W' p) → (∀ p ∈ ps, sp' p.block = true) → DataW.TrodAll enc P W' 0 sp' true ts vs ds ps
  | [], [], [], ps, _, h, _, _ => h
  | t :: ts, v :: vs, d :: ds, ps, ht, h, h1, h2 => by
    obtain ⟨p, q, a, b, rfl⟩ := h
    exact ⟨p, q, WideElems.Trod_stays hl (ht t (by simp)).1 (ht t (by simp)).2 a (fun x hx => h1 x (by simp [hx])) (fun x hx => h2 x (by simp [hx])), stays hl ts vs ds q (fun t h => ht t (by simp [h])) b (fun x hx => h1 x (by simp [hx])) (fun x hx => h2 x (by simp [hx])), rfl⟩
  | [], _ :: _, _, _, _, h, _, _ => by simp [DataW.TrodAll] at h
  | [], [], _ :: _, _, _, h, _, _ => by simp [DataW.TrodAll] at h
  | _ :: _, [], _, _, _, h, _, _ => by simp [DataW.TrodAll] at h
  | _ :: _, _ :: _, [], _, _, h, _, _ => by simp [DataW.TrodAll] at h

theorem own24 : ownKnob Tryz.prog.godebug = none := by kernel_rfl
theorem clo2 : Tryz.prog.cellsOf 2 = 1 := by kernel_rfl
theorem clo31 : Tryz.prog.cellsOf 42 = 1 := by kernel_rfl
theorem read3 : Tryz.prog.readableRec 3 = true ∧ 3 < Tryz.prog.types.size := ⟨by kernel_rfl, of_decide_eq_true (by kernel_rfl)⟩
theorem read22 : Tryz.prog.readableRec 22 = true ∧ 22 < Tryz.prog.types.size := ⟨by kernel_rfl, of_decide_eq_true (by kernel_rfl)⟩
theorem read24 : Tryz.prog.readableRec 26 = true ∧ 26 < Tryz.prog.types.size := ⟨by kernel_rfl, of_decide_eq_true (by kernel_rfl)⟩
/-- A slice of points, as it is read. -/
theorem open_pts {H : Type} {enc : TypeId × Value → H} {w : World} {base : Nat} {spare : Nat → Bool} {held : Bool} {fuel : Nat} {v : Value} {x : DataW H × List MemPlace}
    (h : DataW.trod enc Tryz.prog w base spare held fuel 22 [v] = some x) : ∃ (oa : Option Addr) (cap : Nat) (pts : List (List Int)), v = .slice oa pts.length cap ∧ Pts w oa pts := by
  obtain ⟨oa, cap, rs, rfl, _, hs, _⟩ := open_rows (A := { p : Value × List Int // PtAt w p.1 p.2 }) (fun r => [r.1.1]) Tryz.underlying22 clo31 (by omega) (fun m cs y hc hy => by
    match cs, hc with
    | [u], _ =>
      obtain ⟨ox, cx, xs, rfl, _, hX, _⟩ := open_nums Tryz.underlying42 Tryz.underlying2 clo2 hy
      exact ⟨⟨(.slice ox xs.length cx, xs), ox, cx, rfl, hX⟩, rfl⟩) h
  refine ⟨oa, cap, rs.map fun r => r.1.2, by simp, ⟨rs.map fun r => r.1.1, by simp, by rw [List.map_map]; exact hs, fun k u xs hu hx => ?_⟩⟩
  rw [List.getElem?_map, Option.map_eq_some_iff] at hu hx
  obtain ⟨r, hr, rfl⟩ := hu
  obtain ⟨r', hr', rfl⟩ := hx
  rw [hr] at hr'
  injection hr' with hr'
  subst hr'
  exact r.2
theorem get_some' {A : Type} {xs : List A} {n i : Nat} (h : xs.length = n) (hi : i < n) : ∃ y, xs[i]? = some y := ⟨_, List.getElem?_eq_getElem (by omega)⟩
end Go.Proofs.Ng
end

section
/-
  What the readings of the arguments say of memory, and of its bulk.
-/
namespace Go.Proofs.Ng
open Go.RowKit

abbrev blk {H : Type} (d : DataW H) : Nat := Go.Proofs.YtlpcihfkkgifkaaGreatDoor.Rows.uptoBulk d
abbrev blkAll {H : Type} (l : List (DataW H)) : Nat := Go.Proofs.YtlpcihfkkgifkaaGreatDoor.Rows.uptoBulkAll l
theorem blk_pos {H : Type} (d : DataW H) : 1 ≤ blk d := by
  cases d with
  | lit l => cases l <;> simp [Go.Proofs.YtlpcihfkkgifkaaGreatDoor.Rows.uptoBulk]
  | _ => simp [Go.Proofs.YtlpcihfkkgifkaaGreatDoor.Rows.uptoBulk]
theorem blkAll_cons {H : Type} (d : DataW H) (l : List (DataW H)) : blkAll (d :: l) = blk d + blkAll l := by
  simp only [blkAll, blk, Go.Proofs.YtlpcihfkkgifkaaGreatDoor.Rows.uptoBulkAll]
theorem bulk_mem {H : Type} {d : DataW H} : ∀ {l : List (DataW H)}, d ∈ l → blk d ≤ blkAll l
  | e :: l, h => by
    rw [blkAll_cons]
    rcases List.mem_cons.1 h with rfl | h
    · omega
    · have := bulk_mem h; omega
theorem bulk_len {H : Type} : ∀ l : List (DataW H), l.length ≤ blkAll l
  | [] => Nat.zero_le _
  | e :: l => by
    rw [blkAll_cons]
    have := bulk_len l
    have := blk_pos e
    simp only [List.length_cons]; omega
theorem bulk_slice {H : Type} (l s : List (DataW H)) : blkAll l ≤ blk (.slice l s) := by
  simp only [blk, blkAll, Go.Proofs.YtlpcihfkkgifkaaGreatDoor.Rows.uptoBulk]; omega
theorem bulk_agg {H : Type} (l : List (DataW H)) : blkAll l ≤ blk (.agg l) := by
  simp only [blk, blkAll, Go.Proofs.YtlpcihfkkgifkaaGreatDoor.Rows.uptoBulk]; omega
/-- A slice that is read lies in memory, row for row. -/
theorem open_rowsB {H : Type} {enc : TypeId × Value → H} {P : Program} {w : World} {base : Nat} {spare : Nat → Bool} {held : Bool} {A : Type} (f : A → List Value) (B : A → DataW H → Prop) {t e : TypeId} {n fuel : Nat} {v : Value} {x : DataW H × List MemPlace} (ht : P.underlying t = some (.slice e)) (hc : P.cellsOf e = n) (hn : 0 < n)
    (hrow : ∀ (m : Nat) (cs : List Value) (y : DataW H × List MemPlace), cs.length = n → DataW.trod enc P w base spare held m e cs = some y → ∃ r : A, cs = f r ∧ B r y.1)
    (h : DataW.trod enc P w base spare held fuel t [v] = some x) : ∃ (oa : Option Addr) (cap : Nat) (rs : List A), v = .slice oa rs.length cap ∧ rs.length ≤ 9223372036854775807 ∧ Sl w oa n (rs.map f) ∧ (∀ r ∈ rs, ∃ y : DataW H, B r y ∧ blk y ≤ blk x.1) ∧ rs.length ≤ blk x.1 := by
  rcases Go.Deep.open_slice ht h with ⟨h0, hx0⟩ | ⟨a, len, cap, m, k, D, Pl, h1, hb, hl, hm, hmm, hx0, hx⟩
  · injection h0 with h0 _
    subst h0
    exact ⟨none, 0, [], rfl, by simp, fun h => absurd rfl h, fun r hr => (by cases hr), Nat.zero_le _⟩
  · injection h1 with h1 _
    subst h1
    have hlm : len ≤ m := by rw [hmm]; split <;> omega
    obtain ⟨rs, hrl, hr⟩ := list_of (fun i r => w.cells? base (a.add (i * n)) n = some (f r) ∧ B r (D i)) len (fun i hi => by
      obtain ⟨cs, c1, c2⟩ := hx i (by omega)
      rw [hc] at c1
      obtain ⟨r, rfl, hB⟩ := hrow _ _ _ (World.cells?_some c1).2.1 c2
      exact ⟨r, c1, hB⟩)
    subst hrl
    refine ⟨some a, cap, rs, rfl, by unfold maxLen at hm; omega, fun hne => ?_, fun r hr2 => ?_, ?_⟩
    rotate_left
    · obtain ⟨i, hi⟩ := List.getElem?_of_mem hr2
      refine ⟨D i, (hr i r hi).2, ?_⟩
      rw [hx0]
      exact Nat.le_trans (bulk_mem (List.mem_map.2 ⟨i, List.mem_range.2 (List.getElem?_eq_some_iff.1 hi).1, rfl⟩)) (bulk_slice _ _)
    · rw [hx0]
      refine Nat.le_trans ?_ (bulk_slice _ _)
      have := bulk_len ((List.range rs.length).map D)
      simpa using this
    have hne' : rs ≠ [] := fun h => hne (by simp [h])
    have cell : ∀ (i : Nat) (r : A), rs[i]? = some r → ∀ q u, (f r)[q]? = some u → w.cell? ((a.add (i * n)).add q) = some u := by
      intro i r hi q u hq
      obtain ⟨_, c2, c3⟩ := World.cells?_some (hr i r hi).1
      have hqn : q < n := by
        rcases Nat.lt_or_ge q (f r).length with h' | h'
        · omega
        · rw [List.getElem?_eq_none h'] at hq; cases hq
      rw [c3 q hqn, hq]
    -- the slice's address has no spot
    have sp : a.spot = none := by
      cases rs with
      | nil => exact absurd rfl hne'
      | cons r0 rt =>
        obtain ⟨_, c2, c3⟩ := World.cells?_some (hr 0 r0 rfl).1
        have c4 := c3 0 hn
        have : (f r0)[0]? = some ((f r0)[0]'(by omega)) := List.getElem?_eq_getElem _
        rw [this] at c4
        cases hs : a.spot with
        | none => rfl
        | some s =>
          exfalso
          have e0 : ((a.add (0 * n)).add 0) = a := by simp [Addr.add]
          rw [e0] at c4
          unfold World.cell? at c4
          rw [hs] at c4
          revert c4
          cases w.heap[a.block]? with
          | none => simp
          | some o => cases o <;> simp
    obtain ⟨b, off, sp'⟩ := a
    simp at sp
    subst sp
    refine ⟨b, off, rfl, ?_, fun i r hi q u hq => ?_⟩
    · cases rs with
      | nil => exact absurd rfl hne'
      | cons r0 rt =>
        obtain ⟨_, c2, c3⟩ := World.cells?_some (hr 0 r0 rfl).1
        have c4 := c3 0 hn
        have : (f r0)[0]? = some ((f r0)[0]'(by omega)) := List.getElem?_eq_getElem _
        rw [this] at c4
        rcases Nat.lt_or_ge b w.heap.size with h' | h'
        · exact h'
        · exfalso
          have e0 : (((⟨b, off, none⟩ : Addr).add (0 * n)).add 0) = ⟨b, off, none⟩ := by simp [Addr.add]
          rw [e0] at c4
          simp [World.cell?, Array.getElem?_eq_none h'] at c4
    · rw [List.getElem?_map] at hi
      cases hri : rs[i]? with
      | none => rw [hri] at hi; cases hi
      | some r' =>
        rw [hri] at hi
        simp at hi
        subst hi
        rw [← cell i r' hri q u hq]
        congr 1
        simp only [Addr.add]
        split <;> split <;> simp_all <;> omega


section
variable {H : Type} {enc : TypeId × Value → H} {w : World} {base : Nat} {spare : Nat → Bool} {held : Bool}
theorem ce2 : Tryz.prog.cellsOf 2 = 1 := by kernel_rfl
theorem ce3 : Tryz.prog.cellsOf 3 = 1 := by kernel_rfl
theorem ce22 : Tryz.prog.cellsOf 22 = 1 := by kernel_rfl
theorem ce23 : Tryz.prog.cellsOf 23 = 1 := by kernel_rfl
theorem ce26 : Tryz.prog.cellsOf 26 = 1 := by kernel_rfl
theorem ce42 : Tryz.prog.cellsOf 42 = 1 := by kernel_rfl
theorem ce49 : Tryz.prog.cellsOf 49 = 1 := by kernel_rfl
theorem ce50 : Tryz.prog.cellsOf 50 = 1 := by kernel_rfl
theorem ce38 : Tryz.prog.cellsOf 38 = 3 := by kernel_rfl
theorem ce54 : Tryz.prog.cellsOf 54 = 3 := by kernel_rfl
theorem ce52 : Tryz.prog.cellsOf 52 = 2 := by kernel_rfl
theorem ce25 : Tryz.prog.cellsOf 25 = 2 := by kernel_rfl
theorem row_i64 {e : TypeId} (hu : Tryz.prog.underlying e = some (.int .i64)) {m : Nat} {cs : List Value} {y : DataW H × List MemPlace} (h : DataW.trod enc Tryz.prog w base spare held m e cs = some y) : ∃ r : Int, cs = [.int .i64 r] ∧ Fm.inR64 r := by
  obtain ⟨n, rfl, -, hw⟩ := DataW.trod_int hu h
  exact ⟨n, rfl, by have := bounds_i64 hw; unfold Fm.inR64; omega⟩
theorem open_numsB {t e : TypeId} {fuel : Nat} {v : Value} {x : DataW H × List MemPlace} (ht : Tryz.prog.underlying t = some (.slice e)) (hu : Tryz.prog.underlying e = some (.int .i64)) (hc : Tryz.prog.cellsOf e = 1)
    (h : DataW.trod enc Tryz.prog w base spare held fuel t [v] = some x) : ∃ (oa : Option Addr) (cap : Nat) (ns : List Int), v = .slice oa ns.length cap ∧ ns.length ≤ 9223372036854775807 ∧ Sl w oa 1 (pvals ns) ∧ (∀ n ∈ ns, Fm.inR64 n) ∧ ns.length ≤ blk x.1 := by
  obtain ⟨oa, cap, rs, rfl, hl, hs, -, hb⟩ := open_rowsB (A := { n : Int // Fm.inR64 n }) (fun r => [.int .i64 r.1]) (fun _ _ => True) ht hc (by omega) (fun m cs y _ hy => by
    obtain ⟨r, rfl, hr⟩ := row_i64 hu hy
    exact ⟨⟨r, hr⟩, rfl, trivial⟩) h
  refine ⟨oa, cap, rs.map (·.1), by simp, by simpa using hl, by simpa [pvals, List.map_map, Function.comp_def] using hs, fun n hn => ?_, by simpa using hb⟩
  obtain ⟨r, -, rfl⟩ := List.mem_map.1 hn
  exact r.2
theorem open_ptsB {fuel : Nat} {v : Value} {x : DataW H × List MemPlace} (h : DataW.trod enc Tryz.prog w base spare held fuel 22 [v] = some x) :
    ∃ (oa : Option Addr) (cap : Nat) (pts : List (List Int)), v = .slice oa pts.length cap ∧ Pts w oa pts ∧ (∀ q ∈ pts, ∀ n ∈ q, Fm.inR64 n) ∧ pts.length ≤ blk x.1 ∧ ∀ q ∈ pts, q.length ≤ blk x.1 := by
  obtain ⟨oa, cap, rs, rfl, -, hs, hB, hb⟩ := open_rowsB (A := { p : Value × List Int // PtAt w p.1 p.2 ∧ ∀ n ∈ p.2, Fm.inR64 n }) (fun r => [r.1.1]) (fun r y => r.1.2.length ≤ blk y) Tryz.underlying22 ce42 (by omega) (fun m cs y hc hy => by
    match cs, hc with
    | [u], _ =>
      obtain ⟨ox, cx, xs, rfl, -, hX, hr, hbx⟩ := open_numsB Tryz.underlying42 Tryz.underlying2 ce2 hy
      exact ⟨⟨(.slice ox xs.length cx, xs), ⟨ox, cx, rfl, hX⟩, hr⟩, rfl, hbx⟩) h
  refine ⟨oa, cap, rs.map fun r => r.1.2, by simp, ⟨rs.map fun r => r.1.1, by simp, by rw [List.map_map]; exact hs, fun k u xs hu hx => ?_⟩, fun q hq => ?_, by simpa using hb, fun q hq => ?_⟩
  · rw [List.getElem?_map, Option.map_eq_some_iff] at hu hx
    obtain ⟨r, hr, rfl⟩ := hu
    obtain ⟨r', hr', rfl⟩ := hx
    rw [hr] at hr'
    injection hr' with hr'
    subst hr'
    exact r.2.1
  · obtain ⟨r, -, rfl⟩ := List.mem_map.1 hq
    exact r.2.2
  · obtain ⟨r, hr, rfl⟩ := List.mem_map.1 hq
    obtain ⟨y, h1, h2⟩ := hB r hr
    exact Nat.le_trans h1 h2
set_option maxRecDepth 100000 in
theorem row_vec {m : Nat} {cs : List Value} {y : DataW H × List MemPlace} (hl : cs.length = 3) (h : DataW.trod enc Tryz.prog w base spare held m 38 cs = some y) : ∃ r : Int × Int × Int, cs = vec3 r ∧ ∀ n ∈ Fm.vecL r, Fm.inR64 n := by
  obtain ⟨xs, m1, -, -, -, h3, hel⟩ := DataW.trod_array Tryz.underlying38 h
  match cs, hl with
  | [a, b, c], _ =>
    obtain ⟨y0, g0⟩ := get_some' h3 (i := 0) (by omega)
    obtain ⟨y1, g1⟩ := get_some' h3 (i := 1) (by omega)
    obtain ⟨y2, g2⟩ := get_some' h3 (i := 2) (by omega)
    have h0 := hel 0 (by omega)
    have h1 := hel 1 (by omega)
    have h2 := hel 2 (by omega)
    rw [ce2] at h0 h1 h2
    rw [g0] at h0
    rw [g1] at h1
    rw [g2] at h2
    obtain ⟨x0, e0, r0⟩ := row_i64 Tryz.underlying2 h0
    obtain ⟨x1, e1, r1⟩ := row_i64 Tryz.underlying2 h1
    obtain ⟨x2, e2, r2⟩ := row_i64 Tryz.underlying2 h2
    simp at e0 e1 e2
    subst e0 e1 e2
    refine ⟨(x0, x1, x2), rfl, fun n hn => ?_⟩
    simp [Fm.vecL] at hn
    rcases hn with rfl | rfl | rfl <;> assumption
theorem open_vecsB {fuel : Nat} {v : Value} {x : DataW H × List MemPlace} (h : DataW.trod enc Tryz.prog w base spare held fuel 49 [v] = some x) :
    ∃ (oa : Option Addr) (cap : Nat) (l : List (Int × Int × Int)), v = .slice oa l.length cap ∧ Sl w oa 3 (vecsV l) ∧ (∀ q ∈ l, ∀ n ∈ Fm.vecL q, Fm.inR64 n) ∧ l.length ≤ blk x.1 := by
  obtain ⟨oa, cap, rs, rfl, -, hs, -, hb⟩ := open_rowsB (A := { q : Int × Int × Int // ∀ n ∈ Fm.vecL q, Fm.inR64 n }) (fun r => vec3 r.1) (fun _ _ => True) Tryz.underlying49 ce38 (by omega) (fun m cs y hc hy => by
    obtain ⟨r, rfl, hr⟩ := row_vec hc hy
    exact ⟨⟨r, hr⟩, rfl, trivial⟩) h
  refine ⟨oa, cap, rs.map (·.1), by simp, by simpa [vecsV, List.map_map, Function.comp_def] using hs, fun n hn => ?_, by simpa using hb⟩
  obtain ⟨r, -, rfl⟩ := List.mem_map.1 hn
  exact r.2
set_option maxRecDepth 100000 in
theorem row_use {m : Nat} {cs : List Value} {y : DataW H × List MemPlace} (hl : cs.length = 3) (h : DataW.trod enc Tryz.prog w base spare held m 54 cs = some y) :
    ∃ u : Fm.UseD, UseAt w cs u ∧ (∀ n ∈ u.depth :: u.index :: u.nums, Fm.inR64 n) ∧ u.nums.length ≤ blk y.1 := by
  obtain ⟨xs, m1, -, hx, -, h3, hel⟩ := DataW.trod_struct Tryz.underlying54 h
  have h3' : xs.length = 3 := h3
  match cs, hl with
  | [a, b, c], _ =>
    obtain ⟨y0, g0⟩ := get_some' h3' (i := 0) (by omega)
    obtain ⟨y1, g1⟩ := get_some' h3' (i := 1) (by omega)
    obtain ⟨y2, g2⟩ := get_some' h3' (i := 2) (by omega)
    have h0 : DataW.trod enc Tryz.prog w base spare held m1 3 (List.take (Tryz.prog.cellsOf 3) (List.drop 0 ([a, b, c] : List Value))) = xs[0]? := hel 0 _ rfl
    have h1 : DataW.trod enc Tryz.prog w base spare held m1 2 (List.take (Tryz.prog.cellsOf 2) (List.drop 1 ([a, b, c] : List Value))) = xs[1]? := hel 1 _ rfl
    have h2 : DataW.trod enc Tryz.prog w base spare held m1 26 (List.take (Tryz.prog.cellsOf 26) (List.drop 2 ([a, b, c] : List Value))) = xs[2]? := hel 2 _ rfl
    rw [ce3, g0] at h0
    rw [ce2, g1] at h1
    rw [ce26, g2] at h2
    obtain ⟨x0, e0, r0⟩ := row_i64 Tryz.underlying3 h0
    obtain ⟨x1, e1, r1⟩ := row_i64 Tryz.underlying2 h1
    obtain ⟨on, cn, ns, e2, -, hN, r2, hb⟩ := open_numsB Tryz.underlying26 Tryz.underlying3 ce3 (v := c) h2
    simp at e0 e1
    subst e0 e1 e2
    refine ⟨⟨x0, x1, ns⟩, ⟨on, cn, rfl, hN⟩, fun n hn => ?_, ?_⟩
    · rcases List.mem_cons.1 hn with rfl | hn
      · exact r0
      · rcases List.mem_cons.1 hn with rfl | hn
        · exact r1
        · exact r2 n hn
    · rw [hx]
      refine Nat.le_trans hb (Nat.le_trans (bulk_mem ?_) (bulk_agg _))
      exact List.mem_map.2 ⟨y2, List.mem_of_getElem? g2, rfl⟩
theorem open_usesB {fuel : Nat} {v : Value} {x : DataW H × List MemPlace} (h : DataW.trod enc Tryz.prog w base spare held fuel 50 [v] = some x) :
    ∃ (oa : Option Addr) (cap : Nat) (l : List Fm.UseD), v = .slice oa l.length cap ∧ Uses w oa l ∧ (∀ u ∈ l, ∀ n ∈ u.depth :: u.index :: u.nums, Fm.inR64 n) ∧ l.length ≤ blk x.1 ∧ ∀ u ∈ l, u.nums.length ≤ blk x.1 := by
  obtain ⟨oa, cap, rs, rfl, -, hs, hB, hb⟩ := open_rowsB (A := { q : List Value × Fm.UseD // UseAt w q.1 q.2 ∧ ∀ n ∈ q.2.depth :: q.2.index :: q.2.nums, Fm.inR64 n }) (fun r => r.1.1) (fun r y => r.1.2.nums.length ≤ blk y) Tryz.underlying50 ce54 (by omega) (fun m cs y hc hy => by
    obtain ⟨u, h1, h2, h3⟩ := row_use hc hy
    exact ⟨⟨(cs, u), h1, h2⟩, rfl, h3⟩) h
  refine ⟨oa, cap, rs.map fun r => r.1.2, by simp, ⟨rs.map fun r => r.1.1, by simp, hs, fun k u xs hu hx => ?_⟩, fun q hq => ?_, by simpa using hb, fun q hq => ?_⟩
  · rw [List.getElem?_map, Option.map_eq_some_iff] at hu hx
    obtain ⟨r, hr, rfl⟩ := hu
    obtain ⟨r', hr', rfl⟩ := hx
    rw [hr] at hr'
    injection hr' with hr'
    subst hr'
    exact r.2.1
  · obtain ⟨r, -, rfl⟩ := List.mem_map.1 hq
    exact r.2.2
  · obtain ⟨r, hr, rfl⟩ := List.mem_map.1 hq
    obtain ⟨y, h1, h2⟩ := hB r hr
    exact Nat.le_trans h1 h2
set_option maxRecDepth 100000 in
theorem row_edge {m : Nat} {cs : List Value} {y : DataW H × List MemPlace} (hl : cs.length = 2) (h : DataW.trod enc Tryz.prog w base spare held m 52 cs = some y) :
    ∃ e : Fm.EdgeD, EdgeAt w cs e ∧ ((∀ v ∈ e.table, ∀ n ∈ Fm.vecL v, Fm.inR64 n) ∧ ∀ u ∈ e.uses, ∀ n ∈ u.depth :: u.index :: u.nums, Fm.inR64 n) ∧ e.table.length ≤ blk y.1 ∧ e.uses.length ≤ blk y.1 ∧ ∀ u ∈ e.uses, u.nums.length ≤ blk y.1 := by
  obtain ⟨xs, m1, -, hx, -, h3, hel⟩ := DataW.trod_struct Tryz.underlying52 h
  have h3' : xs.length = 2 := h3
  match cs, hl with
  | [a, b], _ =>
    obtain ⟨y0, g0⟩ := get_some' h3' (i := 0) (by omega)
    obtain ⟨y1, g1⟩ := get_some' h3' (i := 1) (by omega)
    have h0 : DataW.trod enc Tryz.prog w base spare held m1 49 (List.take (Tryz.prog.cellsOf 49) (List.drop 0 ([a, b] : List Value))) = xs[0]? := hel 0 _ rfl
    have h1 : DataW.trod enc Tryz.prog w base spare held m1 50 (List.take (Tryz.prog.cellsOf 50) (List.drop 1 ([a, b] : List Value))) = xs[1]? := hel 1 _ rfl
    rw [ce49, g0] at h0
    rw [ce50, g1] at h1
    obtain ⟨ot, ct, tb, rfl, hT, r0, b0⟩ := open_vecsB (v := a) h0
    obtain ⟨ou, cu, us, rfl, hU, r1, b1, b2⟩ := open_usesB (v := b) h1
    have k0 : blk y0.1 ≤ blk y.1 := by
      rw [hx]
      exact Nat.le_trans (bulk_mem (List.mem_map.2 ⟨y0, List.mem_of_getElem? g0, rfl⟩)) (bulk_agg _)
    have k1 : blk y1.1 ≤ blk y.1 := by
      rw [hx]
      exact Nat.le_trans (bulk_mem (List.mem_map.2 ⟨y1, List.mem_of_getElem? g1, rfl⟩)) (bulk_agg _)
    exact ⟨⟨tb, us⟩, ⟨ot, ct, ou, cu, rfl, hT, hU⟩, ⟨r0, r1⟩, Nat.le_trans b0 k0, Nat.le_trans b1 k1, fun u hu => Nat.le_trans (b2 u hu) k1⟩
theorem open_edgesB {fuel : Nat} {v : Value} {x : DataW H × List MemPlace} (h : DataW.trod enc Tryz.prog w base spare held fuel 23 [v] = some x) :
    ∃ (oa : Option Addr) (cap : Nat) (l : List Fm.EdgeD), v = .slice oa l.length cap ∧ Edges w oa l ∧ (∀ e ∈ l, (∀ v ∈ e.table, ∀ n ∈ Fm.vecL v, Fm.inR64 n) ∧ ∀ u ∈ e.uses, ∀ n ∈ u.depth :: u.index :: u.nums, Fm.inR64 n) ∧ l.length ≤ blk x.1 ∧
      ∀ e ∈ l, e.table.length ≤ blk x.1 ∧ e.uses.length ≤ blk x.1 ∧ ∀ u ∈ e.uses, u.nums.length ≤ blk x.1 := by
  obtain ⟨oa, cap, rs, rfl, -, hs, hB, hb⟩ := open_rowsB (A := { q : List Value × Fm.EdgeD // EdgeAt w q.1 q.2 ∧ ((∀ v ∈ q.2.table, ∀ n ∈ Fm.vecL v, Fm.inR64 n) ∧ ∀ u ∈ q.2.uses, ∀ n ∈ u.depth :: u.index :: u.nums, Fm.inR64 n) }) (fun r => r.1.1) (fun r y => r.1.2.table.length ≤ blk y ∧ r.1.2.uses.length ≤ blk y ∧ ∀ u ∈ r.1.2.uses, u.nums.length ≤ blk y) Tryz.underlying23 ce52 (by omega) (fun m cs y hc hy => by
    obtain ⟨u, h1, h2, h3⟩ := row_edge hc hy
    exact ⟨⟨(cs, u), h1, h2⟩, rfl, h3⟩) h
  refine ⟨oa, cap, rs.map fun r => r.1.2, by simp, ⟨rs.map fun r => r.1.1, by simp, hs, fun k u xs hu hx => ?_⟩, fun q hq => ?_, by simpa using hb, fun q hq => ?_⟩
  · rw [List.getElem?_map, Option.map_eq_some_iff] at hu hx
    obtain ⟨r, hr, rfl⟩ := hu
    obtain ⟨r', hr', rfl⟩ := hx
    rw [hr] at hr'
    injection hr' with hr'
    subst hr'
    exact r.2.1
  · obtain ⟨r, -, rfl⟩ := List.mem_map.1 hq
    exact r.2.2
  · obtain ⟨r, hr, rfl⟩ := List.mem_map.1 hq
    obtain ⟨y, ⟨h1, h2, h3⟩, h4⟩ := hB r hr
    exact ⟨Nat.le_trans h1 h4, Nat.le_trans h2 h4, fun u hu => Nat.le_trans (h3 u hu) h4⟩
set_option maxRecDepth 100000 in
/-- A path, as it is read. -/
theorem open_path {r : Reach} {b0 : Nat} {v : Value} {d : DataW H} {p : List MemPlace} (hv : Value.okWide Tryz.prog w r b0 25 v) (h : DataW.Trod enc Tryz.prog w base spare held 25 v d p) : ∃ q : Fm.PathD, PathAt w v q ∧ In64 q ∧ (blk d ≤ 1048576 → BulkP q) := by
  obtain ⟨v0, v1, y0, y1, n, rfl, rfl, -, h0, h1⟩ := Go.Joins.open_agg2 Tryz.underlying25 (by kernel_rfl) ce25 hv h
  obtain ⟨op, np, pts, rfl, hP, r0, b0, b1⟩ := open_ptsB h0
  obtain ⟨oe, ne, es, rfl, hE, r1, b2, b3⟩ := open_edgesB h1
  refine ⟨⟨pts, es⟩, ⟨op, np, oe, ne, rfl, hP, hE⟩, ⟨r0, r1⟩, fun hb => ?_⟩
  have k0 : blk y0.1 ≤ 1048576 := Nat.le_trans (Nat.le_trans (bulk_mem (by simp)) (bulk_agg _)) hb
  have k1 : blk y1.1 ≤ 1048576 := Nat.le_trans (Nat.le_trans (bulk_mem (by simp)) (bulk_agg _)) hb
  exact ⟨Nat.le_trans b0 k0, fun q hq => Nat.le_trans (b1 q hq) k0, Nat.le_trans b2 k1, fun e he => ⟨Nat.le_trans (b3 e he).1 k1, Nat.le_trans (b3 e he).2.1 k1, fun u hu => Nat.le_trans ((b3 e he).2.2 u hu) k1⟩⟩
end
end Go.Proofs.Ng
end

section
/-
  What the listed variables give the walk.
-/
namespace Go.Proofs.Ng
open Go.RowKit Go.Proofs.YtlpcihfkkgifkaaGreatDoor

theorem gP : Tryz.prog.globalNamed "internal/strconv.uint64pow10" = some 0 := by kernel_rfl
theorem gS : Tryz.prog.globalNamed "strconv.ErrSyntax" = some 4 := by kernel_rfl
theorem gR : Tryz.prog.globalNamed "strconv.ErrRange" = some 5 := by kernel_rfl
theorem gA : Tryz.prog.globalNamed "unicode/utf8.acceptRanges" = some 7 := by kernel_rfl
theorem tP : (Tryz.prog.globals[0]?).map (·.type) = some 138 := by kernel_rfl
theorem tS : (Tryz.prog.globals[4]?).map (·.type) = some 132 := by kernel_rfl
theorem tR : (Tryz.prog.globals[5]?).map (·.type) = some 132 := by kernel_rfl
theorem row170 (u : TypeId) (h : Tryz.prog.typeName? 3 u = some "*errors.errorString") : u = 170 :=
  typeName_ptr_named (nm := "errors.errorString") (by kernel_rfl) (by kernel_rfl) (by decide) u h
abbrev laid43 : List (String × DataW Unit) := Rows.formatPathsUptoRow.laid
theorem lib_of {W : World} (hL0 : laidMetH Tryz.prog laid43 W) (hsh : W.ShapedOpen Tryz.prog) : LibW W := by
  rw [MakeChecks.laidMetH_plain _ _ _ (by kernel_rfl)] at hL0
  have hL : laidMet Tryz.prog [("math/bits.deBruijn32tab", Rows.laid_math_bits_deBruijn32tab), ("math/bits.deBruijn64tab", Rows.laid_math_bits_deBruijn64tab), ("internal/strconv.uint64pow10", Rows.laid_internal_strconv_uint64pow10), ("unicode/utf8.acceptRanges", Rows.laid_unicode_utf8_acceptRanges), ("strconv.ErrRange", Rows.laid_strconv_ErrRange), ("strconv.ErrSyntax", Rows.laid_strconv_ErrSyntax), ("unicode/utf8.first", Rows.laid_unicode_utf8_first)] W := hL0
  have h2 := laidMet.tail (laidMet.tail hL)
  have h3 := laidMet.tail h2
  have h4 := laidMet.tail h3
  have h5 := laidMet.tail h4
  have htab : Lib.TabIs Tryz.prog W "internal/strconv.uint64pow10" .u64 Lib.pow10Tab := Lib.tabIs_of_head gP tP Tryz.underlying138 Tryz.underlying126 (by kernel_rfl) (by kernel_rfl) (show laidMet Tryz.prog (("internal/strconv.uint64pow10", Lib.tabData .u64 Lib.pow10Tab) :: _) W from h2)
  obtain ⟨a1, s1, hv1, -, -, -⟩ := laid_sentinel h4 gR tR Tryz.underlying132 row170 Tryz.underlying170 Tryz.underlying172 rfl rfl Tryz.underlying9 (by kernel_rfl) (by kernel_rfl)
  obtain ⟨a2, s2, hv2, -, -, -⟩ := laid_sentinel h5 gS tS Tryz.underlying132 row170 Tryz.underlying170 Tryz.underlying172 rfl rfl Tryz.underlying9 (by kernel_rfl) (by kernel_rfl)
  have hz : 8 ≤ W.heap.size := by
    obtain ⟨ps, ⟨g0, t0, cs0, f0, p0, q0, hg0, ht0, hv0, _⟩, _⟩ := h3
    obtain rfl := Option.some.inj (gA.symm.trans hg0)
    unfold World.var? at hv0
    rw [gA] at hv0
    rcases Nat.lt_or_ge 7 W.heap.size with h' | h'
    · exact h'
    · simp [Array.getElem?_eq_none h'] at hv0
  refine ⟨Tryz.cutL.s1_3 W hsh, ⟨170, .pointer (some a2), ?_⟩, ⟨170, .pointer (some a1), ?_⟩, hz, fun w' hb => ?_⟩
  · have := World.var?_cell gS hv2 0
    simpa using this
  · have := World.var?_cell gR hv1 0
    simpa using this
  · unfold Lib.TabIs World.var? at *
    rw [gP] at htab ⊢
    simp only [Option.bind_some] at htab ⊢
    rw [hb.block 0 (by omega)]
    exact htab
end Go.Proofs.Ng
end

section
/-
  Trajectories in memory; walks: the writer's trajectory.
-/
namespace Go.Proofs.Ng
open Go.RowKit

/-- A profile in memory. -/
def ProfAt (W : World) (r : List Value) (x : Fm.ProfD) : Prop := ∃ ol nl os ns, r = [.slice ol x.levels.length nl, .slice os x.steps.length ns] ∧ Sl W ol 1 (pvals x.levels) ∧ Sl W os 1 (pvals x.steps)
structure Profs (W : World) (oa : Option Addr) (l : List Fm.ProfD) : Prop where
  ex : ∃ rows : List (List Value), rows.length = l.length ∧ Sl W oa 2 rows ∧ ∀ (k : Nat) (r : List Value) (x : Fm.ProfD), rows[k]? = some r → l[k]? = some x → ProfAt W r x
def TrajAt (W : World) (v : Value) (t : Fm.TrajD) : Prop := ∃ op np oe ne f nf, v = .agg #[.slice op t.path.pts.length np, .slice oe t.path.edges.length ne, .int .i64 t.grav.1, .int .i64 t.grav.2.1, .int .i64 t.grav.2.2, .int .i64 t.grid, .slice f t.profs.length nf] ∧ Pts W op t.path.pts ∧ Edges W oe t.path.edges ∧ Profs W f t.profs
theorem ProfAt.keep {W W' : World} {r : List Value} {u : Fm.ProfD} (h : ProfAt W r u) (hb : Below W.heap.size W W') : ProfAt W' r u := by
  obtain ⟨ol, nl, os, ns, e, h1, h2⟩ := h
  exact ⟨ol, nl, os, ns, e, h1.keep hb, h2.keep hb⟩
theorem Profs.keep {W W' : World} {oa : Option Addr} {l : List Fm.ProfD} (h : Profs W oa l) (hb : Below W.heap.size W W') : Profs W' oa l := by
  obtain ⟨rows, h1, h2, h3⟩ := h.ex
  exact ⟨rows, h1, h2.keep hb, fun k r u hr hu => (h3 k r u hr hu).keep hb⟩
theorem TrajAt.keep {W W' : World} {v : Value} {t : Fm.TrajD} (h : TrajAt W v t) (hb : Below W.heap.size W W') : TrajAt W' v t := by
  obtain ⟨op, np, oe, ne, f, nf, e, h1, h2, h3⟩ := h
  exact ⟨op, np, oe, ne, f, nf, e, h1.keep hb, h2.keep hb, h3.keep hb⟩
theorem Profs.get {W : World} {oa : Option Addr} {l : List Fm.ProfD} (h : Profs W oa l) {k : Nat} {u : Fm.ProfD} (hk : l[k]? = some u) :
    ∃ b off ol nl os ns, oa = some ⟨b, off, none⟩ ∧ b < W.heap.size ∧ W.cell? ⟨b, off + k * 2, none⟩ = some (.slice ol u.levels.length nl) ∧ W.cell? ⟨b, off + k * 2 + 1, none⟩ = some (.slice os u.steps.length ns) ∧ Sl W ol 1 (pvals u.levels) ∧ Sl W os 1 (pvals u.steps) := by
  obtain ⟨rows, h1, h2, h3⟩ := h.ex
  have hlt := (List.getElem?_eq_some_iff.1 hk).1
  obtain ⟨r, hr⟩ : ∃ r, rows[k]? = some r := ⟨_, List.getElem?_eq_getElem (by rw [h1]; exact hlt)⟩
  obtain ⟨ol, nl, os, ns, rfl, hs, hu⟩ := h3 k r u hr hk
  obtain ⟨b, off, e, ha⟩ := h2 (by rintro rfl; simp at hr)
  exact ⟨b, off, ol, nl, os, ns, e, ha.lt, ha.c k _ hr 0 _ rfl, ha.c k _ hr 1 _ rfl, hs, hu⟩
/-- Numbers within a box. -/
theorem Ns.box {W : World} {base b n : Nat} {cs : List Value} {ty : TypeId} (h : Bx W n cs ty) (ht : ty ≠ 5) (hne : n ≠ b) (off : Nat) (ns : List Int) (hc : ∀ i x, ns[i]? = some x → cs[off + i]? = some (.int .i64 x)) : Ns W base b (some ⟨n, off, none⟩) ns := by
  intro _
  refine ⟨n, off, rfl, ⟨h.lt, fun i r hi k v hv => ?_⟩, .inr ⟨hne, _, _, _, h.h, ht⟩⟩
  have hi' : ns[i]?.map (fun p => [Value.int .i64 p]) = some r := by simpa [pvals] using hi
  rw [Option.map_eq_some_iff] at hi'
  obtain ⟨x, hx, rfl⟩ := hi'
  have hk0 : k = 0 := by
    rcases Nat.eq_zero_or_pos k with h | h
    · exact h
    · rw [List.getElem?_eq_none (by simp; omega)] at hv; cases hv
  subst hk0
  simp at hv
  subst hv
  have := h.c (off + i) _ (hc i x hx)
  simpa using this
theorem profT_eq (x : Fm.ProfD) : Fm.profT x = Fm.lineT Fm.kwProfile [(x.levels.length : Nat), (x.steps.length : Nat)] ++ Fm.lineT Fm.kwLevels x.levels ++ Fm.lineT Fm.kwSteps x.steps := rfl
theorem trajT_eq (t : Fm.TrajD) : Fm.trajT t = Fm.kwTraj ++ numsT [t.grid] ++ numsT (Fm.vecL t.grav) ++ [10] ++ Fm.pathT t.path ++ flT Fm.profT t.profs := by
  unfold Fm.trajT
  rw [lineT_eq, show t.grid :: Fm.vecL t.grav = [t.grid] ++ Fm.vecL t.grav from rfl, numsT_app]
  simp only [List.append_assoc]
  rfl
theorem profT_pos (x : Fm.ProfD) : 1 ≤ (Fm.profT x).length := by
  rw [profT_eq, List.length_append, List.length_append]
  have := lineT_pos Fm.kwProfile [(x.levels.length : Nat), (x.steps.length : Nat)]
  omega
set_option maxRecDepth 100000 in
set_option maxHeartbeats 8000000 in
theorem trajectory49 (w0 w : World) (b : Nat) (t : List UInt8) (pv : Value) (p : Fm.TrajD) (hb0 : Below w0.heap.size w0 w) (hP : TrajAt w0 pv p) (h : ∃ v, WrS w w0.heap.size b t v) (hr : Fm.TrajOk p) (hl : t.length + (Fm.trajT p).length ≤ 1048576) (htab : TabW w0.heap.size w0) :
    Calls Tryz.prog 49 #[.pointer (some ⟨b, 0, none⟩), pv] w (WrP w0.heap.size b (t ++ Fm.trajT p) w) := by
  obtain ⟨op, np, oe, ne, f, nf, rfl, hPt, hEd, hPr⟩ := hP
  have hp3 : p.profs.length ≤ 1048576 := by
    have := flT_ge profT_pos p.profs
    rw [trajT_eq] at hl
    simp only [List.length_append] at hl
    omega
  have hb1 : Below w.heap.size w (w.alloc (.cells #[.slice op p.path.pts.length np, .slice oe p.path.edges.length ne, .int .i64 p.grav.1, .int .i64 p.grav.2.1, .int .i64 p.grav.2.2, .int .i64 p.grid, .slice f p.profs.length nf] 41)) := (Below.refl _ _).alloc (Nat.le_refl _) _
  have hbx := Bx.new w [.slice op p.path.pts.length np, .slice oe p.path.edges.length ne, .int .i64 p.grav.1, .int .i64 p.grav.2.1, .int .i64 p.grav.2.2, .int .i64 p.grid, .slice f p.profs.length nf] 41
  obtain ⟨v, hW⟩ := h
  have hF1 := Fr.of (b := b) hW.sz hb1
  have hne : w.heap.size ≠ b := by have := hW.lt; omega
  have HW := Lib.hid (hW.keep hb1)
  have HFA := Lib.hid hF1
  have HB := Lib.hid (hb0.trans hF1.bel)
  have HP : Hid (PathAt w0 (.agg #[.slice op p.path.pts.length np, .slice oe p.path.edges.length ne]) p.path) := Lib.hid ⟨op, np, oe, ne, rfl, hPt, hEd⟩
  have HE := Lib.hid hPr
  have HR := Lib.hid hr
  have HL := Lib.hid hl
  have HT := Lib.hid htab
  have HX := Lib.hid hbx
  clear hb0 hPt hEd hPr hr hl htab hbx hb1 hF1 hW
  go_enter Tryz.func49, Tryz.ntmps49
  go_upto_region 1 with fail
  generalize w.alloc (.cells #[.slice op p.path.pts.length np, .slice oe p.path.edges.length ne, .int .i64 p.grav.1, .int .i64 p.grav.2.1, .int .i64 p.grav.2.2, .int .i64 p.grid, .slice f p.profs.length nf] 41) = w1 at HW HFA HB HX ⊢
  generalize w.heap.size = n at HX hne ⊢
  rw [trajT_eq] at HL
  simp only [List.length_append, List.length_cons, List.length_nil] at HL
  have HHD : Hid (∀ m ∈ p.grid :: Fm.vecL p.grav, Fm.inR64 m) := Lib.hid HR.out.head
  have HC := Lib.hid (open60 w1 w0.heap.size b t v ⟨#[116, 114, 97, 106, 101, 99, 116, 111, 114, 121]⟩ HW.out (by have h1 := HL.out; simp only [Fm.kwTraj, List.length_cons, List.length_nil] at h1; show t.length + 10 ≤ 1048576; omega))
  go_wp2_with fail
  refine HC.out.mono ?_
  clear HC HW
  rintro e w2 ⟨rfl, v2, hW2, hF2⟩
  have HW2 : Hid (WrS w2 w0.heap.size b (t ++ Fm.kwTraj) v2) := Lib.hid hW2
  have HF2 := Lib.hid hF2
  clear hW2 hF2
  have hx2 := HX.out.fr HF2.out hne (by decide)
  have c5 := hx2.c 5 _ rfl
  have cl := hx2.lt
  clear hx2
  have h2b : Below w2.heap.size w2 (w2.alloc (.cells #[.int .i64 p.grid] 3)) := (Below.refl _ _).alloc (Nat.le_refl _) _
  have h2F := Fr.of (b := b) HW2.out.sz h2b
  have HC := Lib.hid (add61 _ w0.heap.size b _ v2 _ 1 [p.grid] (HW2.out.keep h2b) (Ns.new w2 w0.heap.size b [p.grid] 3 (by decide) HW2.out.lt) (by intro m hm; rw [List.mem_singleton] at hm; subst hm; exact HHD.out _ (by simp)) (by have h1 := HL.out; simp only [List.length_append]; omega) (HT.out.on (HB.out.trans (HF2.out.trans h2F).bel)))
  have HF3 := Lib.hid (HF2.out.trans h2F)
  clear h2b h2F HW2 HF2
  go_wp2_with fail
  refine HC.out.mono ?_
  clear HC c5 cl
  rintro e w3 ⟨rfl, v3, hW3, hF3⟩
  have HW3 : Hid (WrS w3 w0.heap.size b (t ++ Fm.kwTraj ++ numsT [p.grid]) v3) := Lib.hid hW3
  have HF4 := Lib.hid (HF3.out.trans hF3)
  clear hW3 hF3 HF3
  have hx3 := HX.out.fr HF4.out hne (by decide)
  have cl := hx3.lt
  have HC := Lib.hid (add62 w3 w0.heap.size b _ v3 (some ⟨n, 2, none⟩) 3 (Fm.vecL p.grav) HW3.out (Ns.box hx3 (by decide) hne 2 (Fm.vecL p.grav) (by
    intro i x hx
    match i, hx with
    | 0, hx => simp only [Fm.vecL, List.getElem?_cons_zero] at hx; injection hx with hx; subst hx; rfl
    | 1, hx => simp only [Fm.vecL, List.getElem?_cons_zero, List.getElem?_cons_succ] at hx; injection hx with hx; subst hx; rfl
    | 2, hx => simp only [Fm.vecL, List.getElem?_cons_zero, List.getElem?_cons_succ] at hx; injection hx with hx; subst hx; rfl
    | i + 3, hx => simp [Fm.vecL] at hx)) (fun m hm => HHD.out m (by simp [hm])) (by have h1 := HL.out; simp only [List.length_append]; omega) (HT.out.on (HB.out.trans HF4.out.bel)))
  clear hx3 HW3
  go_wp2_with fail
  refine HC.out.mono ?_
  clear HC cl
  rintro e w4 ⟨rfl, v4, hW4, hF4⟩
  have HW4 := Lib.hid hW4
  have HF5 := Lib.hid (HF4.out.trans hF4)
  clear hW4 hF4 HF4
  have HC := Lib.hid (end63 w4 w0.heap.size b _ v4 HW4.out (by have h1 := HL.out; simp only [List.length_append]; omega))
  clear HW4
  go_wp2_with fail
  refine HC.out.mono ?_
  clear HC
  rintro e w5 ⟨rfl, v5, hW5, hF5⟩
  have HW5 := Lib.hid hW5
  have HF6 := Lib.hid (HF5.out.trans hF5)
  clear hW5 hF5 HF5
  have hx5 := HX.out.fr HF6.out hne (by decide)
  have c0 := hx5.c 0 _ rfl
  have c1 := hx5.c 1 _ rfl
  have cl := hx5.lt
  clear hx5
  have HC := Lib.hid (path35 w0 w5 b _ _ p.path (HB.out.trans HF6.out.bel) HP.out ⟨_, HW5.out⟩ HR.out.path (by have h1 := HL.out; simp only [List.length_append, List.length_cons, List.length_nil]; omega) HT.out)
  clear HW5
  go_wp2_with fail
  refine HC.out.mono ?_
  clear HC c0 c1 cl
  rintro e w6 ⟨rfl, v6, hW6, hF6⟩
  have HW6 := Lib.hid hW6
  have HF7 := Lib.hid (HF6.out.trans hF6)
  clear hW6 hF6 HF6
  have hx6 := HX.out.fr HF7.out hne (by decide)
  have c6 := hx6.c 6 _ rfl
  have cl := hx6.lt
  clear hx6
  have HL1 : Hid ((t ++ Fm.kwTraj ++ numsT [p.grid] ++ numsT (Fm.vecL p.grav) ++ [10] ++ Fm.pathT p.path).length + (flT Fm.profT p.profs).length ≤ 1048576) := Lib.hid (by have h1 := HL.out; simp only [List.length_append, List.length_cons, List.length_nil]; omega)
  have HTT : Hid (t ++ Fm.trajT p = (t ++ Fm.kwTraj ++ numsT [p.grid] ++ numsT (Fm.vecL p.grav) ++ [10] ++ Fm.pathT p.path) ++ flT Fm.profT p.profs) := Lib.hid (by rw [trajT_eq]; simp only [List.append_assoc])
  generalize t ++ Fm.kwTraj ++ numsT [p.grid] ++ numsT (Fm.vecL p.grav) ++ [10] ++ Fm.pathT p.path = t1 at HW6 HL1 HTT
  go_wp2_with fail
  clear c6 cl
  go_loopw [26] (fun i W => ∃ k : Nat, k ≤ p.profs.length ∧ i = .int .i64 (k : Nat) ∧ (∃ v, WrS W w0.heap.size b (t1 ++ flT Fm.profT (p.profs.take k)) v) ∧ Fr w0.heap.size b w1 W) (fun i _ => p.profs.length - (intOf i).toNat)
  case atStart => exact ⟨0, Nat.zero_le _, rfl, ⟨_, by rw [List.take_zero, show flT Fm.profT [] = [] from rfl, List.append_nil]; exact HW6.out⟩, HF7.out⟩
  case round =>
    obtain ⟨k, hk, rfl, ⟨v1, hW⟩, hF⟩ := hrel
    clear HW6 HF7
    by_cases hlt : k < p.profs.length
    · obtain ⟨x, hx⟩ : ∃ x, p.profs[k]? = some x := ⟨_, List.getElem?_eq_getElem hlt⟩
      obtain ⟨hx1, hx2, hx3, hx4⟩ := HR.out.prof x (List.mem_of_getElem? hx)
      have hbw := HB.out.trans hF.bel
      obtain ⟨g, off, ol, nl, os, ns, hon, glt', x0', x1', hsl, hss⟩ := HE.out.get hx
      subst hon
      have x0 : wr.cell? ⟨g, off + k * 2, none⟩ = some (.slice ol x.levels.length nl) := (hbw.cell (p := ⟨g, off + k * 2, none⟩) glt').trans x0'
      have x1 : wr.cell? ⟨g, off + k * 2 + 1, none⟩ = some (.slice os x.steps.length ns) := (hbw.cell (p := ⟨g, off + k * 2 + 1, none⟩) glt').trans x1'
      have glt : g < wr.heap.size := Nat.lt_of_lt_of_le glt' hbw.size
      have hlen : (t1 ++ flT Fm.profT (p.profs.take k)).length + (Fm.profT x).length ≤ 1048576 := by
        have h1 := HL1.out
        have h2 := flT_le Fm.profT p.profs (k + 1)
        rw [flT_take hx] at h2
        simp only [List.length_append] at h1 h2 ⊢
        omega
      have HT3 := Lib.hid (flT_take (f := Fm.profT) hx)
      generalize ht3 : t1 ++ flT Fm.profT (p.profs.take k) = t3 at hW hlen
      have HT4 : Hid (t1 ++ flT Fm.profT (p.profs.take (k + 1)) = t3 ++ Fm.profT x) := Lib.hid (by rw [HT3.out, ← ht3, List.append_assoc])
      clear ht3 HT3
      rw [profT_eq, List.length_append, List.length_append] at hlen
      have hb3 : Below wr.heap.size wr (wr.alloc (.cells #[.slice ol x.levels.length nl, .slice os x.steps.length ns] 44)) := (Below.refl _ _).alloc (Nat.le_refl _) _
      have hbx := Bx.new wr [.slice ol x.levels.length nl, .slice os x.steps.length ns] 44
      have hf3 := Fr.of (b := b) hW.sz hb3
      have hne3 : wr.heap.size ≠ b := by have := hW.lt; omega
      have HW3 := Lib.hid (hW.keep hb3)
      have HF3 := Lib.hid (hF.trans hf3)
      have HB3 := Lib.hid (hbw.trans hf3.bel)
      have HX3 := Lib.hid hbx
      have HSL := Lib.hid hsl
      have HSS := Lib.hid hss
      have HL3 := Lib.hid hlen
      have HX34 := Lib.hid (And.intro hx3 hx4)
      clear hlen hW hF hx hbw hsl hss x0' x1' glt' hb3 hbx hf3 hx3 hx4
      have c30 := HX3.out.c 0 _ rfl
      have c31 := HX3.out.c 1 _ rfl
      have cl3 := HX3.out.lt
      go_upto_region 9 with fail
      have hsz3 : (wr.alloc (.cells #[.slice ol x.levels.length nl, .slice os x.steps.length ns] 44)).heap.size = wr.heap.size + 1 := by simp
      generalize wr.alloc (.cells #[.slice ol x.levels.length nl, .slice os x.steps.length ns] 44) = w3 at HW3 HF3 HB3 HX3 hsz3 c30 c31 cl3 ⊢
      clear x0 x1 glt
      generalize wr.heap.size = n3 at HX3 hsz3 hne3 c30 c31 cl3 ⊢
      have h2b : Below w3.heap.size w3 (w3.alloc (.cells #[.int .i64 (x.levels.length : Nat), .int .i64 (x.steps.length : Nat)] 3)) := (Below.refl _ _).alloc (Nat.le_refl _) _
      have h2N := Ns.new w3 w0.heap.size b [((x.levels.length : Nat) : Int), ((x.steps.length : Nat) : Int)] 3 (by decide) HW3.out.lt
      have h2F := Fr.of (b := b) HW3.out.sz h2b
      have HF4 := Lib.hid h2F
      have HC := Lib.hid (line56 _ w0.heap.size b t3 ⟨#[112, 114, 111, 102, 105, 108, 101]⟩ _ 2 [((x.levels.length : Nat) : Int), ((x.steps.length : Nat) : Int)] ⟨_, HW3.out.keep h2b⟩ h2N (line_nn _ _ hx1 hx2) (by have h1 := HL3.out; show t3.length + (Fm.lineT [112, 114, 111, 102, 105, 108, 101] [((x.levels.length : Nat) : Int), ((x.steps.length : Nat) : Int)]).length ≤ 1048576; simp only [Fm.kwProfile] at h1; omega) (HT.out.on (HB3.out.trans h2F.bel)))
      clear h2b h2N h2F hsz3
      go_wp2_with fail
      refine HC.out.mono ?_
      clear HC HW3 c30 c31 cl3
      rintro e W4 ⟨rfl, v4, hW4, hF4⟩
      have HW4 : Hid (WrS W4 w0.heap.size b (t3 ++ Fm.lineT Fm.kwProfile [((x.levels.length : Nat) : Int), ((x.steps.length : Nat) : Int)]) v4) := Lib.hid hW4
      have HF5 := Lib.hid (HF4.out.trans hF4)
      clear hW4 hF4 HF4
      have hx3 := HX3.out.fr HF5.out hne3 (by decide)
      have c30 := hx3.c 0 _ rfl
      have cl3 := hx3.lt
      clear hx3
      have HC := Lib.hid (line57 W4 w0.heap.size b _ ⟨#[108, 101, 118, 101, 108, 115]⟩ ol nl x.levels ⟨_, HW4.out⟩ (Ns.old HSL.out (HB3.out.trans HF5.out.bel) b) HX34.out.1 (by have h1 := HL3.out; rw [List.length_append]; show _ + _ + (Fm.lineT [108, 101, 118, 101, 108, 115] x.levels).length ≤ 1048576; simp only [Fm.kwLevels] at h1; omega) (HT.out.on (HB3.out.trans HF5.out.bel)))
      go_wp2_with fail
      refine HC.out.mono ?_
      clear HC HW4 c30 cl3
      rintro e W5 ⟨rfl, v5, hW5, hF5⟩
      have HW5 : Hid (WrS W5 w0.heap.size b (t3 ++ Fm.lineT Fm.kwProfile [((x.levels.length : Nat) : Int), ((x.steps.length : Nat) : Int)] ++ Fm.lineT Fm.kwLevels x.levels) v5) := Lib.hid hW5
      have HF6 := Lib.hid (HF5.out.trans hF5)
      clear hW5 hF5 HF5
      have hx3 := HX3.out.fr HF6.out hne3 (by decide)
      have c31 := hx3.c 1 _ rfl
      have cl3 := hx3.lt
      clear hx3
      have HC := Lib.hid (line56 W5 w0.heap.size b _ ⟨#[115, 116, 101, 112, 115]⟩ os ns x.steps ⟨_, HW5.out⟩ (Ns.old HSS.out (HB3.out.trans HF6.out.bel) b) HX34.out.2 (by have h1 := HL3.out; rw [List.length_append, List.length_append]; show _ + _ + _ + (Fm.lineT [115, 116, 101, 112, 115] x.steps).length ≤ 1048576; simp only [Fm.kwSteps] at h1; omega) (HT.out.on (HB3.out.trans HF6.out.bel)))
      go_wp2_with fail
      refine HC.out.mono ?_
      clear HC HW5 c31 cl3
      rintro e W6 ⟨rfl, v6, hW6, hF6⟩
      have HW6 : Hid (WrS W6 w0.heap.size b (t1 ++ flT Fm.profT (p.profs.take (k + 1))) v6) := Lib.hid (by
        rw [HT4.out, profT_eq, ← List.append_assoc, ← List.append_assoc]; exact hW6)
      have HF7 := Lib.hid (HF3.out.trans (HF6.out.trans hF6))
      clear hW6 hF6 HF6
      go_wp2_with fail
      go_roundw
      case rel => exact ⟨k + 1, by omega, by simp, ⟨_, HW6.out⟩, HF7.out⟩
      case measure => simp [intOf]; omega
    · have hke : k = p.profs.length := by omega
      subst hke
      rw [List.take_length] at hW
      have HW : Hid (WrS wr w0.heap.size b (t ++ Fm.trajT p) v1) := Lib.hid (by rw [HTT.out]; exact hW)
      have HF := Lib.hid (HFA.out.trans hF)
      clear hW hF
      go_wp2
      refine bodyPost_end (v := .tuple #[]) (by simp [results, Tryz.results49, go_sem]) rfl ?_
      exact ⟨rfl, _, HW.out, HF.out⟩
end Go.Proofs.Ng
end

section
/-
  Walks: FormatTrajectory.
-/
namespace Go.Proofs.Ng
open Go.RowKit

theorem formatTr_yes {t : Fm.TrajD} (h : Fm.rightP t.path = true) (he : t.profs.length = t.path.edges.length) (hl : (Fm.docTr t).length ≤ 1048576) : Fm.formatTr t = some (Fm.docTr t) := by
  unfold Fm.formatTr; rw [if_pos ⟨by unfold Fm.rightT; rw [h, decide_eq_true he]; rfl, hl⟩]
theorem formatTr_no {t : Fm.TrajD} (h : Fm.rightP t.path = false) : Fm.formatTr t = none := by
  unfold Fm.formatTr; rw [if_neg (fun e => by have := e.1; unfold Fm.rightT at this; rw [h] at this; cases this)]
theorem formatTr_no2 {t : Fm.TrajD} (h : t.profs.length ≠ t.path.edges.length) : Fm.formatTr t = none := by
  unfold Fm.formatTr; rw [if_neg (fun e => by have := e.1; unfold Fm.rightT at this; rw [Bool.and_eq_true, decide_eq_true_eq] at this; exact h this.2)]
/-- The cells of a trajectory. -/
def trC (t : Fm.TrajD) (op oe f : Option Addr) (np ne nf : Nat) : List Value := [.slice op t.path.pts.length np, .slice oe t.path.edges.length ne, .int .i64 t.grav.1, .int .i64 t.grav.2.1, .int .i64 t.grav.2.2, .int .i64 t.grid, .slice f t.profs.length nf]
theorem TrajAt.path {W : World} {v : Value} {t : Fm.TrajD} (h : TrajAt W v t) : ∃ op np oe ne f nf, v = .agg (trC t op oe f np ne nf).toArray ∧ PathAt W (.agg #[.slice op t.path.pts.length np, .slice oe t.path.edges.length ne]) t.path ∧ Profs W f t.profs := by
  obtain ⟨op, np, oe, ne, f, nf, e, h1, h2, h3⟩ := h
  exact ⟨op, np, oe, ne, f, nf, e, ⟨op, np, oe, ne, rfl, h1, h2⟩, h3⟩
theorem traj_sizes {t : Fm.TrajD} (hr : Fm.TrajOk t) (hl : (Fm.docTr t).length ≤ 1048576) : t.path.pts.length ≤ 1000000000 ∧ t.path.edges.length ≤ 1000000000 ∧ t.profs.length ≤ 1048576 ∧ (Fm.trajT t).length ≤ 1048576 := by
  have hlt : (Fm.trajT t).length ≤ 1048576 := by unfold Fm.docTr at hl; rw [List.length_append] at hl; omega
  have h0 := hlt
  rw [trajT_eq] at hlt
  simp only [List.length_append] at hlt
  have h1 := flT_ge profT_pos t.profs
  have h2 := flT_ge edgeT_pos t.path.edges
  rw [pathT_eq] at hlt
  simp only [List.length_append] at hlt
  have := hr.path.np
  omega
set_option maxRecDepth 100000 in
set_option maxHeartbeats 4000000 in
theorem formatTraj30 (w : World) (pv : Value) (p : Fm.TrajD) (hP : TrajAt w pv p) (hr : Fm.TrajOk p) (hl : (Fm.docTr p).length ≤ 1048576) (htab : TabW w.heap.size w) :
    Calls Tryz.prog 30 #[pv] w (fun e W' => e = .returned (fmtV (Fm.formatTr p)) ∧ Below w.heap.size w W') := by
  obtain ⟨hm1, hm2, hm3, hlt⟩ := traj_sizes hr hl
  have hP0 := hP
  obtain ⟨op, np, oe, ne, f, nf, rfl, hPt, hEd, -⟩ := hP
  have hb1 : Below w.heap.size w (w.alloc (.cells #[.slice op p.path.pts.length np, .slice oe p.path.edges.length ne, .int .i64 p.grav.1, .int .i64 p.grav.2.1, .int .i64 p.grav.2.2, .int .i64 p.grid, .slice f p.profs.length nf] 41)) := (Below.refl _ _).alloc (Nat.le_refl _) _
  have hbx := Bx.new w [.slice op p.path.pts.length np, .slice oe p.path.edges.length ne, .int .i64 p.grav.1, .int .i64 p.grav.2.1, .int .i64 p.grav.2.2, .int .i64 p.grid, .slice f p.profs.length nf] 41
  have hPP : PathAt w (.agg #[.slice op p.path.pts.length np, .slice oe p.path.edges.length ne]) p.path := ⟨op, np, oe, ne, rfl, hPt, hEd⟩
  have H34 := Lib.hid (rightForm34 _ _ p.path (hPP.keep hb1) hm1 hm2)
  have HP := Lib.hid hP0
  have HX := Lib.hid hbx
  have HB := Lib.hid hb1
  have HT := Lib.hid htab
  have HR := Lib.hid hr
  clear hP0 hb1 hbx htab hr hPP hPt hEd
  go_enter Tryz.func30, Tryz.ntmps30
  go_upto_region 1 with fail
  generalize w.alloc (.cells #[.slice op p.path.pts.length np, .slice oe p.path.edges.length ne, .int .i64 p.grav.1, .int .i64 p.grav.2.1, .int .i64 p.grav.2.2, .int .i64 p.grid, .slice f p.profs.length nf] 41) = wx at HX HB H34 ⊢
  obtain ⟨n, hn⟩ : ∃ n, n = w.heap.size := ⟨_, rfl⟩
  have HN := Lib.hid hn
  rw [← hn] at HX ⊢
  clear hn
  have c0 := HX.out.c 0 _ rfl
  have c1 := HX.out.c 1 _ rfl
  have clt := HX.out.lt
  cases hf : Fm.rightP p.path with
  | false =>
    have HF := Lib.hid (formatTr_no hf)
    rw [hf] at H34
    clear hf
    go_wp2_with fail
    refine H34.out.mono ?_
    rintro e W1 ⟨rfl, hb2⟩
    have HB2 := Lib.hid (below_call HB.out hb2)
    clear hb2 H34
    go_wp2
    go_ret2
    exact ⟨by rw [HF.out]; rfl, HB2.out⟩
  | true =>
    rw [hf] at H34
    by_cases heq : p.profs.length = p.path.edges.length
    · have hF := formatTr_yes hf heq hl
      have HFF := Lib.hid hF
      have hd : ((p.profs.length : Int) != (p.path.edges.length : Int)) = false := by rw [heq]; simp
      clear hF hf heq
      go_wp2_with fail
      refine H34.out.mono ?_
      clear H34
      rintro e W1 ⟨rfl, hb2⟩
      have HX1 := Lib.hid (HX.out.keep hb2)
      have HB2 := Lib.hid (below_call HB.out hb2)
      clear hb2 HX HB c0 c1 clt
      have c0 := HX1.out.c 0 _ rfl
      have c1 := HX1.out.c 1 _ rfl
      have c2 := HX1.out.c 2 _ rfl
      have c3 := HX1.out.c 3 _ rfl
      have c4 := HX1.out.c 4 _ rfl
      have c5 := HX1.out.c 5 _ rfl
      have c6 := HX1.out.c 6 _ rfl
      have clt := HX1.out.lt
      have hb3 : Below W1.heap.size W1 (W1.alloc (.cells #[.slice none 0 0] 74)) := (Below.refl _ _).alloc (Nat.le_refl _) _
      have hW : WrS (W1.alloc (.cells #[.slice none 0 0] 74)) w.heap.size W1.heap.size [] (.slice none 0 0) := ⟨(Bx.new W1 [.slice none 0 0] 74).h, World.ownsRow_nil _ _ _ _, HB2.out.size⟩
      have hB3 := below_call HB2.out hb3
      have HB3 := Lib.hid hB3
      have H49 := Lib.hid (trajectory49 w _ W1.heap.size [] _ p hB3 HP.out ⟨_, hW⟩ HR.out (by rw [List.length_nil]; omega) HT.out)
      clear hb3 hW hB3
      go_wp2_with fail
      refine H49.out.mono ?_
      clear H49 c0 c1 c2 c3 c4 c5 c6 clt hd
      rintro e W2 ⟨rfl, v2, hW2, hF2⟩
      have HB4 := Lib.hid (HB3.out.trans hF2.bel)
      have H36 := Lib.hid (document36 W2 w.heap.size W1.heap.size _ ⟨_, hW2⟩ (by rw [List.nil_append]; exact hl) (HT.out.on HB4.out))
      clear hW2 hF2
      go_wp2_with fail
      refine H36.out.mono ?_
      clear H36
      rintro e W3 ⟨rfl, hb5⟩
      have HB5 := Lib.hid (HB4.out.trans hb5)
      clear hb5
      rw [List.nil_append]
      unfold fmtV
      go_wp2
      go_ret2
      exact ⟨by rw [HFF.out]; rfl, HB5.out⟩
    · have HF := Lib.hid (formatTr_no2 heq)
      have hd : ((p.profs.length : Int) != (p.path.edges.length : Int)) = true := by simp; omega
      clear hf heq
      go_wp2_with fail
      refine H34.out.mono ?_
      clear H34
      rintro e W1 ⟨rfl, hb2⟩
      have HX1 := Lib.hid (HX.out.keep hb2)
      have HB2 := Lib.hid (below_call HB.out hb2)
      clear hb2 HX HB c0 c1 clt
      have c1 := HX1.out.c 1 _ rfl
      have c6 := HX1.out.c 6 _ rfl
      have clt := HX1.out.lt
      go_wp2
      go_ret2
      exact ⟨by rw [HF.out]; rfl, HB2.out⟩
end Go.Proofs.Ng
end

