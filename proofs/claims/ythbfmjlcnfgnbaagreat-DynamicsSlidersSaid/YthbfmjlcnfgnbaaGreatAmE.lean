/-
  The operations that read, write or make memory.
-/
import Derived.Test.YthbfmjlcnfgnbaaGreatAmD
namespace Go.Am

def readCells (H loc : Hp) (a : Addr) (n : Nat) : Option (List Value) :=
  match a.spot with
  | none => match H[a.block]? with
    | some b => bif b.live && decide (a.off + n ≤ b.cells.length) then fSpine ((b.cells.drop a.off).take n) some else none
    | none => none
  | some 0 => match loc[a.block]? with
    | some b => bif b.live && decide (a.off + n ≤ b.cells.length) then fSpine ((b.cells.drop a.off).take n) some else none
    | none => none
  | some (_ + 1) => none

def cellOk (v : Value) : Bool := v.oneCell' && noLoc v

def writeCells (H loc : Hp) (a : Addr) (vs : List Value) : Option (Hp × Hp × List Nat × List Nat) :=
  match a.spot with
  | none => match H[a.block]? with
    | some b => bif b.live && decide (a.off + vs.length ≤ b.cells.length) && vs.all cellOk then fSpine (splice b.cells a.off vs) (fun cs => fSet H a.block { b with cells := cs } fun H' => some (H', loc, [a.block], [])) else none
    | none => none
  | some 0 => match loc[a.block]? with
    | some b => bif b.live && decide (a.off + vs.length ≤ b.cells.length) && vs.all (·.oneCell') then fSpine (splice b.cells a.off vs) (fun cs => fSet loc a.block { b with cells := cs } fun loc' => some (H, loc', [], [a.block])) else none
    | none => none
  | some (_ + 1) => none

section
variable {P : Program} {m : Mp} {H loc : Hp} {w : World}

theorem cell_of_block {w : World} {g : Nat} {cs : Array Value} {t : TypeId} {fr : Nat × Nat} (h : w.heap[g]? = some (.cells cs t fr)) (o : Nat) : w.cell? ⟨g, o, none⟩ = cs[o]? := cell_of_row w g o cs t fr h

theorem read_sound (hR : Rel m H loc w) {a a' : Addr} (har : AR m a a') {n : Nat} {vs : List Value} (h : readCells H loc a n = some vs) :
    ∃ vs', VRs m vs vs' ∧ vs.length = n ∧ ∀ j v, vs'[j]? = some v → w.cell? (a'.add j) = some v := by
  obtain ⟨b', o', s'⟩ := a'
  have hs := har.spot
  simp only at hs
  subst hs
  have hadd : ∀ j, (⟨b', o', none⟩ : Addr).add j = ⟨b', o' + j, none⟩ := fun j => addr_add_spot rfl j
  unfold readCells at h
  simp only [fSpine_eq] at h
  rcases har with ⟨h1, h2, h3, _⟩ | ⟨h1, h2, h3, _⟩
  · rw [h1] at h
    simp only at h h2 h3
    split at h
    · rename_i b hb
      cases hc : (b.live && decide (a.off + n ≤ b.cells.length)) with
      | false => rw [hc] at h; cases h
      | true =>
        rw [hc] at h
        simp only [cond_true, Option.some.injEq] at h
        subst h
        simp only [Bool.and_eq_true, decide_eq_true_eq] at hc
        obtain ⟨_, b0, hb0, hG⟩ := hR.glob _ _ h2
        rw [hb] at hb0; injection hb0 with hb0; subst hb0
        obtain ⟨cs, e1, e2, e3, _⟩ := hG.blk hc.1
        refine ⟨(((cs.toList.take b.cells.length)).drop a.off).take n, ((e3.mono (noL_le m)).drop _).take _, by simp; omega, fun j v hv => ?_⟩
        rw [hadd, cell_of_block e1]
        simp only [List.getElem?_take, List.getElem?_drop] at hv
        split at hv
        · split at hv
          · rw [h3]; simpa using hv
          · cases hv
        · cases hv
    · cases h
  · rw [h1] at h
    simp only at h h2 h3
    split at h
    · rename_i b hb
      cases hc : (b.live && decide (a.off + n ≤ b.cells.length)) with
      | false => rw [hc] at h; cases h
      | true =>
        rw [hc] at h
        simp only [cond_true, Option.some.injEq] at h
        subst h
        simp only [Bool.and_eq_true, decide_eq_true_eq] at hc
        obtain ⟨_, b0, hb0, hL⟩ := hR.locs _ _ h2
        rw [hb] at hb0; injection hb0 with hb0; subst hb0
        obtain ⟨cs, e1, e3⟩ := hL.blk hc.1
        refine ⟨((cs.toList).drop a.off).take n, (e3.drop _).take _, by simp; omega, fun j v hv => ?_⟩
        rw [hadd, cell_of_block e1]
        simp only [List.getElem?_take, List.getElem?_drop] at hv
        split at hv
        · rw [h3]; simpa using hv
        · cases hv
    · cases h

theorem vr_noLoc {v v' : Value} (hn : noLoc v = true) (h : VR m v v') : VR m.noL v v' := noLoc_vr (m := m) (m' := m.noL) rfl rfl rfl rfl 6 v v' hn h
theorem vrs_noLoc {vs vs' : List Value} (hn : vs.all noLoc = true) (h : VRs m vs vs') : VRs m.noL vs vs' :=
  ⟨h.1, fun i v v' a b => vr_noLoc (List.all_eq_true.1 hn v (List.mem_of_getElem? a)) (h.2 i v v' a b)⟩
theorem vrs_one {vs vs' : List Value} (hn : vs.all (·.oneCell') = true) (h : VRs m vs vs') : ∀ v ∈ vs', v.oneCell' = true := by
  intro v' hv'
  obtain ⟨i, hi⟩ := List.getElem?_of_mem hv'
  have hlt : i < vs.length := by
    have := (List.getElem?_eq_some_iff.1 hi).1
    have := h.1
    omega
  have := h.2 i vs[i] v' (List.getElem?_eq_getElem hlt) hi
  rw [vr_oneCell this]
  exact List.all_eq_true.1 hn _ (List.getElem_mem hlt)
theorem all_cellOk {vs : List Value} (h : vs.all cellOk = true) : vs.all (·.oneCell') = true ∧ vs.all noLoc = true := by
  simp only [List.all_eq_true, cellOk, Bool.and_eq_true] at h ⊢
  exact ⟨fun v hv => (h v hv).1, fun v hv => (h v hv).2⟩

theorem write_sound (hR : Rel m H loc w) {a a' : Addr} (har : AR m a a') {vs vs' : List Value} (hv : VRs m vs vs') {H' loc' : Hp} {wg wl : List Nat} (h : writeCells H loc a vs = some (H', loc', wg, wl)) :
    ∃ w', (storeCells a' vs').run P w = .ok () w' ∧ Ext m H loc w m H' loc' w' wg wl := by
  obtain ⟨b', o', s'⟩ := a'
  have hs := har.spot
  simp only at hs
  subst hs
  unfold writeCells at h
  simp only [fSpine_eq, fSet_eq] at h
  rcases har with ⟨h1, h2, h3, _⟩ | ⟨h1, h2, h3, _⟩
  · rw [h1] at h
    simp only at h h2 h3
    subst h3
    split at h
    · rename_i b hb
      cases hc : (b.live && decide (a.off + vs.length ≤ b.cells.length) && vs.all cellOk) with
      | false => rw [hc] at h; cases h
      | true =>
        rw [hc] at h
        simp only [cond_true, Option.some.injEq, Prod.mk.injEq] at h
        obtain ⟨rfl, rfl, rfl, rfl⟩ := h
        simp only [Bool.and_eq_true, decide_eq_true_eq] at hc
        obtain ⟨⟨hl, hle⟩, hok⟩ := hc
        obtain ⟨ho, hn⟩ := all_cellOk hok
        obtain ⟨_, b0, hb0, hG⟩ := hR.glob _ _ h2
        rw [hb] at hb0; injection hb0 with hb0; subst hb0
        obtain ⟨cs, e1, e2, e3, _⟩ := hG.blk hl
        refine ⟨_, run_storeCells_at (P := P) b' a.off b.elem vs' 0 cs w e1 (by have := hv.1; omega) (vrs_one ho hv), ?_⟩
        have := ext_writeG hR h2 hb hl e1 a.off hle (vrs_noLoc hn hv)
        simpa [splice] using this
    · cases h
  · rw [h1] at h
    simp only at h h2 h3
    subst h3
    split at h
    · rename_i b hb
      cases hc : (b.live && decide (a.off + vs.length ≤ b.cells.length) && vs.all (·.oneCell')) with
      | false => rw [hc] at h; cases h
      | true =>
        rw [hc] at h
        simp only [cond_true, Option.some.injEq, Prod.mk.injEq] at h
        obtain ⟨rfl, rfl, rfl, rfl⟩ := h
        simp only [Bool.and_eq_true, decide_eq_true_eq] at hc
        obtain ⟨⟨hl, hle⟩, ho⟩ := hc
        obtain ⟨_, b0, hb0, hL⟩ := hR.locs _ _ h2
        rw [hb] at hb0; injection hb0 with hb0; subst hb0
        obtain ⟨cs, e1, e3⟩ := hL.blk hl
        refine ⟨_, run_storeCells_at (P := P) b' a.off b.elem vs' 0 cs w e1 (by have := hv.1; have := e3.1; simp at this; omega) (vrs_one ho hv), ?_⟩
        have := ext_writeL hR h2 hb hl e1 a.off hv
        simpa [splice] using this
    · cases h

def evLoad (P : Program) (H loc : Hp) (t : TypeId) (x : Value) : Option Value :=
  match x with
  | .pointer (some a) =>
    match isAggT P t with
    | some true => match P.info? t with
      | some i => match readCells H loc a i.size with
        | some vs => some (.agg ⟨vs⟩)
        | none => none
      | none => none
    | some false => match readCells H loc a 1 with
      | some [v] => some v
      | _ => none
    | none => none
  | _ => none

theorem load_sound (hR : Rel m H loc w) {t : TypeId} {x x' v : Value} (hx : VR m x x') (h : evLoad P H loc t x = some v) :
    ∃ v', (Instr.loadAt t x').run P w = .ok v' w ∧ VR m v v' := by
  unfold evLoad at h
  split at h
  · rename_i a
    obtain ⟨a', rfl, har⟩ := vr_ptr hx
    split at h
    · rename_i hagg
      split at h
      · rename_i i hi
        split at h
        · rename_i vs hvs
          injection h with h; subst h
          obtain ⟨vs', hvr, hlen, hcell⟩ := read_sound hR har hvs
          refine ⟨.agg vs'.toArray, ?_, hvr.agg⟩
          have := run_loadCells_list (P := P) w a' vs' hcell
          have hl : vs'.length = i.size := by have := hvr.1; omega
          rw [hl] at this
          simp [Instr.loadAt, Instr.sureAddr, loadVar, run_isAgg hagg, run_sizeOf' hi, this]
        · cases h
      · cases h
    · rename_i hagg
      split at h
      · rename_i v0 hvs
        injection h with h; subst h
        obtain ⟨vs', hvr, hlen, hcell⟩ := read_sound hR har hvs
        obtain ⟨v', l', rfl, h1, h2⟩ := hvr.cons_inv
        have hc := hcell 0 v' rfl
        have e0 : a'.add 0 = a' := rfl
        rw [e0] at hc
        exact ⟨v', by simp [Instr.loadAt, Instr.sureAddr, loadVar, run_isAgg hagg, hc], h1⟩
      · cases h
    · cases h
  · cases h

def evStore (P : Program) (H loc : Hp) (t : TypeId) (x v : Value) : Option (Hp × Hp × List Nat × List Nat) :=
  match x with
  | .pointer (some a) => match P.info? t with
    | some i => bif v.cells.size == i.size then writeCells H loc a v.cells.toList else none
    | none => none
  | _ => none

theorem store_sound (hR : Rel m H loc w) {t : TypeId} {x x' v v' : Value} (hx : VR m x x') (hv : VR m v v') {H' loc' : Hp} {wg wl : List Nat} (h : evStore P H loc t x v = some (H', loc', wg, wl)) :
    ∃ w', (Instr.storeAt t x' v').run P w = .ok () w' ∧ Ext m H loc w m H' loc' w' wg wl := by
  unfold evStore at h
  split at h
  · rename_i a
    obtain ⟨a', rfl, har⟩ := vr_ptr hx
    split at h
    · rename_i i hi
      cases hc : (v.cells.size == i.size) with
      | false => rw [hc] at h; cases h
      | true =>
        rw [hc] at h
        simp only [cond_true] at h
        have hcells := vr_cells hv
        obtain ⟨w', hrun, hext⟩ := write_sound (P := P) hR har hcells h
        refine ⟨w', ?_, hext⟩
        have hsz : v'.cells.size = i.size := by
          have h1 : v.cells.size = i.size := by simpa using hc
          have := hcells.1
          simp at this
          omega
        simp [Instr.storeAt, Instr.sureAddr, storeVar, run_sizeOf' hi, hsz, hrun]
    · cases h
  · cases h

/-- The cells of n zeros, as make and a literal lay them. -/
def zcells (z : Value) (n : Nat) : List Value := (List.range n).map fun i => z.cells[i % z.cells.size]!

theorem vr_cells_plain {z : Value} (h : plainV z = true) {m : Mp} : ∀ v ∈ z.cells.toList, VR m v v := by
  intro v hv
  obtain ⟨i, hi⟩ := List.getElem?_of_mem hv
  exact (vr_cells (plain_vr m 4 z h)).2 i v v hi hi

theorem zcells_vr {z : Value} (h : plainV z = true) (hz : 0 < z.cells.size) (n : Nat) (m : Mp) : VRs m (zcells z n) (zcells z n) := by
  refine ⟨rfl, fun i v v' a b => ?_⟩
  rw [a] at b; injection b with b; subst b
  simp only [zcells, List.getElem?_map, Option.map_eq_some_iff] at a
  obtain ⟨j, _, rfl⟩ := a
  have hlt : j % z.cells.size < z.cells.size := Nat.mod_lt _ hz
  rw [getElem!_pos z.cells _ hlt]
  exact vr_cells_plain h _ (by simp)

end
end Go.Am
