/-
  New blocks, append, copy.
-/
import Derived.Test.YthbfmjlcnfgnbaaGreatAmE
namespace Go.Am

def ptrV (a : Addr) : Value := .pointer (some a)
def slcV (n c : Nat) (a : Addr) : Value := .slice (some a) n c

/-- What an operation that makes a block makes: the block, and the value that names it: none: a pointer; (n, c): a slice. -/
def evAlloc (P : Program) (op : Op) (ρ : Operand → Value) : Option (Blk × Option (Nat × Nat)) :=
  match op with
  | .alloc elem => match P.info? elem with
    | some i => match i.zero with
      | some z => bif plainV z then some (⟨z.cells.toList, elem, 0, false, true⟩, none) else none
      | none => none
    | none => none
  | .box elem x => some (⟨(ρ x).cells.toList, elem, 0, false, true⟩, none)
  | .buildSlice t len ps => match P.underlying t with
    | some (.slice elem) => match P.info? elem with
      | some i => match i.zero with
        | some z => bif plainV z && decide (0 < z.cells.size) && decide (len * i.size ≤ 16777216) then
            match Instr.fill (fun k => some (k * i.size, i.size)) ⟨zcells z (len * i.size)⟩ (ps.toList.map fun (k, x) => (k, ρ x)) with
            | some cells => some (⟨cells.toList, elem, 0, false, true⟩, some (len, len))
            | none => none
          else none
        | none => none
      | none => none
    | _ => none
  | .makeSlice t l c => match P.underlying t, ρ l, ρ c with
    | some (.slice elem), .int _ ln, .int _ cp => match P.info? elem with
      | some i => match i.zero with
        | some z => bif plainV z && decide (0 < z.cells.size) && decide (0 ≤ ln) && decide (ln ≤ cp) && decide (cp < 9223372036854775808) && decide ((i.bytes : Int) * cp ≤ 281474976710656) then
            some (⟨zcells z (cp.toNat * i.size), elem, 0, false, true⟩, some (ln.toNat, cp.toNat))
          else none
        | none => none
      | none => none
    | _, _, _ => none
  | _ => none

def nameV (k : Option (Nat × Nat)) (a : Addr) : Value :=
  match k with
  | none => .pointer (some a)
  | some (n, c) => .slice (some a) n c

theorem nameV_vr {m : Mp} {a a' : Addr} (h : AR m a a') (k : Option (Nat × Nat)) : VR m (nameV k a) (nameV k a') := by
  cases k with
  | none => exact h.vr
  | some p => exact SR.vr (.inl ⟨h, .inl rfl⟩)

section
variable {P : Program} {m : Mp} {H loc : Hp} {w : World}

/-- The concrete run: a block with related cells, named in the same way. -/
theorem alloc_run {o : Oper} {ρ ρ' : Operand → Value} (hρ : OpR m ρ ρ' o) {b : Blk} {k : Option (Nat × Nat)} (h : evAlloc P o.op ρ = some (b, k)) (w : World) :
    ∃ cs : Array Value, (execOp ρ' o).run P w = .ok (.value (nameV k ⟨w.heap.size, 0, none⟩)) (w.alloc (.cells cs b.elem)) ∧ VRs m b.cells cs.toList ∧ b.live = true ∧ b.loose = false := by
  obtain ⟨dst, op, type, pos, after, guard⟩ := o
  unfold OpR at hρ
  unfold evAlloc at h
  simp only at h hρ
  split at h
  · rename_i elem
    split at h
    · rename_i i hi
      split at h
      · rename_i z hz
        cases hp : plainV z with
        | false => rw [hp] at h; cases h
        | true =>
          rw [hp] at h
          simp only [cond_true, Option.some.injEq, Prod.mk.injEq] at h
          obtain ⟨rfl, rfl⟩ := h
          refine ⟨z.cells, ?_, vr_cells (plain_vr m 4 z hp), rfl, rfl⟩
          simp [execOp, Instr.alloc, zeroValue, run_typeInfo hi, hz, newVar, newRow, nameV]
      · cases h
    · cases h
  · rename_i elem x
    simp only [Option.some.injEq, Prod.mk.injEq] at h
    obtain ⟨rfl, rfl⟩ := h
    refine ⟨(ρ' x).cells, ?_, vr_cells (hρ x (by simp [Op.operands])), rfl, rfl⟩
    simp [execOp, Instr.box, newVar, newRow, nameV]
  · rename_i t len ps
    split at h
    · rename_i elem hu
      split at h
      · rename_i i hi
        split at h
        · rename_i z hz
          cases hc : (plainV z && decide (0 < z.cells.size) && decide (len * i.size ≤ 16777216)) with
          | false => rw [hc] at h; cases h
          | true =>
            rw [hc] at h
            simp only [cond_true] at h
            simp only [Bool.and_eq_true, decide_eq_true_eq] at hc
            obtain ⟨⟨hp, hz0⟩, hbig⟩ := hc
            split at h
            · rename_i cells hf
              simp only [Option.some.injEq, Prod.mk.injEq] at h
              obtain ⟨rfl, rfl⟩ := h
              have hparts : PartsR m (ps.toList.map fun p => (p.1, ρ p.2)) (ps.toList.map fun p => (p.1, ρ' p.2)) := parts_of fun p hp => hρ p.2 (by simp [Op.operands]; exact ⟨p.1, by simpa using hp⟩)
              obtain ⟨r', hr', hrr⟩ := fill_sound _ _ _ ⟨zcells z (len * i.size)⟩ _ hparts (zcells_vr hp hz0 _ m) hf
              refine ⟨r', ?_, hrr, rfl, rfl⟩
              have e : (ps.map fun (i, x) => (i, ρ' x)).toList = (ps.toList.map fun p => (p.1, ρ' p.2)) := by simp
              have hng : ¬ (len * i.size > 2 ^ 24) := by omega
              by_cases h0 : len * i.size = 0
              · have e3 : (Array.range (len * i.size)).map ((#[] : Array Value)[· % (#[] : Array Value).size]!) = ⟨zcells z (len * i.size)⟩ := by simp [h0, zcells]
                simp only [execOp, Instr.buildSlice, Sem.run_bind, run_underlying hu, Result.andThen_ok, run_sizeOf' hi, Sem.run_ite, hng, if_false, Sem.run_pure, if_pos h0, e3, e, hr', newRow, run_newObj_alloc, nameV]
              · have e3 : (Array.range (len * i.size)).map (z.cells[· % z.cells.size]!) = ⟨zcells z (len * i.size)⟩ := by
                  apply Array.ext'
                  simp [zcells]
                have e4 : (zeroValue elem).run P w = .ok z w := by simp [zeroValue, run_typeInfo hi, hz]
                simp only [execOp, Instr.buildSlice, Sem.run_bind, run_underlying hu, Result.andThen_ok, run_sizeOf' hi, Sem.run_ite, hng, if_false, Sem.run_pure, if_neg h0, e4, e3, e, hr', newRow, run_newObj_alloc, nameV]
            · cases h
        · cases h
      · cases h
    · cases h
  · rename_i t l c
    have hl := hρ l (by simp [Op.operands])
    have hcc := hρ c (by simp [Op.operands])
    split at h
    · rename_i elem k1 ln k2 cp hu e1 e2
      rw [e1] at hl
      rw [e2] at hcc
      have hl' := vr_int hl
      have hc' := vr_int hcc
      split at h
      · rename_i i hi
        split at h
        · rename_i z hz
          cases hc : (plainV z && decide (0 < z.cells.size) && decide (0 ≤ ln) && decide (ln ≤ cp) && decide (cp < 9223372036854775808) && decide ((i.bytes : Int) * cp ≤ 281474976710656)) with
          | false => rw [hc] at h; cases h
          | true =>
            rw [hc] at h
            simp only [cond_true, Option.some.injEq, Prod.mk.injEq] at h
            obtain ⟨rfl, rfl⟩ := h
            simp only [Bool.and_eq_true, decide_eq_true_eq] at hc
            obtain ⟨⟨⟨⟨⟨hp, hz0⟩, h0⟩, hlc⟩, h63⟩, hby⟩ := hc
            have hrun := run_make (P := P) w t elem i z hu hi hz k1 k2 ln cp h0 hlc hby (by omega)
            refine ⟨(madeCells z.cells (cp.toNat * i.size)), ?_, ?_, rfl, rfl⟩
            · simp only [execOp, Sem.run_bind, hl', hc', hrun, Result.andThen_ok, Sem.run_pure, nameV]
            · have : (madeCells z.cells (cp.toNat * i.size)).toList = zcells z (cp.toNat * i.size) := by
                simp [madeCells, zcells]
              rw [this]
              exact zcells_vr hp hz0 _ m
        · cases h
      · cases h
    · cases h
  · cases h

end
end Go.Am
