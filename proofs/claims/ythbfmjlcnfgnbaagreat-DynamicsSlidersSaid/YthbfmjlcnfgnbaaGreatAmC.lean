/-
  The operations that touch no memory, on abstract values; each does on the concrete ones what it does on these.
-/
import Derived.Test.YthbfmjlcnfgnbaaGreatAmB
namespace Go.Am

def addA (a : Addr) (n : Nat) : Addr := { a with off := a.off + n }

/-- Two addresses. -/
def AR (m : Mp) (a a' : Addr) : Prop :=
  (a.spot = none ∧ m.gb a.block = some a'.block ∧ a'.off = a.off ∧ a'.spot = none) ∨ (a.spot = some 0 ∧ m.lb a.block = some a'.block ∧ a'.off = a.off ∧ a'.spot = none)

theorem AR.spot {m : Mp} {a a' : Addr} (h : AR m a a') : a'.spot = none := by rcases h with h | h <;> exact h.2.2.2
theorem AR.add {m : Mp} {a a' : Addr} (h : AR m a a') (n : Nat) : AR m (addA a n) (a'.add n) := by
  have e : a'.add n = { a' with off := a'.off + n } := by
    have := h.spot
    obtain ⟨b, o, s⟩ := a'
    simp only at this
    subst this
    unfold Addr.add
    split <;> simp_all
  rw [e]
  rcases h with ⟨h1, h2, h3, h4⟩ | ⟨h1, h2, h3, h4⟩
  · exact .inl ⟨h1, h2, by simp [addA, h3], h4⟩
  · exact .inr ⟨h1, h2, by simp [addA, h3], h4⟩
theorem AR.vr {m : Mp} {a a' : Addr} (h : AR m a a') : VR m (.pointer (some a)) (.pointer (some a')) := by
  obtain ⟨b, o, s⟩ := a
  obtain ⟨b', o', s'⟩ := a'
  rcases h with ⟨h1, h2, h3, h4⟩ | ⟨h1, h2, h3, h4⟩ <;> simp only at h1 h2 h3 h4 <;> subst h1 h3 h4
  · exact .ptrG h2
  · exact .ptrL h2
theorem vr_ptr {m : Mp} {a : Addr} {v' : Value} (h : VR m (.pointer (some a)) v') : ∃ a', v' = .pointer (some a') ∧ AR m a a' := by
  cases h with
  | ptrG e => exact ⟨_, rfl, .inl ⟨rfl, e, rfl, rfl⟩⟩
  | ptrL e => exact ⟨_, rfl, .inr ⟨rfl, e, rfl, rfl⟩⟩

/-- Two slices' places. -/
def SR (m : Mp) (a : Addr) (n c : Nat) (a' : Addr) (c' : Nat) : Prop :=
  (AR m a a' ∧ (c' = c ∨ (a.spot = none ∧ m.loose a.block = true ∧ c ≤ c' ∧ a.off + c' * m.esz a.block ≤ m.tot a.block))) ∨
  (n = 0 ∧ c = 0 ∧ a.spot = none ∧ m.loose a.block = true ∧ ∃ g, m.gb a.block = some g)

theorem vr_slice {m : Mp} {a : Addr} {n c : Nat} {v' : Value} (h : VR m (.slice (some a) n c) v') : ∃ a' c', v' = .slice (some a') n c' ∧ SR m a n c a' c' := by
  cases h with
  | sliceG e => exact ⟨_, _, rfl, .inl ⟨.inl ⟨rfl, e, rfl, rfl⟩, .inl rfl⟩⟩
  | sliceO e hl hc ht => exact ⟨_, _, rfl, .inl ⟨.inl ⟨rfl, e, rfl, rfl⟩, .inr ⟨rfl, hl, hc, ht⟩⟩⟩
  | sliceE e hl => exact ⟨_, _, rfl, .inr ⟨rfl, rfl, rfl, hl, _, e⟩⟩
  | sliceL e => exact ⟨_, _, rfl, .inl ⟨.inr ⟨rfl, e, rfl, rfl⟩, .inl rfl⟩⟩
theorem SR.vr {m : Mp} {a : Addr} {n c : Nat} {a' : Addr} {c' : Nat} (h : SR m a n c a' c') : VR m (.slice (some a) n c) (.slice (some a') n c') := by
  obtain ⟨b, o, s⟩ := a
  rcases h with ⟨har, hc⟩ | ⟨h1, h2, h3, h4, g, h5⟩
  · obtain ⟨b', o', s'⟩ := a'
    rcases har with ⟨h1, h2, h3, h4⟩ | ⟨h1, h2, h3, h4⟩ <;> simp only at h1 h2 h3 h4 <;> subst h1 h3 h4
    · rcases hc with rfl | ⟨_, hl, hc, ht⟩
      · exact .sliceG h2
      · exact .sliceO h2 hl hc ht
    · rcases hc with rfl | ⟨hn, _⟩
      · exact .sliceL h2
      · cases hn
  · simp only at h1 h2 h3 h4 h5
    subst h1 h2 h3
    exact .sliceE h5 h4
theorem vr_int {m : Mp} {k : IntKind} {n : Int} {v' : Value} (h : VR m (.int k n) v') : v' = .int k n := by cases h; rfl
theorem vr_bool {m : Mp} {b : Bool} {v' : Value} (h : VR m (.bool b) v') : v' = .bool b := by cases h; rfl
theorem vr_agg {m : Mp} {cs : Array Value} {v' : Value} (h : VR m (.agg cs) v') : ∃ cs' : Array Value, v' = .agg cs' ∧ VRs m cs.toList cs'.toList := by
  cases h with
  | agg hl hh => exact ⟨_, rfl, hl, hh⟩
theorem vr_tuple {m : Mp} {cs : Array Value} {v' : Value} (h : VR m (.tuple cs) v') : ∃ cs' : Array Value, v' = .tuple cs' ∧ VRs m cs.toList cs'.toList := by
  cases h with
  | tuple hl hh => exact ⟨_, rfl, hl, hh⟩
theorem VRs.agg' {m : Mp} {a a' : Array Value} (h : VRs m a.toList a'.toList) : VR m (.agg a) (.agg a') := by
  obtain ⟨l⟩ := a; obtain ⟨l'⟩ := a'; exact h.agg
theorem vr_cells {m : Mp} {v v' : Value} (h : VR m v v') : VRs m v.cells.toList v'.cells.toList := by
  cases h <;> first | (rename_i hl hh; exact ⟨hl, hh⟩) | exact VRs.cons (by first | exact .bool _ | exact .int _ _ | exact .float _ _ | exact .string _ | exact .ptrN | (exact .ptrG ‹_›) | (exact .ptrL ‹_›) | exact .sliceN _ _ | exact .sliceG ‹_› | exact .sliceO ‹_› ‹_› ‹_› ‹_› | exact .sliceE ‹_› ‹_› | exact .sliceL ‹_› | exact .mapN | exact .nilFunc | exact .nilIface | exact .func ‹_› ‹_› ‹_› ‹_› | exact .iface ‹_› | exact .tuple ‹_› ‹_›) (VRs.nil m)
theorem vr_oneCell {m : Mp} {v v' : Value} (h : VR m v v') : v'.oneCell' = v.oneCell' := by cases h <;> rfl

/-- The operands of an operation, one by one. -/
def OpR (m : Mp) (ρ ρ' : Operand → Value) (o : Oper) : Prop := ∀ x ∈ o.op.operands, VR m (ρ x) (ρ' x)

def plainV (v : Value) : Bool := plainB 4 v
def noLoc (v : Value) : Bool := noLocB 6 v

def evPlain (P : Program) (o : Oper) (ρ : Operand → Value) : Option Value :=
  bif o.op.operands.toList.all (fun x => plainV (ρ x)) then
    match runPure P (execOp ρ o) with
    | some (.value v) => bif plainV v then some v else none
    | _ => none
  else none

def isAggT (P : Program) (t : TypeId) : Option Bool :=
  match P.underlying t with
  | some (.struct _) => some true
  | some (.array _ _) => some true
  | some _ => some false
  | none => none

def evPart (P : Program) (t : TypeId) (cs : List Value) (off : Nat) : Option Value :=
  match isAggT P t with
  | some true => match P.info? t with
    | some i => some (.agg ⟨(cs.drop off).take i.size⟩)
    | none => none
  | some false => cs[off]?
  | none => none

def bnd (x : Value) (y : Nat) : Option Nat :=
  match x with
  | .int _ i => bif decide (0 ≤ i) && decide (i ≤ (y : Int)) then some i.toNat else none
  | _ => none

def sbounds (len cap : Nat) (lo hi mx : Option Value) : Option (Nat × Nat × Nat) :=
  match (match mx with | some v => bnd v cap | none => some cap) with
  | none => none
  | some m =>
    match (match hi, mx with | some v, _ => bnd v m | none, none => some len | none, some _ => none) with
    | none => none
    | some h =>
      match (match lo with | some v => bnd v h | none => some 0) with
      | none => none
      | some l => bif decide (h ≤ m) then some (l, h, m) else none

def evIndexAddr (P : Program) (t : TypeId) (x i : Value) : Option Value :=
  match P.underlying t, x, i with
  | some (.array len elem), .pointer (some a), .int _ n =>
    match P.info? elem with
    | some ti => bif decide (0 ≤ n) && decide (n < (len : Int)) then some (.pointer (some (addA a (n.toNat * ti.size)))) else none
    | none => none
  | some (.slice elem), .slice (some a) len _, .int _ n =>
    match P.info? elem with
    | some ti => bif decide (0 ≤ n) && decide (n < (len : Int)) then some (.pointer (some (addA a (n.toNat * ti.size)))) else none
    | none => none
  | _, _, _ => none

/-- The elements of a block that may be longer than it seems have the size that the slice's type says. -/
def sizeFits (H : Hp) (a : Addr) (size : Nat) : Bool :=
  match a.spot with
  | none => match H[a.block]? with
    | some b => !b.loose || b.esz == size
    | none => false
  | some _ => true

def evSlice (P : Program) (H : Hp) (t : TypeId) (x : Value) (lo hi mx : Option Value) : Option Value :=
  match P.underlying t, x with
  | some (.slice elem), .slice (some a) len cap =>
    match P.info? elem, sbounds len cap lo hi mx with
    | some ti, some (l, h, m) => bif sizeFits H a ti.size then some (.slice (some (bif m == l then a else addA a (l * ti.size))) (h - l) (m - l)) else none
    | _, _ => none
  | some (.array n elem), .pointer (some a) =>
    match P.info? elem, sbounds n n lo hi mx with
    | some ti, some (l, h, m) => some (.slice (some (bif m == l then a else addA a (l * ti.size))) (h - l) (m - l))
    | _, _ => none
  | _, _ => none

def evBuild (P : Program) (t : TypeId) (parts : List (Nat × Value)) : Option Value :=
  match P.info? t with
  | none => none
  | some ti =>
    match ti.zero with
    | none => none
    | some z =>
      bif !plainV z then none else
      match P.underlying t with
      | some (.struct fields) =>
        bif fields.toList.all (fun f => (P.info? f.type).isSome) then
          match Instr.fill (fun i => (fields[i]?).map fun f => (f.offset, P.cellsOf f.type)) z.cells parts with
          | some cells => some (.agg cells)
          | none => none
        else none
      | some (.array _ elem) =>
        match P.info? elem with
        | some ei =>
          match Instr.fill (fun i => some (i * ei.size, ei.size)) z.cells parts with
          | some cells => some (.agg cells)
          | none => none
        | none => none
      | _ => none

def evInert (P : Program) (H : Hp) (o : Oper) (ρ : Operand → Value) : Option Value :=
  match o.op with
  | .move x => some (ρ x)
  | .assign x => some (ρ x)
  | .pick c a b => match ρ c with
    | .bool t => some (bif t then ρ a else ρ b)
    | _ => none
  | .nilCheck x => match ρ x with
    | .pointer (some a) => some (.pointer (some a))
    | .func (.func f) fs cs => some (.func (.func f) fs cs)
    | _ => none
  | .extract x k => match ρ x with
    | .tuple vs => vs.toList[k]?
    | _ => none
  | .makeFunc (.func f) first captured => some (.func (.func f) ⟨first.toList.map ρ⟩ ⟨captured.toList.map ρ⟩)
  | .fieldAddr s x f => match P.underlying s, ρ x with
    | some (.struct fs), .pointer (some a) => match fs[f]? with
      | some fd => bif P.cellsOf fd.type == 0 then none else some (.pointer (some (addA a fd.offset)))
      | none => none
    | _, _ => none
  | .indexAddr t x i => evIndexAddr P t (ρ x) (ρ i)
  | .field t x f => match P.underlying t, ρ x with
    | some (.struct fs), .agg cs => match fs[f]? with
      | some fd => evPart P fd.type cs.toList fd.offset
      | none => none
    | _, _ => none
  | .index t x i => match P.underlying t, ρ x, ρ i with
    | some (.array len elem), .agg cs, .int _ n => match P.info? elem with
      | some ei => bif decide (0 ≤ n) && decide (n < (len : Int)) then evPart P elem cs.toList (n.toNat * ei.size) else none
      | none => none
    | _, _, _ => evPlain P o ρ
  | .slice t x lo hi mx => match ρ x with
    | .slice (some _) _ _ => evSlice P H t (ρ x) (lo.map ρ) (hi.map ρ) (mx.map ρ)
    | .pointer (some _) => evSlice P H t (ρ x) (lo.map ρ) (hi.map ρ) (mx.map ρ)
    | _ => evPlain P o ρ
  | .build t ps => evBuild P t (ps.toList.map fun (i, x) => (i, ρ x))
  | .call { callee := .builtin .len, args := ⟨[x]⟩, argTypes := ⟨[t]⟩ } => match P.underlying t, ρ x with
    | some (.slice _), .slice _ n _ => some (.int .i64 n)
    | _, _ => evPlain P o ρ
  | .select _ _ => none
  | _ => evPlain P o ρ

section
variable {P : Program} {m : Mp} {o : Oper} {ρ ρ' : Operand → Value} {v : Value}

theorem evPlain_sound (hρ : OpR m ρ ρ' o) (hs : ∀ cs b, o.op ≠ .select cs b) (h : evPlain P o ρ = some v) (w : World) : (execOp ρ' o).run P w = .ok (.value v) w ∧ VR m v v := by
  unfold evPlain at h
  cases hall : o.op.operands.toList.all (fun x => plainV (ρ x)) with
  | false => rw [hall] at h; cases h
  | true =>
    rw [hall] at h
    simp only [cond_true] at h
    have heq : execOp ρ' o = execOp ρ o := execOp_congr o hs fun x hx => by
      simp only [List.all_eq_true] at hall
      exact (plain_eq 4 _ _ (hall x (by simpa using hx)) (hρ x hx)).symm
    rw [heq]
    split at h
    · rename_i v0 hv0
      cases hp : plainV v0 with
      | false => rw [hp] at h; cases h
      | true =>
        rw [hp] at h
        simp only [cond_true, Option.some.injEq] at h
        subst h
        exact ⟨runPure_run _ _ w hv0, plain_vr m 4 _ hp⟩
    · cases h

end
end Go.Am
