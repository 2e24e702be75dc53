/-
  Texts put together: AmH AmI AmK.
-/
import Derived.Test.YtgkihlkhklmgcaaGreatZTrajectorySteps4
set_option linter.unusedVariables false
section
/-
  copy; the calls; every operation of the machine.
-/
namespace Go.Am

def evCopy (P : Program) (H loc : Hp) (tD : TypeId) (d x : Value) : Option Out :=
  match P.underlying tD, d, srcLen x with
  | some (.slice elem), .slice base dLen _, some sl =>
    match P.info? elem with
    | none => none
    | some ti =>
      match srcCells H loc ti.size (Nat.min sl dLen) x with
      | none => none
      | some cells =>
        match base with
        | none => some ⟨.int .i64 (Nat.min sl dLen : Nat), H, loc, [], []⟩
        | some a =>
          bif cells.length == 0 then some ⟨.int .i64 (Nat.min sl dLen : Nat), H, loc, [], []⟩ else
          bif decide (0 < dLen) then
            match writeCells H loc a cells with
            | some (H', loc', wg, wl) => some ⟨.int .i64 (Nat.min sl dLen : Nat), H', loc', wg, wl⟩
            | none => none
          else none
  | _, _, _ => none

/-- Functions without a body that the model answers by a row of its own. -/
abbrev Xt := FuncId → Option (Array Value → Sem Value)

abbrev Orc := FuncId → List Value → Hp → Option (Value × Hp × List Nat)

inductive Kind where
  | inert | alloc | load | eff | mkmap | look

/-- The map types whose reading, and whose length, is looked up in the heap (a seat's own list; laid by layam.py). -/
def mapTs : List TypeId := []

/-- The functions whose deferred call does nothing where no panic is under way, with the number of what they capture (a seat's own list; laid by layam.py). -/
def dfFns : List (Nat × Nat) := [(45, 2), (81, 2), (82, 2), (159, 1)]
def dfOkB (g : Nat) (xs : List Value) : Bool := dfFns.any fun e => Nat.beq e.1 g && Nat.beq e.2 xs.length
theorem dfOkB_len {g : Nat} {xs ys : List Value} (h : xs.length = ys.length) : dfOkB g xs = dfOkB g ys := by unfold dfOkB; rw [h]

/-- The methods that are called through an interface: the dynamic type, the name, the function (a seat's own list; laid by layam.py). -/
def mtTab : List (TypeId × String × FuncId) := [(276, "armplan/classify.holds", 333)]
def mtOf (t : TypeId) (name : String) : Option FuncId := (mtTab.find? fun e => Nat.beq e.1 t && e.2.1 == name).map (·.2.2)

/-- What a frame has deferred: calls that do nothing. -/
def DfOk (ds : List Deferred) : Prop := ∀ d ∈ ds, ∃ g xs, dfOkB g xs = true ∧ d = { target := .fn (.func g) ⟨xs⟩, args := #[] }
theorem DfOk.nil : DfOk [] := fun _ h => by cases h
theorem DfOk.cons {g : Nat} {xs : List Value} {ds : List Deferred} (hg : dfOkB g xs = true) (h : DfOk ds) : DfOk ({ target := .fn (.func g) ⟨xs⟩, args := #[] } :: ds) := fun d hd => by
  rcases List.mem_cons.1 hd with rfl | hd
  · exact ⟨g, xs, hg, rfl⟩
  · exact h d hd

def kindOf : Op → Kind
  | .range _ _ => .eff
  | .next _ _ => .eff
  | .alloc _ | .box _ _ | .buildSlice _ _ _ | .makeSlice _ _ _ => .alloc
  | .load _ _ => .load
  | .store _ _ _ => .eff
  | .call { callee := .builtin .append, .. } => .eff
  | .call { callee := .builtin .copy, .. } => .eff
  | .call { callee := .value _, .. } => .eff
  | .call { callee := .invoke _ _, .. } => .eff
  | .makeMap _ none => .mkmap
  | .mapUpdate _ _ _ _ => .eff
  | .mapEntry _ _ _ => .eff
  | .entryStore _ _ _ _ => .eff
  | .defer _ => .eff
  | .lookup t _ _ _ => bif mapTs.contains t then .look else .inert
  | .call { callee := .builtin .len, argTypes := ⟨[t]⟩, .. } => bif mapTs.contains t then .eff else .inert
  | _ => .inert

def hasBody (P : Program) (f : FuncId) : Bool :=
  match P.funcs[f]? with
  | some fn => fn.body.isSome
  | none => false

def evCall (P : Program) (X : Xt) (O : Orc) (H loc : Hp) (fv : Value) (args : List Value) : Option Out :=
  match fv with
  | .func (.func f) first captured =>
    bif hasBody P f && (first.toList ++ args ++ captured.toList).all noLoc then
      match O f (first.toList ++ args ++ captured.toList) H with
      | some (v, H', md) => some ⟨v, H', loc, md, []⟩
      | none => none
    else
      match X f with
      | some e => bif !hasBody P f && (first.toList ++ args ++ captured.toList).all plainV then
          match runPure P (e (first.toList ++ args ++ captured.toList).toArray) with
          | some v => bif plainV v then some ⟨v, H, loc, [], []⟩ else none
          | none => none
        else none
      | none => none
  | _ => none

/-- A method called through an interface. -/
def evInvoke (P : Program) (O : Orc) (H loc : Hp) (rv : Value) (name : String) (args : List Value) : Option Out :=
  match rv with
  | .iface t v => match mtOf t name with
    | some f => bif hasBody P f && (v :: args).all noLoc then
        match O f (v :: args) H with
        | some (v, H', md) => some ⟨v, H', loc, md, []⟩
        | none => none
      else none
    | none => none
  | _ => none

/-- A range over a string: its iterator is a local block. -/
def evRange (P : Program) (H loc : Hp) (t : TypeId) (x : Value) : Option Out :=
  match P.underlying t, x with
  | some .string, .string s => fSpine (loc ++ [⟨[.string s, .int .i64 (0 : Nat)], 0, 0, false, false⟩]) fun loc' => some ⟨.pointer (some ⟨loc.length, 0, some 0⟩), H, loc', [], []⟩
  | _, _ => none

def evNext (H loc : Hp) (x : Value) : Option Out :=
  match x with
  | .pointer (some ⟨i, 0, some 0⟩) =>
    match loc[i]? with
    | some b => bif b.live then none else
      match b.cells with
      | [.string s, .int .i64 (.ofNat pos)] =>
        bif decide (pos < s.size) then
          fNat (pos + (Utf8.decode s pos).2) fun np => fSet loc i { b with cells := [.string s, .int .i64 (np : Int)] } fun loc' => some ⟨.tuple ⟨[.bool true, .int .i64 (pos : Int), .int .i32 ((Utf8.decode s pos).1 : Int)]⟩, H, loc', [], [i]⟩
        else some ⟨.tuple ⟨[.bool false]⟩, H, loc, [], []⟩
      | _ => none
    | none => none
  | _ => none

def evEff (P : Program) (X : Xt) (O : Orc) (H loc : Hp) (op : Op) (ρ : Operand → Value) : Option Out :=
  match op with
  | .range t x => evRange P H loc t (ρ x)
  | .next x true => evNext H loc (ρ x)
  | .store t a x => match evStore P H loc t (ρ a) (ρ x) with
    | some (H', loc', wg, wl) => some ⟨undef, H', loc', wg, wl⟩
    | none => none
  | .call { callee := .builtin .append, args := ⟨[s, x]⟩, argTypes := ⟨[tS, tX]⟩ } => evAppend P H loc tS tX (ρ s) (ρ x)
  | .call { callee := .builtin .copy, args := ⟨[s, x]⟩, argTypes := ⟨tS :: _⟩ } => evCopy P H loc tS (ρ s) (ρ x)
  | .call { callee := .value f, args := as, .. } => evCall P X O H loc (ρ f) (as.toList.map ρ)
  | .call { callee := .invoke r name, args := as, .. } => evInvoke P O H loc (ρ r) name (as.toList.map ρ)
  | .mapUpdate t x k v => match evMapUpdate P H t (ρ x) (ρ k) (ρ v) with
    | some (H', r) => some ⟨undef, H', loc, [r], []⟩
    | none => none
  | .mapEntry t x k => match evMapEntry P H t (ρ x) (ρ k) with
    | some (v, H', r) => some ⟨v, H', loc, [r], []⟩
    | none => none
  | .entryStore _ x s v => match evEntryStore H (ρ x) (ρ s) (ρ v) with
    | some (H', r) => some ⟨undef, H', loc, [r], []⟩
    | none => none
  | .call { callee := .builtin .len, args := ⟨[x]⟩, argTypes := ⟨[t]⟩ } => match P.underlying t with
    | some (.map _ _) => match evLenM H (ρ x) with
      | some v => some ⟨v, H, loc, [], []⟩
      | none => none
    | _ => none
  | .defer { callee := .value f, args := ⟨[]⟩, .. } => match ρ f with
    | .func (.func g) ⟨[]⟩ ⟨xs⟩ => bif dfOkB g xs then some ⟨undef, H, loc, [], []⟩ else none
    | _ => none
  | _ => none

/-- A reading of a map: its answer is plain. -/
def evLook (P : Program) (H : Hp) (op : Op) (ρ : Operand → Value) : Option Value :=
  match op with
  | .lookup t x k ck => match evLookup P H t (ρ x) (ρ k) ck with
    | some v => bif plainV v then some v else none
    | none => none
  | _ => none

def evOp (P : Program) (X : Xt) (O : Orc) (esc : Nat → Bool) (o : Oper) (ρ : Operand → Value) (H loc : Hp) : Option Out :=
  match kindOf o.op with
  | .inert => match evInert P H o ρ with
    | some v => some ⟨v, H, loc, [], []⟩
    | none => none
  | .load => match o.op with
    | .load t x => match evLoad P H loc t (ρ x) with
      | some v => some ⟨v, H, loc, [], []⟩
      | none => none
    | _ => none
  | .alloc => match evAlloc P o.op ρ with
    | some (b, k) =>
      bif (match o.dst with | some d => esc d | none => true) then
        bif b.cells.all noLoc then fVals b.cells (fun cs => fSpine (H ++ [{ b with cells := cs }]) fun H' => some ⟨nameV k ⟨H.length, 0, none⟩, H', loc, [], []⟩) else none
      else fVals b.cells (fun cs => fSpine (loc ++ [{ b with cells := cs }]) fun loc' => some ⟨nameV k ⟨loc.length, 0, some 0⟩, H, loc', [], []⟩)
    | none => none
  | .eff => evEff P X O H loc o.op ρ
  | .look => match evLook P H o.op ρ with
    | some v => some ⟨v, H, loc, [], []⟩
    | none => none
  | .mkmap => match o.op with
    | .makeMap _ none => fSpine (evMakeMap H).2 fun H' => some ⟨(evMakeMap H).1, H', loc, [], []⟩
    | _ => none

def noLb : Nat → Option Nat := fun _ => none

/-- What an oracle's answer promises of the call itself. -/
def GoodAt (P : Program) (f : FuncId) (args : List Value) (H : Hp) (v : Value) (H' : Hp) (md : List Nat) : Prop :=
  ∀ (m : Mp) (w : World) (args' : List Value), m.lb = noLb → Rel m H [] w → VRs m args args' →
    Calls P f args'.toArray w fun e w' => ∃ v' m', e = .returned v' ∧ VR m' v v' ∧ Ext m H [] w m' H' [] w' md [] ∧ m'.lb = noLb

def GoodO (P : Program) (O : Orc) : Prop := ∀ f args H v H' md, O f args H = some (v, H', md) → GoodAt P f args H v H' md

def Named (P : Program) : Prop := ∀ (f : Nat) (fn : Func), P.funcs[f]? = some fn → (fn.name == "runtime.NumGoroutine") = false

/-- The table of methods is the program's. -/
def GoodM (P : Program) : Prop := ∀ e ∈ mtTab, ∀ (v : Value) (w : World), (method (P.types.size + Made.depth) e.1 v e.2.1).run P w = .ok (e.2.2, v) w

def GoodX (P : Program) (X : Xt) : Prop := (∀ f e, X f = some e → ∃ fn, P.funcs[f]? = some fn ∧ fn.body.isNone = true ∧ Extern.findNext fn = none ∧ Extern.find fn = some e) ∧ GoodM P
theorem mtOf_mem {t : TypeId} {name : String} {f : FuncId} (h : mtOf t name = some f) : (t, name, f) ∈ mtTab := by
  unfold mtOf at h
  rw [Option.map_eq_some_iff] at h
  obtain ⟨⟨t', n', f'⟩, h1, h2⟩ := h
  have h3 := List.find?_some h1
  have h4 := List.mem_of_find?_eq_some h1
  simp only [Bool.and_eq_true] at h3
  have e1 : t' = t := Nat.eq_of_beq_eq_true h3.1
  have e2 : n' = name := eq_of_beq h3.2
  have e3 : f' = f := h2
  subst e1 e2 e3
  exact h4

section
variable {P : Program} {m : Mp} {H loc : Hp} {w : World}

theorem copy_sound (hR : Rel m H loc w) {tX : List TypeId} {t0 ty : TypeId} {s x s' x' : Value} (hs : VR m s s') (hx : VR m x x') {out : Out} (h : evCopy P H loc t0 s x = some out) :
    ∃ v' w', (Builtin.copy_ ⟨t0 :: tX⟩ ty #[s', x']).run P w = .ok v' w' ∧ Ext m H loc w m out.H out.loc w' out.wg out.wl ∧ VR m out.v v' := by
  unfold evCopy at h
  split at h
  · rename_i elem base dLen dCap sl hS hsl
    split at h
    · cases h
    · rename_i ti hti
      split at h
      · cases h
      · rename_i cells hcells
        have hlen := srcLen_sound (P := P) hx hsl w
        have hnl : ∀ a l c, x = .slice a l c → Nat.min sl dLen ≤ l := by
          intro a l c e; subst e; simp [srcLen] at hsl; subst hsl; exact Nat.min_le_left _ _
        obtain ⟨new', hf, hvn⟩ := srcCells_sound (P := P) hR hx hcells hnl
        have hbase : ∃ base' c', s' = .slice base' dLen c' ∧ (base = none → base' = none) ∧ (∀ a, base = some a → ∃ a', base' = some a' ∧ SR m a dLen dCap a' c') := by
          cases base with
          | none => cases hs; exact ⟨_, _, rfl, (fun _ => rfl), (fun a e => by cases e)⟩
          | some a =>
            obtain ⟨a', c', rfl, hsr⟩ := vr_slice hs
            exact ⟨_, _, rfl, (fun e => by cases e), (fun a0 e => by injection e with e; subst e; exact ⟨a', rfl, hsr⟩)⟩
        obtain ⟨base', c', rfl, hb1, hb2⟩ := hbase
        cases base with
        | none =>
          simp only [Option.some.injEq] at h
          subst h
          rw [hb1 rfl]
          refine ⟨_, w, ?_, Ext.refl hR, .int _ _⟩
          simp [Builtin.copy_, run_underlying hS, hlen, run_sizeOf' hti, hf, goInt]
        | some a =>
          obtain ⟨a', rfl, hsr⟩ := hb2 a rfl
          simp only at h
          cases h0 : (cells.length == 0) with
          | true =>
            simp only [h0, cond_true, Option.some.injEq] at h
            subst h
            have e0 : cells = [] := List.eq_nil_of_length_eq_zero (by simpa using h0)
            subst e0
            have e1 : new' = [] := List.eq_nil_of_length_eq_zero hvn.1.symm
            subst e1
            refine ⟨_, w, ?_, Ext.refl hR, .int _ _⟩
            simp [Builtin.copy_, run_underlying hS, hlen, run_sizeOf' hti, hf, storeCells, goInt]
          | false =>
            simp only [h0, cond_false] at h
            cases hd : decide (0 < dLen) with
            | false => simp [hd] at h
            | true =>
              simp only [hd, cond_true] at h
              have hd' : 0 < dLen := by simpa using hd
              split at h
              · rename_i H' loc' wg wl hw
                injection h with h; subst h
                rcases hsr with ⟨har, _⟩ | ⟨e, _⟩
                · obtain ⟨w', hrun, hext⟩ := write_sound (P := P) hR har hvn hw
                  refine ⟨_, w', ?_, hext, .int _ _⟩
                  simp [Builtin.copy_, run_underlying hS, hlen, run_sizeOf' hti, hf, hrun, goInt]
                · omega
              · cases h
  · cases h

/-- Behind a call: the caller's locals lie as they lay. -/
theorem ext_call (hR : Rel m H loc w) {m' : Mp} {H' : Hp} {w' : World} {md : List Nat} (h : Ext m.noL H [] w m' H' [] w' md []) (hl : m'.lb = noLb) :
    Ext m H loc w { m' with lb := m.lb } H' loc w' md [] ∧ Le m' { m' with lb := m.lb } := by
  have hle : Le m { m' with lb := m.lb } := ⟨h.le.gb, fun _ _ e => e, h.le.loose, h.le.esz, h.le.tot⟩
  have hle2 : Le m' { m' with lb := m.lb } := ⟨fun _ _ e => e, (fun i g e => by rw [hl] at e; cases e), fun _ _ _ => rfl, fun _ _ _ => rfl, fun _ _ _ => rfl⟩
  refine ⟨⟨hle, ⟨fun i g e => ?_, fun i g e => ?_, fun i j g bi bj e e' => h.rel.ginj i j g bi bj e e', hR.linj, ?_⟩, fun i g e => h.img i g e, fun i g e => .inl e, fun i g e => h.dom i g e, fun i g e => .inl e,
    h.os, h.tape, h.output, h.size, (fun g hg hn hn2 => h.frame g hg hn (fun i e => by cases e)), fun i hi hn => h.un i hi hn, fun _ _ _ => rfl, h.mod, fun _ _ _ => rfl, h.len, Nat.le_refl _, h.kp, h.cmod⟩, hle2⟩
  · obtain ⟨h1, b, h2, h3⟩ := h.rel.glob i g e
    exact ⟨h1, b, h2, h3.lo, h3.ez, h3.blk, h3.mp⟩
  · obtain ⟨h1, b, h2, h3⟩ := hR.locs i g e
    exact ⟨Nat.lt_of_lt_of_le h1 h.size, b, h2, h3.mono hle (h.frame g h1 (fun j e' => hR.disj j i g e' e) (fun j e' => by cases e'))⟩
  · intro i j g e e'
    rcases h.img i g e with ⟨k, hk⟩ | hk
    · exact hR.disj k j g hk e'
    · have := (hR.locs j g e').1; omega

theorem rel_noL (hR : Rel m H loc w) : Rel m.noL H [] w := by
  refine ⟨fun i g e => ?_, (fun i g e => by cases e), hR.ginj, (fun i j g e => by cases e), (fun i j g _ e => by cases e)⟩
  obtain ⟨h1, b, h2, h3⟩ := hR.glob i g e
  exact ⟨h1, b, h2, h3.lo, h3.ez, h3.blk, h3.mp⟩

theorem esz_of (hR : Rel m H loc w) : EszR m H := fun i g b hi hb => by
  obtain ⟨_, b0, hb0, hG⟩ := hR.glob i g hi
  rw [hb] at hb0; injection hb0 with hb0; subst hb0
  exact ⟨hG.ez, hG.lo⟩

theorem run_call {fn : Func} {f : FuncId} {args : Array Value} (hf : P.funcs[f]? = some fn) (hb : fn.body.isSome = true) (hn : (fn.name == "runtime.NumGoroutine") = false) (w : World) :
    (callFunc f args).run P w = .ok (.enter f args) w := by
  have hb' : ¬ fn.body = none := by intro e; rw [e] at hb; cases hb
  have hn' : ¬ fn.name = "runtime.NumGoroutine" := by simpa using hn
  simp [callFunc, hf, hn', hb']

theorem look_sound (hR : Rel m H loc w) {o : Oper} {ρ : Operand → Value} {a : Act} (hρ : OpR m ρ a.eval o) {v : Value} (h : evLook P H o.op ρ = some v) : (execOp a.eval o).run P w = .ok (.value v) w ∧ ∀ m', VR m' v v := by
  unfold evLook at h
  split at h
  · rename_i t x k ck ho
    split at h
    · rename_i v0 hm
      cases hp : plainV v0 with
      | false => rw [hp] at h; cases h
      | true =>
        rw [hp] at h
        simp only [cond_true, Option.some.injEq] at h
        subst h
        obtain ⟨v', hrun, hvr⟩ := lookup_sound (P := P) hR (hρ x (by simp [ho, Op.operands])) (hρ k (by simp [ho, Op.operands])) hm
        obtain rfl := plain_eq 4 _ _ hp hvr
        refine ⟨?_, fun m' => plain_vr m' 4 _ hp⟩
        unfold execOp
        simp only [ho, Sem.run_bind, hrun, Result.andThen_ok, Sem.run_pure]
    · cases h
  · cases h

theorem evOp_sound (hN : Named P) {X : Xt} (hX : GoodX P X) {O : Orc} (hO : GoodO P O) {esc : Nat → Bool} {o : Oper} {ρ : Operand → Value} {a : Act} (hρ : OpR m ρ a.eval o) (hR : Rel m H loc w) {out : Out} (h : evOp P X O esc o ρ H loc = some out)
    {K : Act → World → Prop} {Q : Exit → Act → World → Prop}
    (hKD : ∀ v' w' m' ds, (DfOk a.defers → DfOk ds) → Ext m H loc w m' out.H out.loc w' out.wg out.wl → VR m' out.v v' → K (({ a with defers := ds } : Act).put o.dst v') w') : o.wp P a w K Q := by
  have hK : ∀ v' w' m', Ext m H loc w m' out.H out.loc w' out.wg out.wl → VR m' out.v v' → K (a.put o.dst v') w' := fun v' w' m' h1 h2 => hKD v' w' m' a.defers id h1 h2
  unfold evOp at h
  simp only [fVals_eq, fSpine_eq] at h
  split at h
  · split at h
    · rename_i v hv
      injection h with h; subst h
      obtain ⟨v', hrun, hvr⟩ := evInert_sound (P := P) (esz_of hR) hρ hv w
      unfold Oper.wp
      rw [hrun]
      exact hK v' w m (Ext.refl hR) hvr
    · cases h
  · split at h
    · rename_i t x ho
      split at h
      · rename_i v hv
        injection h with h; subst h
        obtain ⟨v', hrun, hvr⟩ := load_sound (P := P) hR (hρ x (by simp [ho, Op.operands])) hv
        unfold Oper.wp execOp
        simp only [ho, Sem.run_bind, hrun, Result.andThen_ok, Sem.run_pure]
        exact hK v' w m (Ext.refl hR) hvr
      · cases h
    · cases h
  · split at h
    · rename_i b k hb
      obtain ⟨cs, hrun, hvr, hlive, hloose⟩ := alloc_run (P := P) hρ hb w
      unfold Oper.wp
      rw [hrun]
      cases he : (match o.dst with | some d => esc d | none => true) with
      | true =>
        rw [he] at h
        simp only [cond_true] at h
        cases hn : b.cells.all noLoc with
        | false => rw [hn] at h; cases h
        | true =>
          rw [hn] at h
          simp only [cond_true, Option.some.injEq] at h
          subst h
          have hvn := vrs_noLoc hn hvr
          have hext := ext_newG hR b cs hlive (by have := hvr.1; simp at this; omega) (by
            have hl : b.cells.length = cs.toList.length := hvr.1
            rw [hl, List.take_length]; exact hvn) (fun _ => by have := hvr.1; simp at this; omega)
          exact hK _ _ _ hext (nameV_vr (m := m.addG H.length w.heap.size b.loose b.esz cs.size) (a := ⟨H.length, 0, none⟩) (a' := ⟨w.heap.size, 0, none⟩) (.inl ⟨rfl, (by simp [Mp.addG] : (m.addG H.length w.heap.size b.loose b.esz cs.size).gb H.length = some w.heap.size), rfl, rfl⟩) k)
      | false =>
        rw [he] at h
        simp only [cond_false, Option.some.injEq] at h
        subst h
        exact hK _ _ _ (ext_newL hR b cs hlive hvr) (nameV_vr (m := m.addL loc.length w.heap.size) (a := ⟨loc.length, 0, some 0⟩) (a' := ⟨w.heap.size, 0, none⟩) (.inr ⟨rfl, (by simp [Mp.addL] : (m.addL loc.length w.heap.size).lb loc.length = some w.heap.size), rfl, rfl⟩) k)
    · cases h
  · unfold evEff at h
    split at h
    · rename_i t x ho
      have hx := hρ x (by simp [ho, Op.operands])
      unfold evRange at h
      simp only [fSpine_eq] at h
      split at h
      · rename_i s hu hs
        injection h with h; subst h
        rw [hs] at hx
        have hx' : a.eval x = .string s := by generalize a.eval x = y at hx; cases hx; rfl
        unfold Oper.wp execOp
        simp only [ho, Instr.range, Sem.run_bind, run_underlying hu, hx', Result.andThen_ok, Sem.run_pure, run_newObj_alloc]
        refine hK _ _ _ (ext_newLO hR ⟨[.string s, .int .i64 (0 : Nat)], 0, 0, false, false⟩ (.stringIter s 0) ⟨(fun e => by cases e), (fun _ => ⟨s, 0, rfl, heap_alloc_new w _⟩)⟩) ?_
        exact AR.vr (.inr ⟨rfl, by simp [Mp.addL], rfl, rfl⟩)
      · cases h
    · rename_i x ho
      have hx := hρ x (by simp [ho, Op.operands])
      unfold evNext at h
      simp only [fNat_eq, fSet_eq] at h
      split at h
      · rename_i i hi
        rw [hi] at hx
        obtain ⟨a', hx', har⟩ := vr_ptr hx
        obtain ⟨ab, ao, asp⟩ := a'
        rcases har with ⟨e, _⟩ | ⟨_, hlb, hoff, hsp⟩
        · cases e
        · simp only at hlb hoff hsp
          subst hoff; subst hsp
          split at h
          · rename_i b hb
            cases hl : b.live with
            | true => rw [hl] at h; cases h
            | false =>
              rw [hl] at h
              simp only [cond_false] at h
              have hbl : b = { b with live := false } := by rw [← hl]
              obtain ⟨hg, b0, hb0, hL⟩ := hR.locs _ _ hlb
              rw [hb] at hb0; injection hb0 with hb0; subst hb0
              obtain ⟨s0, pos0, hc0, hw0⟩ := hL.it hl
              split at h
              · rename_i s pos hcells
                rw [hcells] at hc0
                simp only [List.cons.injEq, Value.string.injEq, Value.int.injEq, true_and, and_true] at hc0
                obtain ⟨e1, e2⟩ := hc0
                subst e1
                have e3 : pos = pos0 := Int.ofNat.inj e2
                subst e3
                have hget : (getObj ab).run P w = .ok (.stringIter s pos) w := by simp [getObj, Sem.run, hw0]
                unfold Oper.wp execOp
                simp only [ho, Instr.next, Sem.run_bind, hx', hget, Result.andThen_ok]
                cases hlt : decide (pos < s.size) with
                | true =>
                  rw [hlt] at h
                  simp only [cond_true, Option.some.injEq] at h
                  subst h
                  rw [if_pos (by simpa using hlt)]
                  have hset : (setObj ab (.stringIter s (pos + (Utf8.decode s pos).2))).run P w = .ok () { w with heap := w.heap.setIfInBounds ab (.stringIter s (pos + (Utf8.decode s pos).2)) } := by simp [setObj, Sem.run, hw0]
                  simp only [Sem.run_bind, hset, Result.andThen_ok, Sem.run_pure, goInt]
                  refine hK _ _ m (ext_turnL (w' := { w with heap := w.heap.setIfInBounds ab (.stringIter s (pos + (Utf8.decode s pos).2)) }) hR hlb hb (b' := { b with cells := [.string s, .int .i64 ((pos + (Utf8.decode s pos).2 : Nat) : Int)], live := false }) (fun k hk => by simp [Array.getElem?_setIfInBounds_ne (Ne.symm hk)]) (by simp) rfl rfl rfl
                    ⟨(fun e => by cases e), (fun _ => ⟨s, pos + (Utf8.decode s pos).2, rfl, by simp [hg]⟩)⟩) ?_
                  exact plain_vr m 4 _ rfl
                | false =>
                  rw [hlt] at h
                  simp only [cond_false, Option.some.injEq] at h
                  subst h
                  rw [if_neg (by simpa using hlt)]
                  simp only [Sem.run_pure, Result.andThen_ok]
                  exact hK _ _ m (Ext.refl hR) (plain_vr m 4 _ rfl)
              · cases h
          · cases h
      · cases h
    · rename_i t x y ho
      split at h
      · rename_i H' loc' wg wl hst
        injection h with h; subst h
        obtain ⟨w', hrun, hext⟩ := store_sound (P := P) hR (hρ x (by simp [ho, Op.operands])) (hρ y (by simp [ho, Op.operands])) hst
        unfold Oper.wp execOp
        simp only [ho, Sem.run_bind, hrun, Result.andThen_ok, Sem.run_pure]
        exact hK undef w' m hext (VR.undef m)
      · cases h
    · rename_i s x tS tX ho
      obtain ⟨v', w', m', hrun, hext, hvr⟩ := append_sound (P := P) (ty := o.type) hR (hρ s (by simp [ho, Op.operands, Call.operands])) (hρ x (by simp [ho, Op.operands, Call.operands])) h
      unfold Oper.wp execOp
      simp only [ho, resolve, invoke, builtin, Sem.run_bind, Sem.run_pure, Result.andThen_ok, List.map_toArray, List.map_cons, List.map_nil, hrun]
      exact hK v' w' m' hext hvr
    · rename_i s x tS tR ho
      obtain ⟨v', w', hrun, hext, hvr⟩ := copy_sound (P := P) (ty := o.type) hR (hρ s (by simp [ho, Op.operands, Call.operands])) (hρ x (by simp [ho, Op.operands, Call.operands])) (tX := tR) h
      unfold Oper.wp execOp
      simp only [ho, resolve, invoke, builtin, Sem.run_bind, Sem.run_pure, Result.andThen_ok, List.map_toArray, List.map_cons, List.map_nil, hrun]
      exact hK v' w' m hext hvr
    · rename_i f as tys ho
      unfold evCall at h
      split at h
      · rename_i fid first captured hfv
        cases hc : (hasBody P fid && (first.toList ++ as.toList.map ρ ++ captured.toList).all noLoc) with
        | false =>
          rw [hc] at h
          simp only [cond_false] at h
          split at h
          · rename_i e he
            cases hp : (!hasBody P fid && (first.toList ++ as.toList.map ρ ++ captured.toList).all plainV) with
            | false => rw [hp] at h; cases h
            | true =>
              rw [hp] at h
              simp only [cond_true] at h
              simp only [Bool.and_eq_true] at hp
              split at h
              · rename_i v hv
                cases hpv : plainV v with
                | false => rw [hpv] at h; cases h
                | true =>
                  rw [hpv] at h
                  simp only [cond_true, Option.some.injEq] at h
                  subst h
                  have hf := hρ f (by simp [ho, Op.operands, Call.operands])
                  rw [hfv] at hf
                  have hargs : VRs m (as.toList.map ρ) (as.toList.map a.eval) := by
                    have key : ∀ (l : List Operand), (∀ x ∈ l, VR m (ρ x) (a.eval x)) → VRs m (l.map ρ) (l.map a.eval) := by
                      intro l hl
                      induction l with
                      | nil => exact VRs.nil m
                      | cons x l ih => exact VRs.cons (hl x (by simp)) (ih fun y hy => hl y (by simp [hy]))
                    exact key _ fun x hx => hρ x (by simp [ho, Op.operands, Call.operands]; exact .inr (by simpa using hx))
                  cases hfv' : a.eval f with
                  | func fn first' captured' =>
                    rw [hfv'] at hf
                    cases hf with
                    | func h1 h2 h3 h4 =>
                      rename_i fs fs' cs cs'
                      have hall : VRs m (fs ++ as.toList.map ρ ++ cs) (fs' ++ as.toList.map a.eval ++ cs') := (VRs.append ⟨h1, h2⟩ hargs).append ⟨h3, h4⟩
                      have heq : fs ++ as.toList.map ρ ++ cs = fs' ++ as.toList.map a.eval ++ cs' :=
                        list_eq_of hall.1 fun i x y hx hy => plain_eq 4 x y (List.all_eq_true.1 hp.2 x (List.mem_of_getElem? hx)) (hall.2 i x y hx hy)
                      obtain ⟨fnn, hfn, hbn, hnx, hfd⟩ := hX.1 _ _ he
                      have hrun := run_callFunc_extern hfn (hN _ _ hfn) hbn hnx hfd (fs' ++ as.toList.map a.eval ++ cs').toArray w
                      simp only at hv
                      rw [heq] at hv
                      rw [runPure_run _ _ w hv] at hrun
                      unfold Oper.wp execOp
                      have e' : (⟨fs'⟩ ++ as.map a.eval ++ ⟨cs'⟩ : Array Value) = (fs' ++ as.toList.map a.eval ++ cs').toArray := by apply Array.ext'; simp
                      simp only [ho, resolve, hfv', Deferred.ofValue, Sem.run_bind, Sem.run_pure, Result.andThen_ok, invoke, e', hrun]
                      exact hK v w m (Ext.refl hR) (plain_vr m 4 v hpv)
                  | _ => rw [hfv'] at hf; cases hf
              · cases h
          · cases h
        | true =>
          rw [hc] at h
          simp only [cond_true] at h
          simp only [Bool.and_eq_true] at hc
          obtain ⟨hbody, hnoloc⟩ := hc
          split at h
          · rename_i v H' md hor
            injection h with h; subst h
            have hf := hρ f (by simp [ho, Op.operands, Call.operands])
            rw [hfv] at hf
            have hargs : VRs m (as.toList.map ρ) (as.toList.map a.eval) := by
              have key : ∀ (l : List Operand), (∀ x ∈ l, VR m (ρ x) (a.eval x)) → VRs m (l.map ρ) (l.map a.eval) := by
                intro l hl
                induction l with
                | nil => exact VRs.nil m
                | cons x l ih => exact VRs.cons (hl x (by simp)) (ih fun y hy => hl y (by simp [hy]))
              exact key _ fun x hx => hρ x (by simp [ho, Op.operands, Call.operands]; exact .inr (by simpa using hx))
            cases hfv' : a.eval f with
            | func fn first' captured' =>
              rw [hfv'] at hf
              cases hf with
              | func h1 h2 h3 h4 =>
                rename_i fs fs' cs cs'
                have hall : VRs m (fs ++ as.toList.map ρ ++ cs) (fs' ++ as.toList.map a.eval ++ cs') := (VRs.append ⟨h1, h2⟩ hargs).append ⟨h3, h4⟩
                have hgood := hO _ _ _ _ _ _ hor m.noL w _ rfl (rel_noL hR) (vrs_noLoc hnoloc hall)
                unfold hasBody at hbody
                split at hbody
                · rename_i fnn hfn
                  have hrun := run_call (args := (fs' ++ as.toList.map a.eval ++ cs').toArray) hfn hbody (hN _ _ hfn) w
                  unfold Oper.wp execOp
                  have e : (⟨fs'⟩ ++ as.map a.eval ++ ⟨cs'⟩ : Array Value) = (fs' ++ as.toList.map a.eval ++ cs').toArray := by apply Array.ext'; simp
                  simp only [ho, resolve, hfv', Deferred.ofValue, Sem.run_bind, Sem.run_pure, Result.andThen_ok, invoke, e, hrun]
                  rw [Oper.upon_enter]
                  refine hgood.mono ?_
                  rintro e' w' ⟨v', m', rfl, hvr, hext, hlb⟩
                  obtain ⟨hext', hle⟩ := ext_call hR hext hlb
                  exact hK v' w' _ hext' (hvr.mono hle)
                · cases hbody
            | _ => rw [hfv'] at hf; cases hf
          · cases h
      · cases h
    · rename_i r name as tys ho
      unfold evInvoke at h
      split at h
      · rename_i t v hrv
        split at h
        · rename_i fid hmt
          cases hc : (hasBody P fid && (v :: as.toList.map ρ).all noLoc) with
          | false => rw [hc] at h; cases h
          | true =>
            rw [hc] at h
            simp only [cond_true] at h
            simp only [Bool.and_eq_true] at hc
            obtain ⟨hbody, hnoloc⟩ := hc
            split at h
            · rename_i vo H' md hor
              injection h with h; subst h
              have hr := hρ r (by simp [ho, Op.operands, Call.operands])
              rw [hrv] at hr
              have hargs : VRs m (as.toList.map ρ) (as.toList.map a.eval) := by
                have key : ∀ (l : List Operand), (∀ x ∈ l, VR m (ρ x) (a.eval x)) → VRs m (l.map ρ) (l.map a.eval) := by
                  intro l hl
                  induction l with
                  | nil => exact VRs.nil m
                  | cons x l ih => exact VRs.cons (hl x (by simp)) (ih fun y hy => hl y (by simp [hy]))
                exact key _ fun x hx => hρ x (by simp [ho, Op.operands, Call.operands]; exact .inr (by simpa using hx))
              cases hrv' : a.eval r with
              | iface t' v' =>
                rw [hrv'] at hr
                cases hr with
                | iface hv =>
                  have hall : VRs m (v :: as.toList.map ρ) (v' :: as.toList.map a.eval) := VRs.cons hv hargs
                  have hgood := hO _ _ _ _ _ _ hor m.noL w _ rfl (rel_noL hR) (vrs_noLoc hnoloc hall)
                  unfold hasBody at hbody
                  split at hbody
                  · rename_i fnn hfn
                    have hrun := run_call (args := (v' :: as.toList.map a.eval).toArray) hfn hbody (hN _ _ hfn) w
                    have hmrun := hX.2 _ (mtOf_mem hmt) v' w
                    simp only at hmrun
                    unfold Oper.wp execOp
                    have e0 : (#[Value.iface t v'] ++ as.map a.eval : Array Value)[0]? = some (.iface t v') := by rw [Array.getElem?_append_left (by simp)]; rfl
                    have eP : (program).run P w = .ok P w := rfl
                    have e : (#[v'] ++ (#[Value.iface t v'] ++ as.map a.eval : Array Value).extract 1 (#[Value.iface t v'] ++ as.map a.eval : Array Value).size : Array Value) = (v' :: as.toList.map a.eval).toArray := by apply Array.ext'; simp; exact List.take_of_length_le (by simp)
                    simp only [ho, resolve, hrv', Sem.run_bind, Sem.run_pure, Result.andThen_ok, invoke, e0, callMethod, eP, hmrun, e, hrun]
                    rw [Oper.upon_enter]
                    refine hgood.mono ?_
                    rintro e' w' ⟨v', m', rfl, hvr, hext, hlb⟩
                    obtain ⟨hext', hle⟩ := ext_call hR hext hlb
                    exact hK v' w' _ hext' (hvr.mono hle)
                  · cases hbody
              | _ => rw [hrv'] at hr; cases hr
            · cases h
        · cases h
      · cases h
    · rename_i t x k v ho
      split at h
      · rename_i H' r hm
        injection h with h; subst h
        obtain ⟨w', hrun, hext⟩ := mapUpdate_sound (P := P) hR (hρ x (by simp [ho, Op.operands])) (hρ k (by simp [ho, Op.operands])) (hρ v (by simp [ho, Op.operands])) hm
        unfold Oper.wp execOp
        simp only [ho, Sem.run_bind, hrun, Result.andThen_ok, Sem.run_pure]
        exact hK undef w' m hext (VR.undef m)
      · cases h
    · rename_i t x k ho
      split at h
      · rename_i v H' r hm
        injection h with h; subst h
        obtain ⟨v', w', hrun, hext, hvr⟩ := mapEntry_sound (P := P) hR (hρ x (by simp [ho, Op.operands])) (hρ k (by simp [ho, Op.operands])) hm
        unfold Oper.wp execOp
        simp only [ho, Sem.run_bind, hrun, Result.andThen_ok, Sem.run_pure]
        exact hK v' w' m hext hvr
      · cases h
    · rename_i t x s v ho
      split at h
      · rename_i H' r hm
        injection h with h; subst h
        obtain ⟨w', hrun, hext⟩ := entryStore_sound (P := P) (t := t) hR (hρ x (by simp [ho, Op.operands])) (hρ s (by simp [ho, Op.operands])) (hρ v (by simp [ho, Op.operands])) hm
        unfold Oper.wp execOp
        simp only [ho, Sem.run_bind, hrun, Result.andThen_ok, Sem.run_pure]
        exact hK undef w' m hext (VR.undef m)
      · cases h
    · rename_i x t ho
      split at h
      · rename_i kt et hu
        split at h
        · rename_i v hm
          injection h with h; subst h
          have hrun := lenM_sound (P := P) (ty := o.type) hR hu (hρ x (by simp [ho, Op.operands, Call.operands])) hm
          unfold Oper.wp execOp
          simp only [ho, resolve, invoke, builtin, Sem.run_bind, Sem.run_pure, Result.andThen_ok, List.map_toArray, List.map_cons, List.map_nil, hrun]
          refine hK v w m (Ext.refl hR) (plain_vr m 4 v ?_)
          unfold evLenM at hm
          simp only [fNat_eq] at hm
          split at hm
          · injection hm with hm; subst hm; rfl
          · split at hm
            · rename_i b _
              cases hl : b.live with
              | true => rw [hl] at hm; cases hm
              | false =>
                rw [hl] at hm
                simp only [cond_false] at hm
                split at hm
                · cases hm
                · injection hm with hm; subst hm; rfl
            · cases hm
          · cases hm
        · cases h
      · cases h
    · rename_i f aT ho
      split at h
      · rename_i g x hf
        cases hg : dfOkB g x with
        | false => rw [hg] at h; cases h
        | true =>
          rw [hg] at h
          simp only [cond_true, Option.some.injEq] at h
          subst h
          have hfr := hρ f (by simp [ho, Op.operands, Call.operands])
          rw [hf] at hfr
          generalize hfv : a.eval f = fv at hfr
          cases hfr with
          | func h1 h2 h3 h4 =>
            rename_i fs' cs'
            obtain rfl : fs' = [] := List.eq_nil_of_length_eq_zero h1.symm
            have hg' : dfOkB g cs' = true := by rw [← hg]; exact dfOkB_len h3.symm
            unfold Oper.wp execOp
            simp only [ho, resolve, hfv, Deferred.ofValue, Sem.run_bind, Sem.run_pure, Result.andThen_ok]
            have hk := hKD undef w m ({ target := .fn (.func g) ⟨cs'⟩, args := #[] } :: a.defers) (fun hd => DfOk.cons hg' hd) (Ext.refl hR) (VR.undef m)
            have e : ((⟨[]⟩ : Array Value) ++ Array.map a.eval ⟨[]⟩) = #[] := by simp
            rw [e]
            exact hk
      · cases h
    · cases h
  · split at h
    · rename_i v hv
      injection h with h; subst h
      obtain ⟨hrun, hvr⟩ := look_sound (P := P) hR hρ hv
      unfold Oper.wp
      rw [hrun]
      exact hK v w m (Ext.refl hR) (hvr m)
    · cases h
  · split at h
    · rename_i t ho
      simp only [Option.some.injEq] at h
      subst h
      obtain ⟨v', w', m', hrun, hext, hvr⟩ := makeMap_sound (P := P) hR (t := t)
      unfold Oper.wp execOp
      simp only [ho, Option.map_none, Sem.run_bind, hrun, Result.andThen_ok, Sem.run_pure]
      exact hK v' w' m' hext hvr
    · cases h
end
end Go.Am
end

section
/-
  Regions in the order of the text; code; bodies.
-/
namespace Go.Am

structure St where
  fr : List Value
  H : Hp
  loc : Hp
  wg : List Nat

def evalO (fr : List Value) : Operand → Value
  | .tmp t => fr.getD t undef
  | .const v => v
  | .global g => .pointer (some ⟨g, 0, some 1⟩)
  | .func f => .func (.func f) #[] #[]

def putF (fr : List Value) (dst : Option Tmp) (v : Value) : List Value :=
  match dst with
  | some d => fr.set d v
  | none => fr

def fPut {α : Type} (fr : List Value) (dst : Option Tmp) (v : Value) (k : List Value → α) : α :=
  match dst with
  | some d => fSet fr d v k
  | none => k fr
theorem fPut_eq {α : Type} (fr : List Value) (dst : Option Tmp) (v : Value) (k : List Value → α) : fPut fr dst v k = k (putF fr dst v) := by
  cases dst with
  | none => rfl
  | some d => exact fSet_eq fr d v k

def operandOk : Operand → Bool
  | .const v => plainV v
  | .global _ => false
  | _ => true

def wantedA (ops : List Oper) (fr : List Value) (o : Oper) : Bool :=
  match o.guard with
  | none => true
  | some (j, want) =>
    match (ops[j]?).bind (·.dst) with
    | some t => match fr[t]? with
      | some (.bool b) => b == want
      | _ => false
    | none => false

/-- The operands' constants are plain. -/
def constsOk (ops : List Oper) : Bool := ops.all fun o => o.op.operands.toList.all operandOk

def stepO (P : Program) (X : Xt) (O : Orc) (esc : Nat → Bool) (ops : List Oper) (o : Oper) (s : St) : Option St :=
  bif wantedA ops s.fr o then
    match evOp P X O esc o (evalO s.fr) s.H s.loc with
    | some out => fVal 4 out.v fun v => fPut s.fr o.dst v fun fr => fSpine (s.wg ++ out.wg) fun wg => some ⟨fr, out.H, out.loc, wg⟩
    | none => none
  else fPut s.fr o.dst undef fun fr => some { s with fr := fr }

def seqOps (P : Program) (X : Xt) (O : Orc) (esc : Nat → Bool) (ops : List Oper) : List Oper → St → Option St
  | [], s => some s
  | o :: rest, s => match stepO P X O esc ops o s with
    | some s' => seqOps P X O esc ops rest s'
    | none => none

/-- The machine's state and the world's. m0, H0, w0: as the call began. -/
structure Sim (m0 : Mp) (H0 : Hp) (w0 : World) (s : St) (m : Mp) (a : Act) (w : World) : Prop where
  ext : Ext m0 H0 [] w0 m s.H s.loc w s.wg []
  fr : VRs m s.fr a.tmps.toList
  df : DfOk a.defers

section
variable {P : Program} {m m0 : Mp} {H0 : Hp} {w w0 : World} {a : Act}

theorem Ext.nil_wl {m m' : Mp} {H H' loc' : Hp} {w w' : World} {wg wl : List Nat} (h : Ext m H [] w m' H' loc' w' wg wl) : Ext m H [] w m' H' loc' w' wg [] :=
  { h with modl := fun i hi => by simp at hi }

theorem eval_vr {fr : List Value} (hf : VRs m fr a.tmps.toList) {x : Operand} (hx : operandOk x = true) : VR m (evalO fr x) (a.eval x) := by
  cases x with
  | tmp t =>
    simp only [evalO, Act.eval]
    have hsz : fr.length = a.tmps.size := by simpa using hf.1
    by_cases ht : t < fr.length
    · have ht' : t < a.tmps.size := hsz ▸ ht
      have := hf.2 t fr[t] a.tmps[t] (List.getElem?_eq_getElem ht) (by simp [ht'])
      simpa [List.getD, ht, ht'] using this
    · have ht' : ¬ t < a.tmps.size := hsz ▸ ht
      have e1 : fr.getD t undef = undef := by simp [List.getD, List.getElem?_eq_none (Nat.le_of_not_lt ht)]
      have e2 : a.tmps.getD t undef = undef := by simp [ht']
      rw [e1, e2]
      exact VR.undef m
  | const v => exact plain_vr m 4 v hx
  | global g => cases hx
  | func f => exact .func rfl (fun i v v' h => by simp at h) rfl (fun i v v' h => by simp at h)

theorem opR_of {fr : List Value} (hf : VRs m fr a.tmps.toList) {o : Oper} (ho : o.op.operands.toList.all operandOk = true) : OpR m (evalO fr) a.eval o := by
  intro x hx
  exact eval_vr hf (List.all_eq_true.1 ho x (by simpa using hx))

theorem wanted_eq {ops : List Oper} {fr : List Value} (hf : VRs m fr a.tmps.toList) (o : Oper) : Region.wanted o (yielded ops.toArray a.tmps) = wantedA ops fr o := by
  unfold Region.wanted wantedA
  cases o.guard with
  | none => rfl
  | some jw =>
    obtain ⟨j, want⟩ := jw
    simp only [yielded, List.getElem?_toArray]
    cases hd : (ops[j]?).bind (·.dst) with
    | none => simp
    | some t =>
      simp only [Option.bind_some]
      cases hv : fr[t]? with
      | none =>
        have : a.tmps[t]? = none := by
          have h1 := hf.1
          rw [List.getElem?_eq_none_iff] at hv
          simp at h1
          simp; omega
        simp [this]
      | some v =>
        obtain ⟨v', hv', hvr⟩ := hf.at hv
        have e : a.tmps[t]? = some v' := by simpa using hv'
        rw [e]
        cases hvr <;> simp

theorem put_vr {fr : List Value} (hf : VRs m fr a.tmps.toList) (dst : Option Tmp) {v v' : Value} (hv : VR m v v') : VRs m (putF fr dst v) (a.put dst v').tmps.toList := by
  cases dst with
  | none => exact hf
  | some d =>
    simp only [putF, Act.put, Array.toList_setIfInBounds]
    exact hf.set d hv

theorem seq_sound (hN : Named P) {X : Xt} (hX : GoodX P X) {O : Orc} (hO : GoodO P O) {esc : Nat → Bool} {ops : List Oper} {Q : Exit → Act → World → Prop} :
    ∀ (l : List Oper) (s s' : St) (m : Mp) (a : Act) (w : World), constsOk l = true → seqOps P X O esc ops l s = some s' → Sim m0 H0 w0 s m a w →
      (∀ m' a' w', Sim m0 H0 w0 s' m' a' w' → Q .normal a' w') → wpList P ops.toArray Q l a w
  | [], s, s', m, a, w, _, h, hs, hQ => by
    simp only [seqOps, Option.some.injEq] at h
    subst h
    exact hQ m a w hs
  | o :: rest, s, s', m, a, w, hc, h, hs, hQ => by
    simp only [constsOk, List.all_cons, Bool.and_eq_true] at hc
    simp only [seqOps] at h
    split at h
    · rename_i s1 h1
      unfold stepO at h1
      simp only [fVal_eq, fPut_eq, fSpine_eq] at h1
      unfold wpList
      rw [wanted_eq hs.fr]
      cases hw : wantedA ops s.fr o with
      | true =>
        rw [hw] at h1
        simp only [cond_true] at h1
        simp only [if_true]
        split at h1
        · rename_i out hout
          injection h1 with h1; subst h1
          refine .inl (evOp_sound hN hX hO (opR_of hs.fr hc.1) hs.ext.rel hout fun v' w' m' ds hds hext hvr => ?_)
          refine seq_sound hN hX hO rest _ s' m' _ w' hc.2 h ⟨(hs.ext.trans hext).nil_wl, ?_, ?_⟩ hQ
          · exact put_vr (a := { a with defers := ds }) (hs.fr.mono hext.le) o.dst hvr
          · cases hd : o.dst <;> exact hds hs.df
        · cases h1
      | false =>
        rw [hw] at h1
        simp only [cond_false, Option.some.injEq] at h1
        subst h1
        simp only [Bool.false_eq_true, if_false]
        refine seq_sound hN hX hO rest _ s' m _ w hc.2 h ⟨hs.ext, ?_, ?_⟩ hQ
        · exact put_vr hs.fr o.dst (VR.undef m)
        · cases hd : o.dst <;> exact hs.df
    · cases h

end
end Go.Am
end

section
/-
  What every step of the machine keeps, with no world in sight.
-/
namespace Go.Am

structure Pur (H loc H' loc' : Hp) (wg wl : List Nat) : Prop where
  len : H.length ≤ H'.length
  lenl : loc.length ≤ loc'.length
  mod : ∀ i, i < H.length → i ∉ wg → H'[i]? = H[i]?
  modl : ∀ i, i < loc.length → i ∉ wl → loc'[i]? = loc[i]?
  kp : ∀ (i : Nat) (b : Blk), H[i]? = some b → ∃ b', H'[i]? = some b' ∧ b'.esz = b.esz ∧ b'.loose = b.loose

theorem Pur.refl (H loc : Hp) : Pur H loc H loc [] [] := ⟨Nat.le_refl _, Nat.le_refl _, fun _ _ _ => rfl, fun _ _ _ => rfl, fun _ b e => ⟨b, e, rfl, rfl⟩⟩
theorem Pur.wide {H loc H' loc' : Hp} {wg wl wg' wl' : List Nat} (h : Pur H loc H' loc' wg wl) (h1 : ∀ i, i ∈ wg → i ∈ wg') (h2 : ∀ i, i ∈ wl → i ∈ wl') : Pur H loc H' loc' wg' wl' :=
  ⟨h.len, h.lenl, fun i hi hn => h.mod i hi (fun e => hn (h1 i e)), fun i hi hn => h.modl i hi (fun e => hn (h2 i e)), h.kp⟩
theorem Pur.trans {H loc H' loc' H'' loc'' : Hp} {a b c d : List Nat} (h : Pur H loc H' loc' a b) (k : Pur H' loc' H'' loc'' c d) : Pur H loc H'' loc'' (a ++ c) (b ++ d) where
  len := Nat.le_trans h.len k.len
  lenl := Nat.le_trans h.lenl k.lenl
  mod := fun i hi hn => by
    simp only [List.mem_append, not_or] at hn
    exact (k.mod i (Nat.lt_of_lt_of_le hi h.len) hn.2).trans (h.mod i hi hn.1)
  modl := fun i hi hn => by
    simp only [List.mem_append, not_or] at hn
    exact (k.modl i (Nat.lt_of_lt_of_le hi h.lenl) hn.2).trans (h.modl i hi hn.1)
  kp := fun i x e => by
    obtain ⟨y, e1, e2, e3⟩ := h.kp i x e
    obtain ⟨z, f1, f2, f3⟩ := k.kp i y e1
    exact ⟨z, f1, f2.trans e2, f3.trans e3⟩

theorem cond_or {α : Type} {c : Bool} {x y : Option α} {r : α} (h : cond c x y = some r) : x = some r ∨ y = some r := by
  cases c with
  | true => exact .inl h
  | false => exact .inr h

theorem getElem?_snoc_lt {α : Type} {l : List α} {x : α} {i : Nat} (h : i < l.length) : (l ++ [x])[i]? = l[i]? := List.getElem?_append_left h

theorem Pur.newG (H loc : Hp) (b : Blk) : Pur H loc (H ++ [b]) loc [] [] :=
  ⟨by simp, Nat.le_refl _, fun i hi _ => getElem?_snoc_lt hi, fun _ _ _ => rfl, fun i x e => ⟨x, by rw [getElem?_snoc_lt (List.getElem?_eq_some_iff.1 e).1]; exact e, rfl, rfl⟩⟩
theorem Pur.newL (H loc : Hp) (b : Blk) : Pur H loc H (loc ++ [b]) [] [] :=
  ⟨Nat.le_refl _, by simp, fun _ _ _ => rfl, fun i hi _ => getElem?_snoc_lt hi, fun _ x e => ⟨x, e, rfl, rfl⟩⟩
theorem Pur.setG (H loc : Hp) {i : Nat} {b b' : Blk} (hb : H[i]? = some b) (h1 : b'.esz = b.esz) (h2 : b'.loose = b.loose) : Pur H loc (H.set i b') loc [i] [] := by
  refine ⟨by simp, Nat.le_refl _, fun j hj hn => ?_, fun _ _ _ => rfl, fun j x e => ?_⟩
  · simp only [List.mem_singleton] at hn
    rw [List.getElem?_set_ne (fun e => hn e.symm)]
  · by_cases hji : i = j
    · subst hji
      rw [hb] at e; injection e with e; subst e
      exact ⟨b', by rw [List.getElem?_set_self (List.getElem?_eq_some_iff.1 hb).1], h1, h2⟩
    · exact ⟨x, by rw [List.getElem?_set_ne hji]; exact e, rfl, rfl⟩
theorem Pur.setL (H loc : Hp) (i : Nat) (b' : Blk) : Pur H loc H (loc.set i b') [] [i] := by
  refine ⟨Nat.le_refl _, by simp, fun _ _ _ => rfl, fun j hj hn => ?_, fun _ x e => ⟨x, e, rfl, rfl⟩⟩
  simp only [List.mem_singleton] at hn
  rw [List.getElem?_set_ne (fun e => hn e.symm)]

theorem writeCells_pure {H loc H' loc' : Hp} {a : Addr} {vs : List Value} {wg wl : List Nat} (h : writeCells H loc a vs = some (H', loc', wg, wl)) : Pur H loc H' loc' wg wl := by
  unfold writeCells at h
  simp only [fSpine_eq, fSet_eq] at h
  split at h
  · split at h
    · rename_i b hb
      revert h
      cases (b.live && decide (a.off + vs.length ≤ b.cells.length) && vs.all cellOk) with
      | false => intro h; cases h
      | true =>
        intro h
        simp only [cond_true, Option.some.injEq, Prod.mk.injEq] at h
        obtain ⟨rfl, rfl, rfl, rfl⟩ := h
        exact Pur.setG H loc hb rfl rfl
    · cases h
  · split at h
    · rename_i b hb
      revert h
      cases (b.live && decide (a.off + vs.length ≤ b.cells.length) && vs.all (·.oneCell')) with
      | false => intro h; cases h
      | true =>
        intro h
        simp only [cond_true, Option.some.injEq, Prod.mk.injEq] at h
        obtain ⟨rfl, rfl, rfl, rfl⟩ := h
        exact Pur.setL H loc _ _
    · cases h
  · cases h

theorem grown_pure {H loc : Hp} {elem : TypeId} {esz need : Nat} {cells : List Value} {wg : List Nat} {out : Out} (h : grown H loc elem esz need cells wg = some out) : Pur H loc out.H out.loc out.wg out.wl := by
  unfold grown at h
  simp only [fSpine_eq] at h
  revert h
  cases cells.all cellOk with
  | false => intro h; cases h
  | true =>
    intro h
    simp only [cond_true, Option.some.injEq] at h
    subst h
    exact (Pur.newG H loc _).wide (by simp) (by simp)

theorem append_pure {P : Program} {H loc : Hp} {tS tX : TypeId} {s x : Value} {out : Out} (h : evAppend P H loc tS tX s x = some out) : Pur H loc out.H out.loc out.wg out.wl := by
  unfold evAppend at h
  simp only [fSpine_eq] at h
  split at h
  · rename_i elem dX base sLen sCap _ _
    rcases cond_or h with h | h
    · cases h
    split at h
    · cases h
    · rename_i ti hti
      split at h
      · rename_i z n hz hn
        rcases cond_or h with h | h
        · cases h
        split at h
        · cases h
        · rename_i new hnew
          rcases cond_or h with h | h
          · split at h
            · rcases cond_or h with h | h
              · simp only [Option.some.injEq] at h; subst h; exact Pur.refl H loc
              · cases h
            · rcases cond_or h with h | h
              · simp only [Option.some.injEq] at h; subst h; exact Pur.refl H loc
              · split at h
                · rename_i hw
                  injection h with h; subst h
                  exact writeCells_pure hw
                · cases h
          · rcases cond_or h with h | h
            · split at h
              · rcases cond_or h with h | h
                · exact grown_pure h
                · cases h
              · rename_i a
                split at h
                · split at h
                  · exact grown_pure h
                  · cases h
                · cases h
                · split at h
                  · rename_i b old hb hold
                    rcases cond_or h with h | h
                    · exact grown_pure h
                    · rcases cond_or h with h | h
                      · simp only [Option.some.injEq] at h
                        subst h
                        exact ((Pur.setG H loc hb (b' := { b with cells := [], live := false }) rfl rfl).trans (Pur.newG _ loc _)).wide (by simp) (by simp)
                      · cases h
                  · cases h
            · cases h
      · cases h
  · cases h

theorem copy_pure {P : Program} {H loc : Hp} {t0 : TypeId} {s x : Value} {out : Out} (h : evCopy P H loc t0 s x = some out) : Pur H loc out.H out.loc out.wg out.wl := by
  unfold evCopy at h
  split at h
  · split at h
    · cases h
    · split at h
      · cases h
      · split at h
        · injection h with h; subst h; exact Pur.refl H loc
        · rcases cond_or h with h | h
          · injection h with h; subst h; exact Pur.refl H loc
          · rcases cond_or h with h | h
            · split at h
              · rename_i hw
                injection h with h; subst h
                exact writeCells_pure hw
              · cases h
            · cases h
  · cases h

/-- What an oracle keeps. -/
def PureO (O : Orc) : Prop := ∀ f args H v H' md, O f args H = some (v, H', md) → Pur H [] H' [] md []

theorem evOp_pure {P : Program} {X : Xt} {O : Orc} (hO : PureO O) {esc : Nat → Bool} {o : Oper} {ρ : Operand → Value} {H loc : Hp} {out : Out} (h : evOp P X O esc o ρ H loc = some out) :
    Pur H loc out.H out.loc out.wg out.wl := by
  unfold evOp at h
  simp only [fVals_eq, fSpine_eq] at h
  split at h
  · split at h
    · injection h with h; subst h; exact Pur.refl H loc
    · cases h
  · split at h
    · split at h
      · injection h with h; subst h; exact Pur.refl H loc
      · cases h
    · cases h
  · split at h
    · rename_i b k hb
      rcases cond_or h with h | h
      · rcases cond_or h with h | h
        · injection h with h; subst h; exact Pur.newG H loc _
        · cases h
      · injection h with h; subst h; exact Pur.newL H loc _
    · cases h
  · unfold evEff at h
    split at h
    · unfold evRange at h
      simp only [fSpine_eq] at h
      split at h
      · injection h with h; subst h; exact Pur.newL H loc _
      · cases h
    · unfold evNext at h
      simp only [fNat_eq, fSet_eq] at h
      split at h
      · split at h
        · rcases cond_or h with h | h
          · cases h
          · split at h
            · rcases cond_or h with h | h
              · injection h with h; subst h; exact Pur.setL H loc _ _
              · injection h with h; subst h; exact Pur.refl H loc
            · cases h
        · cases h
      · cases h
    · split at h
      · rename_i hs
        injection h with h; subst h
        unfold evStore at hs
        split at hs
        · split at hs
          · rcases cond_or hs with hs | hs
            · exact writeCells_pure hs
            · cases hs
          · cases hs
        · cases hs
      · cases h
    · exact append_pure h
    · exact copy_pure h
    · unfold evCall at h
      split at h
      · rcases cond_or h with h | h
        · split at h
          · rename_i v H' md hv
            injection h with h; subst h
            have := hO _ _ _ _ _ _ hv
            exact ⟨this.len, Nat.le_refl _, this.mod, fun _ _ _ => rfl, this.kp⟩
          · cases h
        · split at h
          · rcases cond_or h with h | h
            · split at h
              · rcases cond_or h with h | h
                · injection h with h; subst h; exact Pur.refl H loc
                · cases h
              · cases h
            · cases h
          · cases h
      · cases h
    · unfold evInvoke at h
      split at h
      · split at h
        · rcases cond_or h with h | h
          · split at h
            · rename_i v H' md hv
              injection h with h; subst h
              have := hO _ _ _ _ _ _ hv
              exact ⟨this.len, Nat.le_refl _, this.mod, fun _ _ _ => rfl, this.kp⟩
            · cases h
          · cases h
        · cases h
      · cases h
    · split at h
      · rename_i hm
        injection h with h; subst h
        unfold evMapUpdate at hm
        split at hm
        · split at hm
          · rename_i hb
            rcases cond_or hm with hm | hm
            · cases hm
            · split at hm
              · cases hm
              · split at hm
                · simp only [fSpine_eq, fSet_eq, Option.some.injEq, Prod.mk.injEq] at hm
                  obtain ⟨rfl, rfl⟩ := hm
                  exact Pur.setG H loc hb rfl rfl
                · cases hm
          · cases hm
        · cases hm
      · cases h
    · split at h
      · rename_i hm
        injection h with h; subst h
        unfold evMapEntry at hm
        split at hm
        · split at hm
          · rename_i hb
            rcases cond_or hm with hm | hm
            · cases hm
            · split at hm
              · cases hm
              · split at hm
                · split at hm
                  · rcases cond_or hm with hm | hm
                    · simp only [fSpine_eq, fSet_eq, Option.some.injEq, Prod.mk.injEq] at hm
                      obtain ⟨rfl, rfl, rfl⟩ := hm
                      exact Pur.setG H loc hb rfl rfl
                    · cases hm
                  · cases hm
                · split at hm
                  · rcases cond_or hm with hm | hm
                    · simp only [fSpine_eq, fSet_eq, Option.some.injEq, Prod.mk.injEq] at hm
                      obtain ⟨rfl, rfl, rfl⟩ := hm
                      exact Pur.setG H loc hb rfl rfl
                    · cases hm
                  · cases hm
                · cases hm
          · cases hm
        · cases hm
      · cases h
    · split at h
      · rename_i hm
        injection h with h; subst h
        unfold evEntryStore at hm
        split at hm
        · split at hm
          · rename_i hb
            rcases cond_or hm with hm | hm
            · cases hm
            · split at hm
              · cases hm
              · rcases cond_or hm with hm | hm
                · simp only [fSpine_eq, fSet_eq, Option.some.injEq, Prod.mk.injEq] at hm
                  obtain ⟨rfl, rfl⟩ := hm
                  exact Pur.setG H loc hb rfl rfl
                · cases hm
          · cases hm
        · cases hm
      · cases h
    · split at h
      · split at h
        · injection h with h; subst h; exact Pur.refl H loc
        · cases h
      · cases h
    · split at h
      · rcases cond_or h with h | h
        · injection h with h; subst h; exact Pur.refl H loc
        · cases h
      · cases h
    · cases h
  · split at h
    · injection h with h; subst h; exact Pur.refl H loc
    · cases h
  · split at h
    · simp only [Option.some.injEq] at h
      subst h
      exact Pur.newG H loc _
    · cases h

end Go.Am
end

