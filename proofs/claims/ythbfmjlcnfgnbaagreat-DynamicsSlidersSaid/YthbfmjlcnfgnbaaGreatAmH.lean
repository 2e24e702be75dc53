/-
  copy; the calls; every operation of the machine.
-/
import Derived.Test.YthbfmjlcnfgnbaaGreatAmG
namespace Go.Am

def evCopy (P : Program) (H loc : Hp) (tD : TypeId) (d x : Value) : Option Out :=
  match P.underlying tD, d, srcLen x with
  | some (.slice elem), .slice base dLen _, some sl =>
    match P.info? elem with
    | none => none
    | some ti =>
      match srcCells H loc ti.size (Nat.min sl dLen) x with
      | none => none
      | some cells =>
        match base with
        | none => some ⟨.int .i64 (Nat.min sl dLen : Nat), H, loc, [], []⟩
        | some a =>
          bif cells.length == 0 then some ⟨.int .i64 (Nat.min sl dLen : Nat), H, loc, [], []⟩ else
          bif decide (0 < dLen) then
            match writeCells H loc a cells with
            | some (H', loc', wg, wl) => some ⟨.int .i64 (Nat.min sl dLen : Nat), H', loc', wg, wl⟩
            | none => none
          else none
  | _, _, _ => none

/-- Functions without a body that the model answers by a row of its own. -/
abbrev Xt := FuncId → Option (Array Value → Sem Value)

abbrev Orc := FuncId → List Value → Hp → Option (Value × Hp × List Nat)

inductive Kind where
  | inert | alloc | load | eff

def kindOf : Op → Kind
  | .range _ _ => .eff
  | .next _ _ => .eff
  | .alloc _ | .box _ _ | .buildSlice _ _ _ | .makeSlice _ _ _ => .alloc
  | .load _ _ => .load
  | .store _ _ _ => .eff
  | .call { callee := .builtin .append, .. } => .eff
  | .call { callee := .builtin .copy, .. } => .eff
  | .call { callee := .value _, .. } => .eff
  | _ => .inert

def hasBody (P : Program) (f : FuncId) : Bool :=
  match P.funcs[f]? with
  | some fn => fn.body.isSome
  | none => false

def evCall (P : Program) (X : Xt) (O : Orc) (H loc : Hp) (fv : Value) (args : List Value) : Option Out :=
  match fv with
  | .func (.func f) first captured =>
    bif hasBody P f && (first.toList ++ args ++ captured.toList).all noLoc then
      match O f (first.toList ++ args ++ captured.toList) H with
      | some (v, H', md) => some ⟨v, H', loc, md, []⟩
      | none => none
    else
      match X f with
      | some e => bif !hasBody P f && (first.toList ++ args ++ captured.toList).all plainV then
          match runPure P (e (first.toList ++ args ++ captured.toList).toArray) with
          | some v => bif plainV v then some ⟨v, H, loc, [], []⟩ else none
          | none => none
        else none
      | none => none
  | _ => none

/-- A range over a string: its iterator is a local block. -/
def evRange (P : Program) (H loc : Hp) (t : TypeId) (x : Value) : Option Out :=
  match P.underlying t, x with
  | some .string, .string s => fSpine (loc ++ [⟨[.string s, .int .i64 (0 : Nat)], 0, 0, false, false⟩]) fun loc' => some ⟨.pointer (some ⟨loc.length, 0, some 0⟩), H, loc', [], []⟩
  | _, _ => none

def evNext (H loc : Hp) (x : Value) : Option Out :=
  match x with
  | .pointer (some ⟨i, 0, some 0⟩) =>
    match loc[i]? with
    | some b => bif b.live then none else
      match b.cells with
      | [.string s, .int .i64 (.ofNat pos)] =>
        bif decide (pos < s.size) then
          fNat (pos + (Utf8.decode s pos).2) fun np => fSet loc i { b with cells := [.string s, .int .i64 (np : Int)] } fun loc' => some ⟨.tuple ⟨[.bool true, .int .i64 (pos : Int), .int .i32 ((Utf8.decode s pos).1 : Int)]⟩, H, loc', [], [i]⟩
        else some ⟨.tuple ⟨[.bool false]⟩, H, loc, [], []⟩
      | _ => none
    | none => none
  | _ => none

def evEff (P : Program) (X : Xt) (O : Orc) (H loc : Hp) (op : Op) (ρ : Operand → Value) : Option Out :=
  match op with
  | .range t x => evRange P H loc t (ρ x)
  | .next x true => evNext H loc (ρ x)
  | .store t a x => match evStore P H loc t (ρ a) (ρ x) with
    | some (H', loc', wg, wl) => some ⟨undef, H', loc', wg, wl⟩
    | none => none
  | .call { callee := .builtin .append, args := ⟨[s, x]⟩, argTypes := ⟨[tS, tX]⟩ } => evAppend P H loc tS tX (ρ s) (ρ x)
  | .call { callee := .builtin .copy, args := ⟨[s, x]⟩, argTypes := ⟨tS :: _⟩ } => evCopy P H loc tS (ρ s) (ρ x)
  | .call { callee := .value f, args := as, .. } => evCall P X O H loc (ρ f) (as.toList.map ρ)
  | _ => none

def evOp (P : Program) (X : Xt) (O : Orc) (esc : Nat → Bool) (o : Oper) (ρ : Operand → Value) (H loc : Hp) : Option Out :=
  match kindOf o.op with
  | .inert => match evInert P H o ρ with
    | some v => some ⟨v, H, loc, [], []⟩
    | none => none
  | .load => match o.op with
    | .load t x => match evLoad P H loc t (ρ x) with
      | some v => some ⟨v, H, loc, [], []⟩
      | none => none
    | _ => none
  | .alloc => match evAlloc P o.op ρ with
    | some (b, k) =>
      bif (match o.dst with | some d => esc d | none => true) then
        bif b.cells.all noLoc then fVals b.cells (fun cs => fSpine (H ++ [{ b with cells := cs }]) fun H' => some ⟨nameV k ⟨H.length, 0, none⟩, H', loc, [], []⟩) else none
      else fVals b.cells (fun cs => fSpine (loc ++ [{ b with cells := cs }]) fun loc' => some ⟨nameV k ⟨loc.length, 0, some 0⟩, H, loc', [], []⟩)
    | none => none
  | .eff => evEff P X O H loc o.op ρ

def noLb : Nat → Option Nat := fun _ => none

/-- What an oracle's answer promises of the call itself. -/
def GoodAt (P : Program) (f : FuncId) (args : List Value) (H : Hp) (v : Value) (H' : Hp) (md : List Nat) : Prop :=
  ∀ (m : Mp) (w : World) (args' : List Value), m.lb = noLb → Rel m H [] w → VRs m args args' →
    Calls P f args'.toArray w fun e w' => ∃ v' m', e = .returned v' ∧ VR m' v v' ∧ Ext m H [] w m' H' [] w' md [] ∧ m'.lb = noLb

def GoodO (P : Program) (O : Orc) : Prop := ∀ f args H v H' md, O f args H = some (v, H', md) → GoodAt P f args H v H' md

def Named (P : Program) : Prop := ∀ (f : Nat) (fn : Func), P.funcs[f]? = some fn → (fn.name == "runtime.NumGoroutine") = false

def GoodX (P : Program) (X : Xt) : Prop := ∀ f e, X f = some e → ∃ fn, P.funcs[f]? = some fn ∧ fn.body.isNone = true ∧ Extern.findNext fn = none ∧ Extern.find fn = some e

section
variable {P : Program} {m : Mp} {H loc : Hp} {w : World}

theorem copy_sound (hR : Rel m H loc w) {tX : List TypeId} {t0 ty : TypeId} {s x s' x' : Value} (hs : VR m s s') (hx : VR m x x') {out : Out} (h : evCopy P H loc t0 s x = some out) :
    ∃ v' w', (Builtin.copy_ ⟨t0 :: tX⟩ ty #[s', x']).run P w = .ok v' w' ∧ Ext m H loc w m out.H out.loc w' out.wg out.wl ∧ VR m out.v v' := by
  unfold evCopy at h
  split at h
  · rename_i elem base dLen dCap sl hS hsl
    split at h
    · cases h
    · rename_i ti hti
      split at h
      · cases h
      · rename_i cells hcells
        have hlen := srcLen_sound (P := P) hx hsl w
        have hnl : ∀ a l c, x = .slice a l c → Nat.min sl dLen ≤ l := by
          intro a l c e; subst e; simp [srcLen] at hsl; subst hsl; exact Nat.min_le_left _ _
        obtain ⟨new', hf, hvn⟩ := srcCells_sound (P := P) hR hx hcells hnl
        have hbase : ∃ base' c', s' = .slice base' dLen c' ∧ (base = none → base' = none) ∧ (∀ a, base = some a → ∃ a', base' = some a' ∧ SR m a dLen dCap a' c') := by
          cases base with
          | none => cases hs; exact ⟨_, _, rfl, (fun _ => rfl), (fun a e => by cases e)⟩
          | some a =>
            obtain ⟨a', c', rfl, hsr⟩ := vr_slice hs
            exact ⟨_, _, rfl, (fun e => by cases e), (fun a0 e => by injection e with e; subst e; exact ⟨a', rfl, hsr⟩)⟩
        obtain ⟨base', c', rfl, hb1, hb2⟩ := hbase
        cases base with
        | none =>
          simp only [Option.some.injEq] at h
          subst h
          rw [hb1 rfl]
          refine ⟨_, w, ?_, Ext.refl hR, .int _ _⟩
          simp [Builtin.copy_, run_underlying hS, hlen, run_sizeOf' hti, hf, goInt]
        | some a =>
          obtain ⟨a', rfl, hsr⟩ := hb2 a rfl
          simp only at h
          cases h0 : (cells.length == 0) with
          | true =>
            simp only [h0, cond_true, Option.some.injEq] at h
            subst h
            have e0 : cells = [] := List.eq_nil_of_length_eq_zero (by simpa using h0)
            subst e0
            have e1 : new' = [] := List.eq_nil_of_length_eq_zero hvn.1.symm
            subst e1
            refine ⟨_, w, ?_, Ext.refl hR, .int _ _⟩
            simp [Builtin.copy_, run_underlying hS, hlen, run_sizeOf' hti, hf, storeCells, goInt]
          | false =>
            simp only [h0, cond_false] at h
            cases hd : decide (0 < dLen) with
            | false => simp [hd] at h
            | true =>
              simp only [hd, cond_true] at h
              have hd' : 0 < dLen := by simpa using hd
              split at h
              · rename_i H' loc' wg wl hw
                injection h with h; subst h
                rcases hsr with ⟨har, _⟩ | ⟨e, _⟩
                · obtain ⟨w', hrun, hext⟩ := write_sound (P := P) hR har hvn hw
                  refine ⟨_, w', ?_, hext, .int _ _⟩
                  simp [Builtin.copy_, run_underlying hS, hlen, run_sizeOf' hti, hf, hrun, goInt]
                · omega
              · cases h
  · cases h

/-- Behind a call: the caller's locals lie as they lay. -/
theorem ext_call (hR : Rel m H loc w) {m' : Mp} {H' : Hp} {w' : World} {md : List Nat} (h : Ext m.noL H [] w m' H' [] w' md []) (hl : m'.lb = noLb) :
    Ext m H loc w { m' with lb := m.lb } H' loc w' md [] ∧ Le m' { m' with lb := m.lb } := by
  have hle : Le m { m' with lb := m.lb } := ⟨h.le.gb, fun _ _ e => e, h.le.loose, h.le.esz, h.le.tot⟩
  have hle2 : Le m' { m' with lb := m.lb } := ⟨fun _ _ e => e, (fun i g e => by rw [hl] at e; cases e), fun _ _ _ => rfl, fun _ _ _ => rfl, fun _ _ _ => rfl⟩
  refine ⟨⟨hle, ⟨fun i g e => ?_, fun i g e => ?_, fun i j g bi bj e e' => h.rel.ginj i j g bi bj e e', hR.linj, ?_⟩, fun i g e => h.img i g e, fun i g e => .inl e, fun i g e => h.dom i g e, fun i g e => .inl e,
    h.os, h.tape, h.output, h.size, (fun g hg hn hn2 => h.frame g hg hn (fun i e => by cases e)), fun i hi hn => h.un i hi hn, fun _ _ _ => rfl, h.mod, fun _ _ _ => rfl, h.len, Nat.le_refl _, h.kp, h.cmod⟩, hle2⟩
  · obtain ⟨h1, b, h2, h3⟩ := h.rel.glob i g e
    exact ⟨h1, b, h2, h3.lo, h3.ez, h3.blk⟩
  · obtain ⟨h1, b, h2, h3⟩ := hR.locs i g e
    exact ⟨Nat.lt_of_lt_of_le h1 h.size, b, h2, h3.mono hle (h.frame g h1 (fun j e' => hR.disj j i g e' e) (fun j e' => by cases e'))⟩
  · intro i j g e e'
    rcases h.img i g e with ⟨k, hk⟩ | hk
    · exact hR.disj k j g hk e'
    · have := (hR.locs j g e').1; omega

theorem rel_noL (hR : Rel m H loc w) : Rel m.noL H [] w := by
  refine ⟨fun i g e => ?_, (fun i g e => by cases e), hR.ginj, (fun i j g e => by cases e), (fun i j g _ e => by cases e)⟩
  obtain ⟨h1, b, h2, h3⟩ := hR.glob i g e
  exact ⟨h1, b, h2, h3.lo, h3.ez, h3.blk⟩

theorem esz_of (hR : Rel m H loc w) : EszR m H := fun i g b hi hb => by
  obtain ⟨_, b0, hb0, hG⟩ := hR.glob i g hi
  rw [hb] at hb0; injection hb0 with hb0; subst hb0
  exact ⟨hG.ez, hG.lo⟩

theorem run_call {fn : Func} {f : FuncId} {args : Array Value} (hf : P.funcs[f]? = some fn) (hb : fn.body.isSome = true) (hn : (fn.name == "runtime.NumGoroutine") = false) (w : World) :
    (callFunc f args).run P w = .ok (.enter f args) w := by
  have hb' : ¬ fn.body = none := by intro e; rw [e] at hb; cases hb
  have hn' : ¬ fn.name = "runtime.NumGoroutine" := by simpa using hn
  simp [callFunc, hf, hn', hb']

theorem evOp_sound (hN : Named P) {X : Xt} (hX : GoodX P X) {O : Orc} (hO : GoodO P O) {esc : Nat → Bool} {o : Oper} {ρ : Operand → Value} {a : Act} (hρ : OpR m ρ a.eval o) (hR : Rel m H loc w) {out : Out} (h : evOp P X O esc o ρ H loc = some out)
    {K : Act → World → Prop} {Q : Exit → Act → World → Prop}
    (hK : ∀ v' w' m', Ext m H loc w m' out.H out.loc w' out.wg out.wl → VR m' out.v v' → K (a.put o.dst v') w') : o.wp P a w K Q := by
  unfold evOp at h
  simp only [fVals_eq, fSpine_eq] at h
  split at h
  · split at h
    · rename_i v hv
      injection h with h; subst h
      obtain ⟨v', hrun, hvr⟩ := evInert_sound (P := P) (esz_of hR) hρ hv w
      unfold Oper.wp
      rw [hrun]
      exact hK v' w m (Ext.refl hR) hvr
    · cases h
  · split at h
    · rename_i t x ho
      split at h
      · rename_i v hv
        injection h with h; subst h
        obtain ⟨v', hrun, hvr⟩ := load_sound (P := P) hR (hρ x (by simp [ho, Op.operands])) hv
        unfold Oper.wp execOp
        simp only [ho, Sem.run_bind, hrun, Result.andThen_ok, Sem.run_pure]
        exact hK v' w m (Ext.refl hR) hvr
      · cases h
    · cases h
  · split at h
    · rename_i b k hb
      obtain ⟨cs, hrun, hvr, hlive, hloose⟩ := alloc_run (P := P) hρ hb w
      unfold Oper.wp
      rw [hrun]
      cases he : (match o.dst with | some d => esc d | none => true) with
      | true =>
        rw [he] at h
        simp only [cond_true] at h
        cases hn : b.cells.all noLoc with
        | false => rw [hn] at h; cases h
        | true =>
          rw [hn] at h
          simp only [cond_true, Option.some.injEq] at h
          subst h
          have hvn := vrs_noLoc hn hvr
          have hext := ext_newG hR b cs (by have := hvr.1; simp at this; omega) (by
            have hl : b.cells.length = cs.toList.length := hvr.1
            rw [hl, List.take_length]; exact hvn) (fun _ => by have := hvr.1; simp at this; omega)
          exact hK _ _ _ hext (nameV_vr (m := m.addG H.length w.heap.size b.loose b.esz cs.size) (a := ⟨H.length, 0, none⟩) (a' := ⟨w.heap.size, 0, none⟩) (.inl ⟨rfl, (by simp [Mp.addG] : (m.addG H.length w.heap.size b.loose b.esz cs.size).gb H.length = some w.heap.size), rfl, rfl⟩) k)
      | false =>
        rw [he] at h
        simp only [cond_false, Option.some.injEq] at h
        subst h
        exact hK _ _ _ (ext_newL hR b cs hlive hvr) (nameV_vr (m := m.addL loc.length w.heap.size) (a := ⟨loc.length, 0, some 0⟩) (a' := ⟨w.heap.size, 0, none⟩) (.inr ⟨rfl, (by simp [Mp.addL] : (m.addL loc.length w.heap.size).lb loc.length = some w.heap.size), rfl, rfl⟩) k)
    · cases h
  · unfold evEff at h
    split at h
    · rename_i t x ho
      have hx := hρ x (by simp [ho, Op.operands])
      unfold evRange at h
      simp only [fSpine_eq] at h
      split at h
      · rename_i s hu hs
        injection h with h; subst h
        rw [hs] at hx
        have hx' : a.eval x = .string s := by generalize a.eval x = y at hx; cases hx; rfl
        unfold Oper.wp execOp
        simp only [ho, Instr.range, Sem.run_bind, run_underlying hu, hx', Result.andThen_ok, Sem.run_pure, run_newObj_alloc]
        refine hK _ _ _ (ext_newLO hR ⟨[.string s, .int .i64 (0 : Nat)], 0, 0, false, false⟩ (.stringIter s 0) ⟨(fun e => by cases e), (fun _ => ⟨s, 0, rfl, heap_alloc_new w _⟩)⟩) ?_
        exact AR.vr (.inr ⟨rfl, by simp [Mp.addL], rfl, rfl⟩)
      · cases h
    · rename_i x ho
      have hx := hρ x (by simp [ho, Op.operands])
      unfold evNext at h
      simp only [fNat_eq, fSet_eq] at h
      split at h
      · rename_i i hi
        rw [hi] at hx
        obtain ⟨a', hx', har⟩ := vr_ptr hx
        obtain ⟨ab, ao, asp⟩ := a'
        rcases har with ⟨e, _⟩ | ⟨_, hlb, hoff, hsp⟩
        · cases e
        · simp only at hlb hoff hsp
          subst hoff; subst hsp
          split at h
          · rename_i b hb
            cases hl : b.live with
            | true => rw [hl] at h; cases h
            | false =>
              rw [hl] at h
              simp only [cond_false] at h
              have hbl : b = { b with live := false } := by rw [← hl]
              obtain ⟨hg, b0, hb0, hL⟩ := hR.locs _ _ hlb
              rw [hb] at hb0; injection hb0 with hb0; subst hb0
              obtain ⟨s0, pos0, hc0, hw0⟩ := hL.it hl
              split at h
              · rename_i s pos hcells
                rw [hcells] at hc0
                simp only [List.cons.injEq, Value.string.injEq, Value.int.injEq, true_and, and_true] at hc0
                obtain ⟨e1, e2⟩ := hc0
                subst e1
                have e3 : pos = pos0 := Int.ofNat.inj e2
                subst e3
                have hget : (getObj ab).run P w = .ok (.stringIter s pos) w := by simp [getObj, Sem.run, hw0]
                unfold Oper.wp execOp
                simp only [ho, Instr.next, Sem.run_bind, hx', hget, Result.andThen_ok]
                cases hlt : decide (pos < s.size) with
                | true =>
                  rw [hlt] at h
                  simp only [cond_true, Option.some.injEq] at h
                  subst h
                  rw [if_pos (by simpa using hlt)]
                  have hset : (setObj ab (.stringIter s (pos + (Utf8.decode s pos).2))).run P w = .ok () { w with heap := w.heap.setIfInBounds ab (.stringIter s (pos + (Utf8.decode s pos).2)) } := by simp [setObj, Sem.run, hw0]
                  simp only [Sem.run_bind, hset, Result.andThen_ok, Sem.run_pure, goInt]
                  refine hK _ _ m (ext_turnL (w' := { w with heap := w.heap.setIfInBounds ab (.stringIter s (pos + (Utf8.decode s pos).2)) }) hR hlb hb (b' := { b with cells := [.string s, .int .i64 ((pos + (Utf8.decode s pos).2 : Nat) : Int)], live := false }) (fun k hk => by simp [Array.getElem?_setIfInBounds_ne (Ne.symm hk)]) (by simp) rfl rfl rfl
                    ⟨(fun e => by cases e), (fun _ => ⟨s, pos + (Utf8.decode s pos).2, rfl, by simp [hg]⟩)⟩) ?_
                  exact plain_vr m 4 _ rfl
                | false =>
                  rw [hlt] at h
                  simp only [cond_false, Option.some.injEq] at h
                  subst h
                  rw [if_neg (by simpa using hlt)]
                  simp only [Sem.run_pure, Result.andThen_ok]
                  exact hK _ _ m (Ext.refl hR) (plain_vr m 4 _ rfl)
              · cases h
          · cases h
      · cases h
    · rename_i t x y ho
      split at h
      · rename_i H' loc' wg wl hst
        injection h with h; subst h
        obtain ⟨w', hrun, hext⟩ := store_sound (P := P) hR (hρ x (by simp [ho, Op.operands])) (hρ y (by simp [ho, Op.operands])) hst
        unfold Oper.wp execOp
        simp only [ho, Sem.run_bind, hrun, Result.andThen_ok, Sem.run_pure]
        exact hK undef w' m hext (VR.undef m)
      · cases h
    · rename_i s x tS tX ho
      obtain ⟨v', w', m', hrun, hext, hvr⟩ := append_sound (P := P) (ty := o.type) hR (hρ s (by simp [ho, Op.operands, Call.operands])) (hρ x (by simp [ho, Op.operands, Call.operands])) h
      unfold Oper.wp execOp
      simp only [ho, resolve, invoke, builtin, Sem.run_bind, Sem.run_pure, Result.andThen_ok, List.map_toArray, List.map_cons, List.map_nil, hrun]
      exact hK v' w' m' hext hvr
    · rename_i s x tS tR ho
      obtain ⟨v', w', hrun, hext, hvr⟩ := copy_sound (P := P) (ty := o.type) hR (hρ s (by simp [ho, Op.operands, Call.operands])) (hρ x (by simp [ho, Op.operands, Call.operands])) (tX := tR) h
      unfold Oper.wp execOp
      simp only [ho, resolve, invoke, builtin, Sem.run_bind, Sem.run_pure, Result.andThen_ok, List.map_toArray, List.map_cons, List.map_nil, hrun]
      exact hK v' w' m hext hvr
    · rename_i f as tys ho
      unfold evCall at h
      split at h
      · rename_i fid first captured hfv
        cases hc : (hasBody P fid && (first.toList ++ as.toList.map ρ ++ captured.toList).all noLoc) with
        | false =>
          rw [hc] at h
          simp only [cond_false] at h
          split at h
          · rename_i e he
            cases hp : (!hasBody P fid && (first.toList ++ as.toList.map ρ ++ captured.toList).all plainV) with
            | false => rw [hp] at h; cases h
            | true =>
              rw [hp] at h
              simp only [cond_true] at h
              simp only [Bool.and_eq_true] at hp
              split at h
              · rename_i v hv
                cases hpv : plainV v with
                | false => rw [hpv] at h; cases h
                | true =>
                  rw [hpv] at h
                  simp only [cond_true, Option.some.injEq] at h
                  subst h
                  have hf := hρ f (by simp [ho, Op.operands, Call.operands])
                  rw [hfv] at hf
                  have hargs : VRs m (as.toList.map ρ) (as.toList.map a.eval) := by
                    have key : ∀ (l : List Operand), (∀ x ∈ l, VR m (ρ x) (a.eval x)) → VRs m (l.map ρ) (l.map a.eval) := by
                      intro l hl
                      induction l with
                      | nil => exact VRs.nil m
                      | cons x l ih => exact VRs.cons (hl x (by simp)) (ih fun y hy => hl y (by simp [hy]))
                    exact key _ fun x hx => hρ x (by simp [ho, Op.operands, Call.operands]; exact .inr (by simpa using hx))
                  cases hfv' : a.eval f with
                  | func fn first' captured' =>
                    rw [hfv'] at hf
                    cases hf with
                    | func h1 h2 h3 h4 =>
                      rename_i fs fs' cs cs'
                      have hall : VRs m (fs ++ as.toList.map ρ ++ cs) (fs' ++ as.toList.map a.eval ++ cs') := (VRs.append ⟨h1, h2⟩ hargs).append ⟨h3, h4⟩
                      have heq : fs ++ as.toList.map ρ ++ cs = fs' ++ as.toList.map a.eval ++ cs' :=
                        list_eq_of hall.1 fun i x y hx hy => plain_eq 4 x y (List.all_eq_true.1 hp.2 x (List.mem_of_getElem? hx)) (hall.2 i x y hx hy)
                      obtain ⟨fnn, hfn, hbn, hnx, hfd⟩ := hX _ _ he
                      have hrun := run_callFunc_extern hfn (hN _ _ hfn) hbn hnx hfd (fs' ++ as.toList.map a.eval ++ cs').toArray w
                      simp only at hv
                      rw [heq] at hv
                      rw [runPure_run _ _ w hv] at hrun
                      unfold Oper.wp execOp
                      have e' : (⟨fs'⟩ ++ as.map a.eval ++ ⟨cs'⟩ : Array Value) = (fs' ++ as.toList.map a.eval ++ cs').toArray := by apply Array.ext'; simp
                      simp only [ho, resolve, hfv', Deferred.ofValue, Sem.run_bind, Sem.run_pure, Result.andThen_ok, invoke, e', hrun]
                      exact hK v w m (Ext.refl hR) (plain_vr m 4 v hpv)
                  | _ => rw [hfv'] at hf; cases hf
              · cases h
          · cases h
        | true =>
          rw [hc] at h
          simp only [cond_true] at h
          simp only [Bool.and_eq_true] at hc
          obtain ⟨hbody, hnoloc⟩ := hc
          split at h
          · rename_i v H' md hor
            injection h with h; subst h
            have hf := hρ f (by simp [ho, Op.operands, Call.operands])
            rw [hfv] at hf
            have hargs : VRs m (as.toList.map ρ) (as.toList.map a.eval) := by
              have key : ∀ (l : List Operand), (∀ x ∈ l, VR m (ρ x) (a.eval x)) → VRs m (l.map ρ) (l.map a.eval) := by
                intro l hl
                induction l with
                | nil => exact VRs.nil m
                | cons x l ih => exact VRs.cons (hl x (by simp)) (ih fun y hy => hl y (by simp [hy]))
              exact key _ fun x hx => hρ x (by simp [ho, Op.operands, Call.operands]; exact .inr (by simpa using hx))
            cases hfv' : a.eval f with
            | func fn first' captured' =>
              rw [hfv'] at hf
              cases hf with
              | func h1 h2 h3 h4 =>
                rename_i fs fs' cs cs'
                have hall : VRs m (fs ++ as.toList.map ρ ++ cs) (fs' ++ as.toList.map a.eval ++ cs') := (VRs.append ⟨h1, h2⟩ hargs).append ⟨h3, h4⟩
                have hgood := hO _ _ _ _ _ _ hor m.noL w _ rfl (rel_noL hR) (vrs_noLoc hnoloc hall)
                unfold hasBody at hbody
                split at hbody
                · rename_i fnn hfn
                  have hrun := run_call (args := (fs' ++ as.toList.map a.eval ++ cs').toArray) hfn hbody (hN _ _ hfn) w
                  unfold Oper.wp execOp
                  have e : (⟨fs'⟩ ++ as.map a.eval ++ ⟨cs'⟩ : Array Value) = (fs' ++ as.toList.map a.eval ++ cs').toArray := by apply Array.ext'; simp
                  simp only [ho, resolve, hfv', Deferred.ofValue, Sem.run_bind, Sem.run_pure, Result.andThen_ok, invoke, e, hrun]
                  rw [Oper.upon_enter]
                  refine hgood.mono ?_
                  rintro e' w' ⟨v', m', rfl, hvr, hext, hlb⟩
                  obtain ⟨hext', hle⟩ := ext_call hR hext hlb
                  exact hK v' w' _ hext' (hvr.mono hle)
                · cases hbody
            | _ => rw [hfv'] at hf; cases hf
          · cases h
      · cases h
    · cases h
end
end Go.Am
