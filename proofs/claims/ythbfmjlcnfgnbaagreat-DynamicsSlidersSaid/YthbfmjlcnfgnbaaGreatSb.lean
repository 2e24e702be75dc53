/-
  The symbolic machine.
-/
import Derived.Test.YthbfmjlcnfgnbaaGreatSa
import Derived.Below

section
/-
  Regions in the order of the text; code; bodies.
-/
namespace Go.Sm

structure St where
  fr : List Value
  H : Hp
  loc : Hp
  wg : List Nat

def evalO (fr : List Value) : Operand → Value
  | .tmp t => fr.getD t undef
  | .const v => v
  | .global g => .pointer (some ⟨g, 0, some 1⟩)
  | .func f => .func (.func f) #[] #[]

def putF (fr : List Value) (dst : Option Tmp) (v : Value) : List Value :=
  match dst with
  | some d => fr.set d v
  | none => fr

def fPut {α : Type} (fr : List Value) (dst : Option Tmp) (v : Value) (k : List Value → α) : α :=
  match dst with
  | some d => fSet fr d v k
  | none => k fr
theorem fPut_eq {α : Type} (fr : List Value) (dst : Option Tmp) (v : Value) (k : List Value → α) : fPut fr dst v k = k (putF fr dst v) := by
  cases dst with
  | none => rfl
  | some d => exact fSet_eq fr d v k

def operandOk : Operand → Bool
  | .const v => plainV v
  | .global _ => false
  | .func f => !symF f
  | _ => true

def wantedA (ops : List Oper) (fr : List Value) (o : Oper) : Bool :=
  match o.guard with
  | none => true
  | some (j, want) =>
    match (ops[j]?).bind (·.dst) with
    | some t => match fr[t]? with
      | some (.bool b) => b == want
      | _ => false
    | none => false

/-- The guard is decided. -/
def guardOk (ops : List Oper) (fr : List Value) (o : Oper) : Bool :=
  match o.guard with
  | none => true
  | some (j, _) =>
    match (ops[j]?).bind (·.dst) with
    | some t => match fr[t]? with
      | some v => !isSym v
      | none => true
    | none => true

/-- The operands' constants are plain. -/
def constsOk (ops : List Oper) : Bool := ops.all fun o => o.op.operands.toList.all operandOk

def stepO (P : Program) (X : Xt) (O : Orc) (esc : Nat → Bool) (ops : List Oper) (o : Oper) (s : St) : Option St :=
  bif guardOk ops s.fr o then
    bif wantedA ops s.fr o then
      match evOp P X O esc o (evalO s.fr) s.H s.loc with
      | some out => fVal 4 out.v fun v => fPut s.fr o.dst v fun fr => fSpine (s.wg ++ out.wg) fun wg => some ⟨fr, out.H, out.loc, wg⟩
      | none => none
    else fPut s.fr o.dst undef fun fr => some { s with fr := fr }
  else none

def seqOps (P : Program) (X : Xt) (O : Orc) (esc : Nat → Bool) (ops : List Oper) : List Oper → St → Option St
  | [], s => some s
  | o :: rest, s => match stepO P X O esc ops o s with
    | some s' => seqOps P X O esc ops rest s'
    | none => none

/-- The machine's state and the world's. m0, H0, w0: as the call began. -/
structure Sim (m0 : Mp) (H0 : Hp) (w0 : World) (s : St) (m : Mp) (a : Act) (w : World) : Prop where
  ext : Ext m0 H0 [] w0 m s.H s.loc w s.wg []
  fr : VRs m s.fr a.tmps.toList
  df : a.defers = []

section
variable {P : Program} {m m0 : Mp} {H0 : Hp} {w w0 : World} {a : Act}

theorem Ext.nil_wl {m m' : Mp} {H H' loc' : Hp} {w w' : World} {wg wl : List Nat} (h : Ext m H [] w m' H' loc' w' wg wl) : Ext m H [] w m' H' loc' w' wg [] :=
  { h with modl := fun i hi => by simp at hi }

theorem eval_vr {fr : List Value} (hf : VRs m fr a.tmps.toList) {x : Operand} (hx : operandOk x = true) : VR m (evalO fr x) (a.eval x) := by
  cases x with
  | tmp t =>
    simp only [evalO, Act.eval]
    have hsz : fr.length = a.tmps.size := by simpa using hf.1
    by_cases ht : t < fr.length
    · have ht' : t < a.tmps.size := hsz ▸ ht
      have := hf.2 t fr[t] a.tmps[t] (List.getElem?_eq_getElem ht) (by simp [ht'])
      simpa [List.getD, ht, ht'] using this
    · have ht' : ¬ t < a.tmps.size := hsz ▸ ht
      have e1 : fr.getD t undef = undef := by simp [List.getD, List.getElem?_eq_none (Nat.le_of_not_lt ht)]
      have e2 : a.tmps.getD t undef = undef := by simp [ht']
      rw [e1, e2]
      exact VR.undef m
  | const v => exact plain_vr m 4 v hx
  | global g => cases hx
  | func f => exact .func (by simpa [operandOk] using hx) rfl (fun i v v' h => by simp at h) rfl (fun i v v' h => by simp at h)

theorem opR_of {fr : List Value} (hf : VRs m fr a.tmps.toList) {o : Oper} (ho : o.op.operands.toList.all operandOk = true) : OpR m (evalO fr) a.eval o := by
  intro x hx
  exact eval_vr hf (List.all_eq_true.1 ho x (by simpa using hx))

theorem wanted_eq {ops : List Oper} {fr : List Value} (hf : VRs m fr a.tmps.toList) (o : Oper) (hg : guardOk ops fr o = true) : Region.wanted o (yielded ops.toArray a.tmps) = wantedA ops fr o := by
  unfold guardOk at hg
  unfold Region.wanted wantedA
  cases hgd : o.guard with
  | none => rfl
  | some jw =>
    obtain ⟨j, want⟩ := jw
    rw [hgd] at hg
    simp only [yielded, List.getElem?_toArray]
    cases hd : (ops[j]?).bind (·.dst) with
    | none => simp
    | some t =>
      simp only [hd] at hg
      simp only [Option.bind_some]
      cases hv : fr[t]? with
      | none =>
        have : a.tmps[t]? = none := by
          have h1 := hf.1
          rw [List.getElem?_eq_none_iff] at hv
          simp at h1
          simp; omega
        simp [this]
      | some v =>
        obtain ⟨v', hv', hvr⟩ := hf.at hv
        have e : a.tmps[t]? = some v' := by simpa using hv'
        rw [e]
        rw [hv] at hg
        cases hvr <;> first | (simp; done) | (rename_i h0 _; simp [isSym, h0] at hg)

theorem put_vr {fr : List Value} (hf : VRs m fr a.tmps.toList) (dst : Option Tmp) {v v' : Value} (hv : VR m v v') : VRs m (putF fr dst v) (a.put dst v').tmps.toList := by
  cases dst with
  | none => exact hf
  | some d =>
    simp only [putF, Act.put, Array.toList_setIfInBounds]
    exact hf.set d hv

theorem seq_sound (hN : Named P) {X : Xt} (hX : GoodX P X) {O : Orc} (hO : GoodO P X.env O) (hE0 : m0.env = X.env) {esc : Nat → Bool} {ops : List Oper} {Q : Exit → Act → World → Prop} :
    ∀ (l : List Oper) (s s' : St) (m : Mp) (a : Act) (w : World), constsOk l = true → seqOps P X O esc ops l s = some s' → Sim m0 H0 w0 s m a w →
      (∀ m' a' w', Sim m0 H0 w0 s' m' a' w' → Q .normal a' w') → wpList P ops.toArray Q l a w
  | [], s, s', m, a, w, _, h, hs, hQ => by
    simp only [seqOps, Option.some.injEq] at h
    subst h
    exact hQ m a w hs
  | o :: rest, s, s', m, a, w, hc, h, hs, hQ => by
    simp only [constsOk, List.all_cons, Bool.and_eq_true] at hc
    simp only [seqOps] at h
    split at h
    · rename_i s1 h1
      unfold stepO at h1
      simp only [fVal_eq, fPut_eq, fSpine_eq] at h1
      unfold wpList
      cases hgo : guardOk ops s.fr o with
      | false => rw [hgo] at h1; cases h1
      | true =>
      rw [hgo] at h1
      simp only [cond_true] at h1
      rw [wanted_eq hs.fr o hgo]
      cases hw : wantedA ops s.fr o with
      | true =>
        rw [hw] at h1
        simp only [cond_true] at h1
        simp only [if_true]
        split at h1
        · rename_i out hout
          injection h1 with h1; subst h1
          refine .inl (evOp_sound hN hX hO (hs.ext.le.env.trans hE0) (opR_of hs.fr hc.1) hs.ext.rel hout fun v' w' m' hext hvr => ?_)
          refine seq_sound hN hX hO hE0 rest _ s' m' _ w' hc.2 h ⟨(hs.ext.trans hext).nil_wl, ?_, ?_⟩ hQ
          · exact put_vr (hs.fr.mono hext.le) o.dst hvr
          · cases hd : o.dst <;> simp [Act.put, hs.df]
        · cases h1
      | false =>
        rw [hw] at h1
        simp only [cond_false, Option.some.injEq] at h1
        subst h1
        simp only [Bool.false_eq_true, if_false]
        refine seq_sound hN hX hO hE0 rest _ s' m _ w hc.2 h ⟨hs.ext, ?_, ?_⟩ hQ
        · exact put_vr hs.fr o.dst (VR.undef m)
        · cases hd : o.dst <;> simp [Act.put, hs.df]
    · cases h

end
end Go.Sm
end

section
/-
  What every step of the machine keeps, with no world in sight.
-/
namespace Go.Sm

structure Pur (H loc H' loc' : Hp) (wg wl : List Nat) : Prop where
  len : H.length ≤ H'.length
  lenl : loc.length ≤ loc'.length
  mod : ∀ i, i < H.length → i ∉ wg → H'[i]? = H[i]?
  modl : ∀ i, i < loc.length → i ∉ wl → loc'[i]? = loc[i]?
  kp : ∀ (i : Nat) (b : Blk), H[i]? = some b → ∃ b', H'[i]? = some b' ∧ b'.esz = b.esz ∧ b'.loose = b.loose

theorem Pur.refl (H loc : Hp) : Pur H loc H loc [] [] := ⟨Nat.le_refl _, Nat.le_refl _, fun _ _ _ => rfl, fun _ _ _ => rfl, fun _ b e => ⟨b, e, rfl, rfl⟩⟩
theorem Pur.wide {H loc H' loc' : Hp} {wg wl wg' wl' : List Nat} (h : Pur H loc H' loc' wg wl) (h1 : ∀ i, i ∈ wg → i ∈ wg') (h2 : ∀ i, i ∈ wl → i ∈ wl') : Pur H loc H' loc' wg' wl' :=
  ⟨h.len, h.lenl, fun i hi hn => h.mod i hi (fun e => hn (h1 i e)), fun i hi hn => h.modl i hi (fun e => hn (h2 i e)), h.kp⟩
theorem Pur.trans {H loc H' loc' H'' loc'' : Hp} {a b c d : List Nat} (h : Pur H loc H' loc' a b) (k : Pur H' loc' H'' loc'' c d) : Pur H loc H'' loc'' (a ++ c) (b ++ d) where
  len := Nat.le_trans h.len k.len
  lenl := Nat.le_trans h.lenl k.lenl
  mod := fun i hi hn => by
    simp only [List.mem_append, not_or] at hn
    exact (k.mod i (Nat.lt_of_lt_of_le hi h.len) hn.2).trans (h.mod i hi hn.1)
  modl := fun i hi hn => by
    simp only [List.mem_append, not_or] at hn
    exact (k.modl i (Nat.lt_of_lt_of_le hi h.lenl) hn.2).trans (h.modl i hi hn.1)
  kp := fun i x e => by
    obtain ⟨y, e1, e2, e3⟩ := h.kp i x e
    obtain ⟨z, f1, f2, f3⟩ := k.kp i y e1
    exact ⟨z, f1, f2.trans e2, f3.trans e3⟩

theorem cond_or {α : Type} {c : Bool} {x y : Option α} {r : α} (h : cond c x y = some r) : x = some r ∨ y = some r := by
  cases c with
  | true => exact .inl h
  | false => exact .inr h

theorem getElem?_snoc_lt {α : Type} {l : List α} {x : α} {i : Nat} (h : i < l.length) : (l ++ [x])[i]? = l[i]? := List.getElem?_append_left h

theorem Pur.newG (H loc : Hp) (b : Blk) : Pur H loc (H ++ [b]) loc [] [] :=
  ⟨by simp, Nat.le_refl _, fun i hi _ => getElem?_snoc_lt hi, fun _ _ _ => rfl, fun i x e => ⟨x, by rw [getElem?_snoc_lt (List.getElem?_eq_some_iff.1 e).1]; exact e, rfl, rfl⟩⟩
theorem Pur.newL (H loc : Hp) (b : Blk) : Pur H loc H (loc ++ [b]) [] [] :=
  ⟨Nat.le_refl _, by simp, fun _ _ _ => rfl, fun i hi _ => getElem?_snoc_lt hi, fun _ x e => ⟨x, e, rfl, rfl⟩⟩
theorem Pur.setG (H loc : Hp) {i : Nat} {b b' : Blk} (hb : H[i]? = some b) (h1 : b'.esz = b.esz) (h2 : b'.loose = b.loose) : Pur H loc (H.set i b') loc [i] [] := by
  refine ⟨by simp, Nat.le_refl _, fun j hj hn => ?_, fun _ _ _ => rfl, fun j x e => ?_⟩
  · simp only [List.mem_singleton] at hn
    rw [List.getElem?_set_ne (fun e => hn e.symm)]
  · by_cases hji : i = j
    · subst hji
      rw [hb] at e; injection e with e; subst e
      exact ⟨b', by rw [List.getElem?_set_self (List.getElem?_eq_some_iff.1 hb).1], h1, h2⟩
    · exact ⟨x, by rw [List.getElem?_set_ne hji]; exact e, rfl, rfl⟩
theorem Pur.setL (H loc : Hp) (i : Nat) (b' : Blk) : Pur H loc H (loc.set i b') [] [i] := by
  refine ⟨Nat.le_refl _, by simp, fun _ _ _ => rfl, fun j hj hn => ?_, fun _ x e => ⟨x, e, rfl, rfl⟩⟩
  simp only [List.mem_singleton] at hn
  rw [List.getElem?_set_ne (fun e => hn e.symm)]

theorem writeCells_pure {H loc H' loc' : Hp} {a : Addr} {vs : List Value} {wg wl : List Nat} (h : writeCells H loc a vs = some (H', loc', wg, wl)) : Pur H loc H' loc' wg wl := by
  unfold writeCells at h
  simp only [fSpine_eq, fSet_eq] at h
  split at h
  · split at h
    · rename_i b hb
      revert h
      cases (b.live && decide (a.off + vs.length ≤ b.cells.length) && vs.all cellOk) with
      | false => intro h; cases h
      | true =>
        intro h
        simp only [cond_true, Option.some.injEq, Prod.mk.injEq] at h
        obtain ⟨rfl, rfl, rfl, rfl⟩ := h
        exact Pur.setG H loc hb rfl rfl
    · cases h
  · split at h
    · rename_i b hb
      revert h
      cases (b.live && decide (a.off + vs.length ≤ b.cells.length) && vs.all (·.oneCell')) with
      | false => intro h; cases h
      | true =>
        intro h
        simp only [cond_true, Option.some.injEq, Prod.mk.injEq] at h
        obtain ⟨rfl, rfl, rfl, rfl⟩ := h
        exact Pur.setL H loc _ _
    · cases h
  · cases h

theorem grown_pure {H loc : Hp} {elem : TypeId} {esz need : Nat} {cells : List Value} {wg : List Nat} {out : Out} (h : grown H loc elem esz need cells wg = some out) : Pur H loc out.H out.loc out.wg out.wl := by
  unfold grown at h
  simp only [fSpine_eq] at h
  revert h
  cases cells.all cellOk with
  | false => intro h; cases h
  | true =>
    intro h
    simp only [cond_true, Option.some.injEq] at h
    subst h
    exact (Pur.newG H loc _).wide (by simp) (by simp)

theorem append_pure {P : Program} {H loc : Hp} {tS tX : TypeId} {s x : Value} {out : Out} (h : evAppend P H loc tS tX s x = some out) : Pur H loc out.H out.loc out.wg out.wl := by
  unfold evAppend at h
  simp only [fSpine_eq] at h
  split at h
  · rename_i elem dX base sLen sCap _ _
    rcases cond_or h with h | h
    · cases h
    split at h
    · cases h
    · rename_i ti hti
      split at h
      · rename_i z n hz hn
        rcases cond_or h with h | h
        · cases h
        split at h
        · cases h
        · rename_i new hnew
          rcases cond_or h with h | h
          · split at h
            · rcases cond_or h with h | h
              · simp only [Option.some.injEq] at h; subst h; exact Pur.refl H loc
              · cases h
            · rcases cond_or h with h | h
              · simp only [Option.some.injEq] at h; subst h; exact Pur.refl H loc
              · split at h
                · rename_i hw
                  injection h with h; subst h
                  exact writeCells_pure hw
                · cases h
          · rcases cond_or h with h | h
            · split at h
              · rcases cond_or h with h | h
                · exact grown_pure h
                · cases h
              · rename_i a
                split at h
                · split at h
                  · exact grown_pure h
                  · cases h
                · cases h
                · split at h
                  · rename_i b old hb hold
                    rcases cond_or h with h | h
                    · exact grown_pure h
                    · rcases cond_or h with h | h
                      · simp only [Option.some.injEq] at h
                        subst h
                        exact ((Pur.setG H loc hb (b' := { b with live := false }) rfl rfl).trans (Pur.newG _ loc _)).wide (by simp) (by simp)
                      · cases h
                  · cases h
            · cases h
      · cases h
  · cases h

theorem copy_pure {P : Program} {H loc : Hp} {t0 : TypeId} {s x : Value} {out : Out} (h : evCopy P H loc t0 s x = some out) : Pur H loc out.H out.loc out.wg out.wl := by
  unfold evCopy at h
  split at h
  · split at h
    · cases h
    · split at h
      · cases h
      · split at h
        · injection h with h; subst h; exact Pur.refl H loc
        · rcases cond_or h with h | h
          · injection h with h; subst h; exact Pur.refl H loc
          · rcases cond_or h with h | h
            · split at h
              · rename_i hw
                injection h with h; subst h
                exact writeCells_pure hw
              · cases h
            · cases h
  · cases h

/-- What an oracle keeps. -/
def PureO (O : Orc) : Prop := ∀ f args H v H' md, O f args H = some (v, H', md) → Pur H [] H' [] md []

theorem evOp_pure {P : Program} {X : Xt} {O : Orc} (hO : PureO O) {esc : Nat → Bool} {o : Oper} {ρ : Operand → Value} {H loc : Hp} {out : Out} (h : evOp P X O esc o ρ H loc = some out) :
    Pur H loc out.H out.loc out.wg out.wl := by
  unfold evOp at h
  simp only [fVals_eq, fSpine_eq] at h
  split at h
  · split at h
    · injection h with h; subst h; exact Pur.refl H loc
    · cases h
  · split at h
    · split at h
      · injection h with h; subst h; exact Pur.refl H loc
      · cases h
    · cases h
  · split at h
    · rename_i b k hb
      rcases cond_or h with h | h
      · rcases cond_or h with h | h
        · injection h with h; subst h; exact Pur.newG H loc _
        · cases h
      · injection h with h; subst h; exact Pur.newL H loc _
    · cases h
  · unfold evEff at h
    split at h
    · unfold evRange at h
      simp only [fSpine_eq] at h
      split at h
      · injection h with h; subst h; exact Pur.newL H loc _
      · cases h
    · unfold evNext at h
      simp only [fNat_eq, fSet_eq] at h
      split at h
      · split at h
        · rcases cond_or h with h | h
          · cases h
          · split at h
            · rcases cond_or h with h | h
              · injection h with h; subst h; exact Pur.setL H loc _ _
              · injection h with h; subst h; exact Pur.refl H loc
            · cases h
        · cases h
      · cases h
    · split at h
      · rename_i hs
        injection h with h; subst h
        unfold evStore at hs
        split at hs
        · split at hs
          · rcases cond_or hs with hs | hs
            · exact writeCells_pure hs
            · cases hs
          · cases hs
        · cases hs
      · cases h
    · exact append_pure h
    · exact copy_pure h
    · unfold evCall at h
      split at h
      · rcases cond_or h with h | h
        · cases h
        rcases cond_or h with h | h
        · split at h
          · rename_i v H' md hv
            injection h with h; subst h
            have := hO _ _ _ _ _ _ hv
            exact ⟨this.len, Nat.le_refl _, this.mod, fun _ _ _ => rfl, this.kp⟩
          · cases h
        · split at h
          · rcases cond_or h with h | h
            · split at h
              · rcases cond_or h with h | h
                · injection h with h; subst h; exact Pur.refl H loc
                · cases h
              · cases h
            · cases h
          · cases h
      · cases h
    · cases h

end Go.Sm
end

section
/-
  Regions that draw their order; code; bodies: the machine.
-/
namespace Go.Sm

/-- What an operation read and wrote: global and local blocks; bd: a loaded value names blocks only that stood there. -/
structure Fp where
  rg : List Nat
  rl : List Nat
  wg : List Nat
  wl : List Nat
  bd : Bool

def isEff (o : Oper) : Bool := match kindOf o.op with
  | .eff => true
  | _ => false
def isLoad (o : Oper) : Bool := match kindOf o.op with
  | .load => true
  | _ => false

def readsOf (o : Oper) (ρ : Operand → Value) : List Nat × List Nat :=
  match o.op with
  | .load _ x => match ρ x with
    | .pointer (some ⟨b, _, none⟩) => ([b], [])
    | .pointer (some ⟨b, _, some _⟩) => ([], [b])
    | _ => ([], [])
  | _ => ([], [])

def boundB (h l : Nat) : Nat → Value → Bool
  | 0, _ => false
  | d + 1, v => match v with
    | .pointer (some a) => bif a.spot.isNone then Nat.blt a.block h else Nat.blt a.block l
    | .slice (some a) _ _ => bif a.spot.isNone then Nat.blt a.block h else Nat.blt a.block l
    | .agg cs => cs.toList.all (boundB h l d)
    | .tuple cs => cs.toList.all (boundB h l d)
    | .iface _ x => boundB h l d x
    | .func (.func f) fs cs => bif symF f then true else fs.toList.all (boundB h l d) && cs.toList.all (boundB h l d)
    | .func _ fs cs => fs.toList.all (boundB h l d) && cs.toList.all (boundB h l d)
    | _ => true

def stepTr (P : Program) (X : Xt) (O : Orc) (esc : Nat → Bool) (ops : List Oper) (o : Oper) (s : St) : Option (St × Fp) :=
  bif guardOk ops s.fr o then
   bif wantedA ops s.fr o then
    match evOp P X O esc o (evalO s.fr) s.H s.loc with
    | some out => some (⟨putF s.fr o.dst out.v, out.H, out.loc, s.wg ++ out.wg⟩, ⟨(readsOf o (evalO s.fr)).1, (readsOf o (evalO s.fr)).2, out.wg, out.wl, boundB s.H.length s.loc.length 6 out.v⟩)
    | none => none
   else some ({ s with fr := putF s.fr o.dst undef }, ⟨[], [], [], [], true⟩)
  else none

def traceOps (P : Program) (X : Xt) (O : Orc) (esc : Nat → Bool) (ops : List Oper) : List Oper → St → Option (St × List Fp)
  | [], s => some (s, [])
  | o :: rest, s => match stepTr P X O esc ops o s with
    | some (s1, f) => match traceOps P X O esc ops rest s1 with
      | some (s', fps) => some (s', f :: fps)
      | none => none
    | none => none

/-- Whom an operation waits for, as bits; acc: those of the earlier ones, the last first. -/
def bmRow (j : Nat) (acc : List Nat) (es : List Edge) : Nat :=
  match es with
  | [] => 0
  | e :: es => bif Region.binds .any e then (2 ^ e.on ||| (bif Nat.blt e.on j then acc.getD (j - 1 - e.on) 0 else 0)) ||| bmRow j acc es else bmRow j acc es
def bmGo : List Oper → Nat → List Nat → List Nat
  | [], _, acc => acc
  | o :: rest, j, acc => fNat (bmRow j acc o.after.toList) fun v => bmGo rest (j + 1) (v :: acc)
def bms (ops : List Oper) : List Nat := (bmGo ops 0 []).reverse

/-- Two operations, the first earlier in the text, of which the second does not wait for the first, touch different temporaries, and do not both act. -/
def pairOk (ops : Array Oper) (x : Oper × Nat) (y : Oper × Nat) : Bool :=
  y.2.testBit x.2 || (!(isEff x.1 && isEff y.1) && x.1.apart ops y.1)
def pairsFrom (ops : Array Oper) : Nat → List (Oper × Nat) → Bool
  | _, [] => true
  | i, x :: l => l.all (fun y => pairOk ops (x.1, i) y) && pairsFrom ops (i + 1) l

def staticOk (ops : List Oper) : Bool :=
  (ops.zipIdx.all fun (o, i) => o.after.toList.all fun e => !Region.binds .any e || Nat.blt e.on i) &&
  (ops.all fun o => match o.op with | .select _ _ => false | _ => true) &&
  pairsFrom ops.toArray 0 (ops.zip (bms ops))

/-- The pairs of one that acts and one that loads, neither waiting for the other. -/
def confOf (ops : List Oper) : List (Nat × Nat) :=
  (ops.zip (bms ops)).zipIdx.flatMap fun (x, i) => (ops.zip (bms ops)).zipIdx.filterMap fun (y, j) =>
    bif isEff x.1 && isLoad y.1 && !(x.2.testBit j) && !(y.2.testBit i) then some (i, j) else none

def meets (a b : List Nat) : Bool := a.any fun x => b.contains x

def dynOk (conf : List (Nat × Nat)) (fps : List Fp) : Bool :=
  conf.all fun (i, j) => match fps[i]?, fps[j]? with
    | some x, some y => !meets y.rg x.wg && !meets y.rl x.wl && (Nat.blt i j || y.bd)
    | _, _ => false

def drawOps (P : Program) (X : Xt) (O : Orc) (esc : Nat → Bool) (ops : List Oper) (s : St) : Option St :=
  bif staticOk ops then
    match traceOps P X O esc ops ops s with
    | some (s', fps) => bif dynOk (confOf ops) fps then some s' else none
    | none => none
  else none

inductive Ex where
  | normal
  | exit (id : Nat)
  | ret

def loopN (f : St → Option (Ex × St)) : Nat → St → Option (Ex × St)
  | 0, _ => none
  | n + 1, s => match f s with
    | some (.normal, s') => loopN f n s'
    | r => r

def exec (P : Program) (X : Xt) (O : Orc) (esc : Nat → Bool) (fuel : Nat) : Code → St → Option (Ex × St)
  | .skip, s => some (.normal, s)
  | .region _ ops draw, s =>
    bif constsOk ops.toList then
      match (bif draw then drawOps P X O esc ops.toList s else seqOps P X O esc ops.toList ops.toList s) with
      | some s' => some (.normal, s')
      | none => none
    else none
  | .seq a b, s => match exec P X O esc fuel a s with
    | some (.normal, s') => exec P X O esc fuel b s'
    | r => r
  | .cond c t e, s => match evalO s.fr c with
    | .bool b => bif b then exec P X O esc fuel t s else exec P X O esc fuel e s
    | _ => none
  | .block id body, s => match exec P X O esc fuel body s with
    | some (.exit i, s') => bif i == id then some (.normal, s') else some (.exit i, s')
    | r => r
  | .loop body, s => loopN (exec P X O esc fuel body) fuel s
  | .exit id, s => some (.exit id, s)
  | .ret, s => some (.ret, s)
  | _, _ => none

def resultsA (P : Program) (s : St) : List ResultVar → Option (List Value)
  | [] => some []
  | .tmp t :: rest => match resultsA P s rest with
    | some vs => some (s.fr.getD t undef :: vs)
    | none => none
  | .cell a t :: rest => match evLoad P s.H s.loc t (s.fr.getD a undef), resultsA P s rest with
    | some v, some vs => some (v :: vs)
    | _, _ => none

def packV : List Value → Value
  | [v] => v
  | vs => .tuple ⟨vs⟩

def finish (H : Hp) (s : St) (v : Value) : Option (Value × Hp × List Nat) :=
  bif noLoc v then (bif s.wg.isEmpty && plainSB 4 v then some (v, H, []) else some (v, s.H, s.wg)) else none

def runBody (P : Program) (X : Xt) (esc : FuncId → Nat → Bool) (fuel : Nat) (O : Orc) : Orc := fun f args H =>
  match P.funcs[f]? with
  | none => none
  | some fn =>
    match fn.body with
    | none => none
    | some c =>
      match exec P X O (esc f) fuel c ⟨args ++ List.replicate (fn.ntmps - args.length) undef, H, [], []⟩ with
      | some (.normal, s) => match resultsA P s fn.results.toList with
        | some vs => finish H s (packV vs)
        | none => none
      | some (.ret, s) => match resultsA P s fn.results.toList with
        | some vs => finish H s (packV vs)
        | none => none
      | _ => none

/-- The machine: n calls deep. -/
def callN (P : Program) (X : Xt) (esc : FuncId → Nat → Bool) (fuel : Nat) (S : Orc) : Nat → Orc
  | 0 => S
  | n + 1 => fun f args H => match S f args H with
    | some r => some r
    | none => runBody P X esc fuel (callN P X esc fuel S n) f args H

end Go.Sm
end

section
/-
  Drawn regions: maps cut at a moment of the text's run; who waits for whom; the states of the text's run.
-/
namespace Go.Sm

/-- The map up to so many blocks. -/
def Mp.cut (m : Mp) (h l : Nat) : Mp := { m with gb := fun i => if i < h then m.gb i else none, lb := fun i => if i < l then m.lb i else none }

theorem cut_gb {m : Mp} {h l i g : Nat} : (m.cut h l).gb i = some g ↔ i < h ∧ m.gb i = some g := by
  simp only [Mp.cut]
  by_cases hi : i < h <;> simp [hi]
theorem cut_lb {m : Mp} {h l i g : Nat} : (m.cut h l).lb i = some g ↔ i < l ∧ m.lb i = some g := by
  simp only [Mp.cut]
  by_cases hi : i < l <;> simp [hi]
theorem cut_le (m : Mp) (h l : Nat) : Le (m.cut h l) m :=
  ⟨fun _ _ e => (cut_gb.1 e).2, fun _ _ e => (cut_lb.1 e).2, fun _ _ _ => rfl, fun _ _ _ => rfl, fun _ _ _ => rfl, rfl⟩
theorem cut_mono (m : Mp) {h h' l l' : Nat} (h1 : h ≤ h') (h2 : l ≤ l') : Le (m.cut h l) (m.cut h' l') :=
  ⟨fun _ _ e => cut_gb.2 ⟨Nat.lt_of_lt_of_le (cut_gb.1 e).1 h1, (cut_gb.1 e).2⟩, fun _ _ e => cut_lb.2 ⟨Nat.lt_of_lt_of_le (cut_lb.1 e).1 h2, (cut_lb.1 e).2⟩, fun _ _ _ => rfl, fun _ _ _ => rfl, fun _ _ _ => rfl, rfl⟩
theorem Le.cut {m m' : Mp} (hm : Le m m') (h l : Nat) : Le (m.cut h l) (m'.cut h l) :=
  ⟨fun i g e => cut_gb.2 ⟨(cut_gb.1 e).1, hm.gb i g (cut_gb.1 e).2⟩, fun i g e => cut_lb.2 ⟨(cut_lb.1 e).1, hm.lb i g (cut_lb.1 e).2⟩,
   fun i g e => hm.loose i g (cut_gb.1 e).2, fun i g e => hm.esz i g (cut_gb.1 e).2, fun i g e => hm.tot i g (cut_gb.1 e).2, hm.env⟩

theorem bound_vr {m : Mp} {h l : Nat} : ∀ (d : Nat) (v v' : Value), boundB h l d v = true → VR m v v' → VR (m.cut h l) v v'
  | 0, _, _, hb, _ => by simp [boundB] at hb
  | d + 1, v, v', hb, hv => by
    cases hv with
    | bool b => exact .bool b
    | int k n => exact .int k n
    | float k n => exact .float k n
    | string s => exact .string s
    | ptrN => exact .ptrN
    | ptrG e => simp [boundB] at hb; exact .ptrG (cut_gb.2 ⟨hb, e⟩)
    | ptrL e => simp [boundB] at hb; exact .ptrL (cut_lb.2 ⟨hb, e⟩)
    | sliceN n c => exact .sliceN n c
    | sliceG e => simp [boundB] at hb; exact .sliceG (cut_gb.2 ⟨hb, e⟩)
    | sliceO e hl hc ht => simp [boundB] at hb; exact .sliceO (cut_gb.2 ⟨hb, e⟩) hl hc ht
    | sliceE e hl => simp [boundB] at hb; exact .sliceE (cut_gb.2 ⟨hb, e⟩) hl
    | sliceL e => simp [boundB] at hb; exact .sliceL (cut_lb.2 ⟨hb, e⟩)
    | mapN => exact .mapN
    | nilFunc => exact .nilFunc
    | nilIface => exact .nilIface
    | symI hf hh => exact .symI hf hh
    | symB hf hh => exact .symB hf hh
    | func hf hl hh hl2 hh2 =>
      simp only [boundB, hf, cond_false, Bool.and_eq_true, List.all_eq_true] at hb
      exact .func hf hl (fun i a b ha hb' => bound_vr d a b (hb.1 a (List.mem_of_getElem? ha)) (hh i a b ha hb')) hl2
        (fun i a b ha hb' => bound_vr d a b (hb.2 a (List.mem_of_getElem? ha)) (hh2 i a b ha hb'))
    | iface hh => simp only [boundB] at hb; exact .iface (bound_vr d _ _ hb hh)
    | agg hl hh =>
      simp only [boundB, List.all_eq_true] at hb
      exact .agg hl (fun i a b ha hb' => bound_vr d a b (hb a (List.mem_of_getElem? ha)) (hh i a b ha hb'))
    | tuple hl hh =>
      simp only [boundB, List.all_eq_true] at hb
      exact .tuple hl (fun i a b ha hb' => bound_vr d a b (hb a (List.mem_of_getElem? ha)) (hh i a b ha hb'))

/-- Operation i comes before operation j in every order. -/
inductive Bef (ops : List Oper) : Nat → Nat → Prop
  | edge {j : Nat} {o : Oper} {e : Edge} (ho : ops[j]? = some o) (he : e ∈ o.after) (hb : Region.binds .any e = true) : Bef ops e.on j
  | step {i j : Nat} {o : Oper} {e : Edge} (ho : ops[j]? = some o) (he : e ∈ o.after) (hb : Region.binds .any e = true) (h : Bef ops i e.on) : Bef ops i j

def Closed (ops : List Oper) (L : Nat → Prop) : Prop := ∀ j o, ops[j]? = some o → L j → ∀ e ∈ o.after, Region.binds .any e = true → L e.on

theorem Bef.closed {ops : List Oper} {L : Nat → Prop} (hL : Closed ops L) {i j : Nat} (h : Bef ops i j) : L j → L i := by
  induction h with
  | edge ho he hb => intro hj; exact hL _ _ ho hj _ he hb
  | step ho he hb _ ih => intro hj; exact ih (hL _ _ ho hj _ he hb)
theorem Bef.ready {ops : List Oper} {L : Nat → Prop} (hL : Closed ops L) {i j : Nat} (h : Bef ops i j) (hj : ∀ o, ops[j]? = some o → ∀ e ∈ o.after, Region.binds .any e = true → L e.on) : L i := by
  cases h with
  | edge ho he hb => exact hj _ ho _ he hb
  | step ho he hb h => exact h.closed hL (hj _ ho _ he hb)

theorem bmRow_bit {j : Nat} {acc : List Nat} {i : Nat} : ∀ (es : List Edge), (bmRow j acc es).testBit i = true →
    ∃ e ∈ es, Region.binds .any e = true ∧ (e.on = i ∨ (e.on < j ∧ (acc.getD (j - 1 - e.on) 0).testBit i = true))
  | [], h => by simp [bmRow] at h
  | e :: es, h => by
    unfold bmRow at h
    cases hb : Region.binds .any e with
    | false =>
      rw [hb] at h
      simp only [cond_false] at h
      obtain ⟨e', h1, h2⟩ := bmRow_bit es h
      exact ⟨e', List.mem_cons_of_mem _ h1, h2⟩
    | true =>
      rw [hb] at h
      simp only [cond_true, Nat.testBit_or, Bool.or_eq_true] at h
      rcases h with (h | h) | h
      · refine ⟨e, List.mem_cons_self, hb, .inl ?_⟩
        simpa using (Nat.testBit_two_pow (n := e.on) (m := i)).symm.trans h
      · refine ⟨e, List.mem_cons_self, hb, .inr ?_⟩
        cases hlt : Nat.blt e.on j with
        | false => rw [hlt] at h; simp at h
        | true => rw [hlt] at h; exact ⟨by simpa using hlt, h⟩
      · obtain ⟨e', h1, h2⟩ := bmRow_bit es h
        exact ⟨e', List.mem_cons_of_mem _ h1, h2⟩

theorem bmGo_bit {ops : List Oper} : ∀ (l : List Oper) (j : Nat) (acc : List Nat), (∀ k, l[k]? = ops[j + k]?) → acc.length = j →
    (∀ i' i, i' < j → (acc.getD (j - 1 - i') 0).testBit i = true → Bef ops i i') →
    ∀ i' i, i' < j + l.length → ((bmGo l j acc).getD (j + l.length - 1 - i') 0).testBit i = true → Bef ops i i'
  | [], j, acc, _, _, hacc => fun i' i hi h => hacc i' i (by simpa using hi) (by simpa [bmGo] using h)
  | o :: rest, j, acc, hl, hlen, hacc => fun i' i hi h => by
    have h0 : ops[j]? = some o := by simpa using (hl 0).symm
    simp only [bmGo, fNat_eq, List.length_cons] at h hi
    refine bmGo_bit rest (j + 1) (bmRow j acc o.after.toList :: acc) (fun k => ?_) (by simp [hlen]) ?_ i' i (by omega) ?_
    · have := hl (k + 1)
      simp only [List.getElem?_cons_succ] at this
      rw [this]; congr 1; omega
    · intro i' i hi' hb
      by_cases hij : i' = j
      · subst hij
        have e0 : i' + 1 - 1 - i' = 0 := by omega
        rw [e0, List.getD_cons_zero] at hb
        obtain ⟨e, he, hbind, h1 | ⟨h1, h2⟩⟩ := bmRow_bit _ hb
        · subst h1; exact .edge h0 (by simpa using he) hbind
        · exact .step h0 (by simpa using he) hbind (hacc _ _ h1 h2)
      · have e1 : j + 1 - 1 - i' = (j - 1 - i') + 1 := by omega
        rw [e1, List.getD_cons_succ] at hb
        exact hacc i' i (by omega) hb
    · have e2 : j + 1 + rest.length - 1 - i' = j + (rest.length + 1) - 1 - i' := by omega
      rw [e2]; exact h

theorem bmGo_length : ∀ (l : List Oper) (j : Nat) (acc : List Nat), (bmGo l j acc).length = l.length + acc.length
  | [], _, _ => by simp [bmGo]
  | o :: rest, j, acc => by simp [bmGo, fNat_eq, bmGo_length rest]; omega

theorem bms_bit {ops : List Oper} {j i x : Nat} (h : (bms ops)[j]? = some x) (hb : x.testBit i = true) : Bef ops i j := by
  have hlen : (bmGo ops 0 []).length = ops.length := by rw [bmGo_length]; simp
  have hj : j < ops.length := by
    have := (List.getElem?_eq_some_iff.1 h).1
    simpa [bms, hlen] using this
  refine bmGo_bit ops 0 [] (fun k => by simp) rfl (fun i' i hi => by omega) j i (by simpa using hj) ?_
  unfold bms at h
  rw [List.getElem?_reverse (by omega)] at h
  have e : 0 + ops.length - 1 - j = (bmGo ops 0 []).length - 1 - j := by omega
  rw [List.getD_eq_getElem?_getD, e, h]
  exact hb
theorem bms_at {ops : List Oper} {j : Nat} (hj : j < ops.length) : ∃ x, (bms ops)[j]? = some x := by
  have hlen : (bms ops).length = ops.length := by simp [bms, bmGo_length]
  exact ⟨_, List.getElem?_eq_getElem (by omega)⟩

theorem pairsFrom_spec {A : Array Oper} : ∀ (l : List (Oper × Nat)) (k : Nat), pairsFrom A k l = true → ∀ (i j : Nat) (x y : Oper × Nat), i < j → l[i]? = some x → l[j]? = some y → pairOk A (x.1, k + i) y = true
  | [], _, _, i, j, x, y, _, hi, _ => by simp at hi
  | z :: l, k, h, i, j, x, y, hij, hi, hj => by
    simp only [pairsFrom, Bool.and_eq_true, List.all_eq_true] at h
    cases i with
    | zero =>
      simp at hi; subst hi
      cases j with
      | zero => omega
      | succ j =>
        simp only [List.getElem?_cons_succ] at hj
        exact h.1 y (List.mem_of_getElem? hj)
    | succ i =>
      cases j with
      | zero => omega
      | succ j =>
        simp only [List.getElem?_cons_succ] at hi hj
        have := pairsFrom_spec l (k + 1) h.2 i j x y (by omega) hi hj
        rw [show k + (i + 1) = k + 1 + i by omega]
        exact this

/-- What the static check says. -/
structure Sta (ops : List Oper) : Prop where
  back : ∀ j o, ops[j]? = some o → ∀ e ∈ o.after, Region.binds .any e = true → e.on < j
  sel : ∀ (j : Nat) (o : Oper) cs b, ops[j]? = some o → o.op ≠ .select cs b
  pair : ∀ i j x y, i < j → ops[i]? = some x → ops[j]? = some y → Bef ops i j ∨ (¬ (isEff x = true ∧ isEff y = true) ∧ x.apart ops.toArray y = true)

theorem static_spec {ops : List Oper} (h : staticOk ops = true) : Sta ops := by
  simp only [staticOk, Bool.and_eq_true] at h
  obtain ⟨⟨h1, h2⟩, h3⟩ := h
  refine ⟨fun j o ho e he hb => ?_, fun j o cs b ho hs => ?_, fun i j x y hij hx hy => ?_⟩
  · rw [List.all_eq_true] at h1
    have := h1 (o, j) (by rw [List.mem_zipIdx_iff_getElem?]; simpa using ho)
    simp only [List.all_eq_true] at this
    have := this e (by simpa using he)
    rw [hb] at this
    simpa using this
  · rw [List.all_eq_true] at h2
    have := h2 o (List.mem_of_getElem? ho)
    rw [hs] at this
    simp at this
  · have hji : j < ops.length := (List.getElem?_eq_some_iff.1 hy).1
    obtain ⟨bi, hbi⟩ := bms_at (ops := ops) (j := i) (by omega)
    obtain ⟨bj, hbj⟩ := bms_at (ops := ops) (j := j) hji
    have := pairsFrom_spec _ 0 h3 i j (x, bi) (y, bj) hij (by rw [List.getElem?_zip_eq_some]; exact ⟨hx, hbi⟩) (by rw [List.getElem?_zip_eq_some]; exact ⟨hy, hbj⟩)
    simp only [pairOk, Nat.zero_add, Bool.or_eq_true, Bool.and_eq_true, Bool.not_eq_true'] at this
    rcases this with h | ⟨h, h'⟩
    · exact .inl (bms_bit hbj h)
    · refine .inr ⟨fun ⟨e1, e2⟩ => ?_, h'⟩
      rw [e1, e2] at h; simp at h

theorem dyn_spec {ops : List Oper} {fps : List Fp} (h : dynOk (confOf ops) fps = true) {i j : Nat} {x y : Oper} (hx : ops[i]? = some x) (hy : ops[j]? = some y) (ex : isEff x = true) (ly : isLoad y = true)
    (n1 : ¬ Bef ops i j) (n2 : ¬ Bef ops j i) {p q : Fp} (hp : fps[i]? = some p) (hq : fps[j]? = some q) : (∀ b, b ∈ q.rg → b ∉ p.wg) ∧ (∀ b, b ∈ q.rl → b ∉ p.wl) ∧ (j < i → q.bd = true) := by
  have hil : i < ops.length := (List.getElem?_eq_some_iff.1 hx).1
  have hjl : j < ops.length := (List.getElem?_eq_some_iff.1 hy).1
  obtain ⟨bi, hbi⟩ := bms_at (ops := ops) hil
  obtain ⟨bj, hbj⟩ := bms_at (ops := ops) hjl
  have m1 : bi.testBit j = false := by
    cases hb : bi.testBit j with
    | false => rfl
    | true => exact absurd (bms_bit hbi hb) n2
  have m2 : bj.testBit i = false := by
    cases hb : bj.testBit i with
    | false => rfl
    | true => exact absurd (bms_bit hbj hb) n1
  have hmem : (i, j) ∈ confOf ops := by
    unfold confOf
    rw [List.mem_flatMap]
    refine ⟨((x, bi), i), ?_, ?_⟩
    · rw [List.mem_zipIdx_iff_getElem?, List.getElem?_zip_eq_some]; exact ⟨hx, hbi⟩
    · rw [List.mem_filterMap]
      refine ⟨((y, bj), j), ?_, ?_⟩
      · rw [List.mem_zipIdx_iff_getElem?, List.getElem?_zip_eq_some]; exact ⟨hy, hbj⟩
      · simp [ex, ly, m1, m2]
  unfold dynOk at h
  rw [List.all_eq_true] at h
  have := h _ hmem
  simp only [hp, hq, Bool.and_eq_true, Bool.not_eq_true', Bool.or_eq_true] at this
  obtain ⟨⟨h1, h2⟩, h3⟩ := this
  unfold meets at h1 h2
  rw [List.any_eq_false] at h1 h2
  refine ⟨fun b hb hm => h1 b hb (by simpa using hm), fun b hb hm => h2 b hb (by simpa using hm), fun hji => ?_⟩
  rcases h3 with h3 | h3
  · have : i < j := by simpa using h3
    omega
  · exact h3

end Go.Sm
end

section
/-
  Drawn regions: the text's run, step by step.
-/
namespace Go.Sm
section
variable {P : Program} {X : Xt} {O : Orc} {esc : Nat → Bool} {ops : List Oper}

theorem trace_states : ∀ (l : List Oper) (s s' : St) (fps : List Fp), traceOps P X O esc ops l s = some (s', fps) →
    ∃ (S : Nat → St) (F : Nat → Fp), S 0 = s ∧ S l.length = s' ∧ (∀ k, k < l.length → fps[k]? = some (F k)) ∧ ∀ k o, l[k]? = some o → stepTr P X O esc ops o (S k) = some (S (k + 1), F k)
  | [], s, s', fps, h => by
    simp only [traceOps, Option.some.injEq, Prod.mk.injEq] at h
    exact ⟨fun _ => s, fun _ => ⟨[], [], [], [], true⟩, rfl, h.1, fun k hk => by simp at hk, fun k o ho => by simp at ho⟩
  | o :: rest, s, s', fps, h => by
    unfold traceOps at h
    split at h
    · rename_i s1 f h1
      split at h
      · rename_i s2 fps' h2
        simp only [Option.some.injEq, Prod.mk.injEq] at h
        obtain ⟨rfl, rfl⟩ := h
        obtain ⟨S, F, e0, e1, e2, e3⟩ := trace_states rest s1 _ _ h2
        refine ⟨fun k => match k with | 0 => s | k + 1 => S k, fun k => match k with | 0 => f | k + 1 => F k, rfl, by simpa using e1, fun k hk => ?_, fun k o' ho => ?_⟩
        · cases k with
          | zero => rfl
          | succ k => simpa using e2 k (by simpa using hk)
        · cases k with
          | zero => simp at ho; subst ho; simp only [e0]; exact h1
          | succ k => exact e3 k o' (by simpa using ho)
      · cases h
    · cases h

theorem putF_length (fr : List Value) (d : Option Tmp) (v : Value) : (putF fr d v).length = fr.length := by cases d <;> simp [putF]
theorem putF_ne (fr : List Value) {d : Option Tmp} (v : Value) {t : Nat} (h : d ≠ some t) : (putF fr d v)[t]? = fr[t]? := by
  cases d with
  | none => rfl
  | some d =>
    simp only [putF]
    rw [List.getElem?_set_ne]
    intro e; subst e; exact h rfl

structure SP (o : Oper) (s s1 : St) (f : Fp) : Prop where
  pur : Pur s.H s.loc s1.H s1.loc f.wg f.wl
  wg : s1.wg = s.wg ++ f.wg
  len : s1.fr.length = s.fr.length
  fr : ∀ t, o.dst ≠ some t → s1.fr[t]? = s.fr[t]?

theorem step_pure (hO : PureO O) {o : Oper} {s s1 : St} {f : Fp} (h : stepTr P X O esc ops o s = some (s1, f)) : SP o s s1 f := by
  unfold stepTr at h
  rcases cond_or h with h | h
  case inr => cases h
  rcases cond_or h with h | h
  · split at h
    · rename_i out hout
      simp only [Option.some.injEq, Prod.mk.injEq] at h
      obtain ⟨rfl, rfl⟩ := h
      exact ⟨evOp_pure hO hout, rfl, putF_length _ _ _, fun t ht => putF_ne _ _ ht⟩
    · cases h
  · simp only [Option.some.injEq, Prod.mk.injEq] at h
    obtain ⟨rfl, rfl⟩ := h
    exact ⟨Pur.refl _ _, by simp, putF_length _ _ _, fun t ht => putF_ne _ _ ht⟩

theorem step_quiet {o : Oper} (hne : isEff o = false) {s s1 : St} {f : Fp} (h : stepTr P X O esc ops o s = some (s1, f)) : f.wg = [] ∧ f.wl = [] := by
  unfold stepTr at h
  rcases cond_or h with h | h
  case inr => cases h
  rcases cond_or h with h | h
  · split at h
    · rename_i out hout
      simp only [Option.some.injEq, Prod.mk.injEq] at h
      obtain ⟨rfl, rfl⟩ := h
      unfold isEff at hne
      unfold evOp at hout
      simp only [fVals_eq, fSpine_eq] at hout
      split at hout
      · split at hout
        · injection hout with hout; subst hout; exact ⟨rfl, rfl⟩
        · cases hout
      · split at hout
        · split at hout
          · injection hout with hout; subst hout; exact ⟨rfl, rfl⟩
          · cases hout
        · cases hout
      · split at hout
        · rcases cond_or hout with hout | hout
          · rcases cond_or hout with hout | hout
            · injection hout with hout; subst hout; exact ⟨rfl, rfl⟩
            · cases hout
          · injection hout with hout; subst hout; exact ⟨rfl, rfl⟩
        · cases hout
      · rename_i hk; rw [hk] at hne; cases hne
    · cases h
  · simp only [Option.some.injEq, Prod.mk.injEq] at h
    obtain ⟨rfl, rfl⟩ := h
    exact ⟨rfl, rfl⟩

/-- The text's run. -/
structure Run (ops : List Oper) (S : Nat → St) (F : Nat → Fp) : Prop where
  sp : ∀ k o, ops[k]? = some o → SP o (S k) (S (k + 1)) (F k)
  quiet : ∀ k o, ops[k]? = some o → isEff o = false → (F k).wg = [] ∧ (F k).wl = []

variable {S : Nat → St} {F : Nat → Fp}

theorem Run.pur (h : Run ops S F) {k : Nat} (hk : k < ops.length) : Pur (S k).H (S k).loc (S (k + 1)).H (S (k + 1)).loc (F k).wg (F k).wl :=
  (h.sp k _ (List.getElem?_eq_getElem hk)).pur

theorem Run.mono (h : Run ops S F) {j : Nat} : ∀ {k : Nat}, j ≤ k → k ≤ ops.length → (S j).H.length ≤ (S k).H.length ∧ (S j).loc.length ≤ (S k).loc.length
  | 0, hjk, _ => by have : j = 0 := by omega
                    subst this; exact ⟨Nat.le_refl _, Nat.le_refl _⟩
  | k + 1, hjk, hk => by
    by_cases e : j = k + 1
    · subst e; exact ⟨Nat.le_refl _, Nat.le_refl _⟩
    · have h1 := h.mono (j := j) (k := k) (by omega) (by omega)
      have h2 := h.pur (k := k) (by omega)
      exact ⟨Nat.le_trans h1.1 h2.len, Nat.le_trans h1.2 h2.lenl⟩
theorem Run.monoG (h : Run ops S F) {j k : Nat} (hjk : j ≤ k) (hk : k ≤ ops.length) : (S j).H.length ≤ (S k).H.length := (h.mono hjk hk).1
theorem Run.monoL (h : Run ops S F) {j k : Nat} (hjk : j ≤ k) (hk : k ≤ ops.length) : (S j).loc.length ≤ (S k).loc.length := (h.mono hjk hk).2

theorem Run.keepG (h : Run ops S F) {j i : Nat} (hi : i < (S j).H.length) : ∀ {k : Nat}, j ≤ k → k ≤ ops.length → (∀ e, j ≤ e → e < k → i ∉ (F e).wg) → (S k).H[i]? = (S j).H[i]?
  | 0, hjk, _, _ => by have : j = 0 := by omega
                       subst this; rfl
  | k + 1, hjk, hk, hn => by
    by_cases e : j = k + 1
    · subst e; rfl
    · have h1 := h.keepG hi (k := k) (by omega) (by omega) (fun e he1 he2 => hn e he1 (by omega))
      have hlt : i < (S k).H.length := Nat.lt_of_lt_of_le hi (h.monoG (by omega) (by omega))
      exact ((h.pur (by omega)).mod i hlt (hn k (by omega) (by omega))).trans h1
theorem Run.keepL (h : Run ops S F) {j i : Nat} (hi : i < (S j).loc.length) : ∀ {k : Nat}, j ≤ k → k ≤ ops.length → (∀ e, j ≤ e → e < k → i ∉ (F e).wl) → (S k).loc[i]? = (S j).loc[i]?
  | 0, hjk, _, _ => by have : j = 0 := by omega
                       subst this; rfl
  | k + 1, hjk, hk, hn => by
    by_cases e : j = k + 1
    · subst e; rfl
    · have h1 := h.keepL hi (k := k) (by omega) (by omega) (fun e he1 he2 => hn e he1 (by omega))
      have hlt : i < (S k).loc.length := Nat.lt_of_lt_of_le hi (h.monoL (by omega) (by omega))
      exact ((h.pur (by omega)).modl i hlt (hn k (by omega) (by omega))).trans h1
theorem Run.kp (h : Run ops S F) {j i : Nat} {b : Blk} (hb : (S j).H[i]? = some b) : ∀ {k : Nat}, j ≤ k → k ≤ ops.length → ∃ b', (S k).H[i]? = some b' ∧ b'.esz = b.esz ∧ b'.loose = b.loose
  | 0, hjk, _ => by have : j = 0 := by omega
                    subst this; exact ⟨b, hb, rfl, rfl⟩
  | k + 1, hjk, hk => by
    by_cases e : j = k + 1
    · subst e; exact ⟨b, hb, rfl, rfl⟩
    · obtain ⟨b1, e1, e2, e3⟩ := h.kp hb (k := k) (by omega) (by omega)
      obtain ⟨b2, f1, f2, f3⟩ := (h.pur (k := k) (by omega)).kp i b1 e1
      exact ⟨b2, f1, f2.trans e2, f3.trans e3⟩
theorem Run.same (h : Run ops S F) {j k i : Nat} (hj : j ≤ ops.length) (hk : k ≤ ops.length) {b b' : Blk} (hb : (S j).H[i]? = some b) (hb' : (S k).H[i]? = some b') : b'.esz = b.esz ∧ b'.loose = b.loose := by
  rcases Nat.le_total j k with hjk | hjk
  · obtain ⟨b2, f1, f2, f3⟩ := h.kp hb hjk hk
    rw [hb'] at f1; injection f1 with f1; subst f1; exact ⟨f2, f3⟩
  · obtain ⟨b2, f1, f2, f3⟩ := h.kp hb' hjk hj
    rw [hb] at f1; injection f1 with f1; subst f1; exact ⟨f2.symm, f3.symm⟩
theorem Run.frl (h : Run ops S F) : ∀ {k : Nat}, k ≤ ops.length → (S k).fr.length = (S 0).fr.length
  | 0, _ => rfl
  | k + 1, hk => ((h.sp k _ (List.getElem?_eq_getElem (by omega))).len).trans (h.frl (by omega))
theorem Run.keepF (h : Run ops S F) {j t : Nat} : ∀ {k : Nat}, j ≤ k → k ≤ ops.length → (∀ c o, j ≤ c → c < k → ops[c]? = some o → o.dst ≠ some t) → (S k).fr[t]? = (S j).fr[t]?
  | 0, hjk, _, _ => by have : j = 0 := by omega
                       subst this; rfl
  | k + 1, hjk, hk, hn => by
    by_cases e : j = k + 1
    · subst e; rfl
    · have h1 := h.keepF (j := j) (t := t) (k := k) (by omega) (by omega) (fun c o hc1 hc2 ho => hn c o hc1 (by omega) ho)
      exact ((h.sp k _ (List.getElem?_eq_getElem (by omega))).fr t (hn k _ (by omega) (by omega) (List.getElem?_eq_getElem (by omega)))).trans h1

/-- More of the same: blocks behind the old ones, rows behind the old ones, new places of the map that are their own. -/
theorem ext_more {m0 m1 m2 : Mp} {H0 H loc H' loc' : Hp} {w0 w w' : World} {wg : List Nat} (h : Ext m0 H0 [] w0 m1 H loc w wg []) (hle : Le m1 m2)
    (hH : ∀ i, i < H.length → H'[i]? = H[i]?) (hHl : H.length ≤ H'.length) (hL : ∀ i, i < loc.length → loc'[i]? = loc[i]?) (hLl : loc.length ≤ loc'.length)
    (hw : ∀ g, g < w.heap.size → w'.heap[g]? = w.heap[g]?) (hs : w.heap.size ≤ w'.heap.size) (h1 : w'.os = w.os) (h2 : w'.tape = w.tape) (h3 : w'.output = w.output)
    (hg : ∀ i g, m2.gb i = some g → m1.gb i = some g ∨ (H0.length ≤ i ∧ i < H'.length ∧ g < w'.heap.size ∧ w0.heap.size ≤ g ∧ (∃ b, H'[i]? = some b ∧ GR m2 i g b w') ∧ (∀ j, m2.gb j = some g → j = i) ∧ (∀ j, m2.lb j ≠ some g)))
    (hl : ∀ i g, m2.lb i = some g → m1.lb i = some g ∨ (i < loc'.length ∧ g < w'.heap.size ∧ w0.heap.size ≤ g ∧ (∃ b, loc'[i]? = some b ∧ LR m2 g b w') ∧ (∀ j, m2.lb j = some g → j = i) ∧ (∀ j, m2.gb j ≠ some g))) :
    Ext m0 H0 [] w0 m2 H' loc' w' wg [] where
  le := h.le.trans hle
  rel := by
    refine ⟨fun i g e => ?_, fun i g e => ?_, fun i j g bi bj e e' hbi hbj li lj => ?_, fun i j g e e' => ?_, fun i j g e e' => ?_⟩
    · rcases hg i g e with e1 | ⟨_, _, e1, _, e2, _⟩
      · obtain ⟨f1, b, f2, f3⟩ := h.rel.glob i g e1
        exact ⟨Nat.lt_of_lt_of_le f1 hs, b, (hH i (List.getElem?_eq_some_iff.1 f2).1).trans f2, f3.mono hle e1 (fun _ => hw g f1)⟩
      · exact ⟨e1, e2⟩
    · rcases hl i g e with e1 | ⟨_, e1, _, e2, _⟩
      · obtain ⟨f1, b, f2, f3⟩ := h.rel.locs i g e1
        exact ⟨Nat.lt_of_lt_of_le f1 hs, b, (hL i (List.getElem?_eq_some_iff.1 f2).1).trans f2, f3.mono hle (hw g f1)⟩
      · exact ⟨e1, e2⟩
    · rcases hg i g e with e1 | ⟨_, _, _, _, _, e2, _⟩
      · rcases hg j g e' with e1' | ⟨_, _, _, _, _, e2', _⟩
        · obtain ⟨_, b, f2, _⟩ := h.rel.glob i g e1
          obtain ⟨_, b', f2', _⟩ := h.rel.glob j g e1'
          have g1 := (hH i (List.getElem?_eq_some_iff.1 f2).1).trans f2
          have g2 := (hH j (List.getElem?_eq_some_iff.1 f2').1).trans f2'
          rw [hbi] at g1; rw [hbj] at g2
          injection g1 with g1; injection g2 with g2
          subst g1; subst g2
          exact h.rel.ginj i j g _ _ e1 e1' f2 f2' li lj
        · exact e2' i e
      · exact (e2 j e').symm
    · rcases hl i g e with e1 | ⟨_, _, _, _, e2, _⟩
      · rcases hl j g e' with e1' | ⟨_, _, _, _, e2', _⟩
        · exact h.rel.linj i j g e1 e1'
        · exact e2' i e
      · exact (e2 j e').symm
    · rcases hg i g e with e1 | ⟨_, _, _, _, _, _, e2⟩
      · rcases hl j g e' with e1' | ⟨_, _, _, _, _, e2'⟩
        · exact h.rel.disj i j g e1 e1'
        · exact e2' i e
      · exact e2 j e'
  img := fun i g e => by
    rcases hg i g e with e1 | ⟨_, _, _, e1, _⟩
    · exact h.img i g e1
    · exact .inr e1
  imgl := fun i g e => by
    rcases hl i g e with e1 | ⟨_, _, e1, _⟩
    · exact h.imgl i g e1
    · exact .inr e1
  dom := fun i g e => by
    rcases hg i g e with e1 | ⟨e1, e2, _⟩
    · rcases h.dom i g e1 with f | ⟨f1, f2⟩
      · exact .inl f
      · exact .inr ⟨f1, Nat.lt_of_lt_of_le f2 hHl⟩
    · exact .inr ⟨e1, e2⟩
  doml := fun i g e => by
    rcases hl i g e with e1 | ⟨e1, _⟩
    · rcases h.doml i g e1 with f | ⟨f1, f2⟩
      · exact .inl f
      · exact .inr ⟨f1, Nat.lt_of_lt_of_le f2 hLl⟩
    · exact .inr ⟨by simp, e1⟩
  os := h1.trans h.os
  tape := h2.trans h.tape
  output := h3.trans h.output
  size := Nat.le_trans h.size hs
  frame := fun g hg' hn hn2 => (hw g (Nat.lt_of_lt_of_le hg' h.size)).trans (h.frame g hg' hn hn2)
  un := fun i hi hn => (hH i (Nat.lt_of_lt_of_le hi h.len)).trans (h.un i hi hn)
  unl := fun i hi => by simp at hi
  mod := fun i hi hn => (hH i (Nat.lt_of_lt_of_le hi h.len)).trans (h.mod i hi hn)
  modl := fun i hi => by simp at hi
  len := Nat.le_trans h.len hHl
  lenl := by simp
  kp := fun i b e => by
    obtain ⟨b', e1, e2, e3⟩ := h.kp i b e
    exact ⟨b', (hH i (List.getElem?_eq_some_iff.1 e1).1).trans e1, e2, e3⟩
  cmod := fun i g b e hb hlive hn => by
    have hg' : g < w.heap.size := (h.rel.glob i g (h.le.gb i g e)).1
    exact (hw g hg').trans (h.cmod i g b e hb hlive hn)

end
end Go.Sm
end

section
/-
  Drawn regions: what holds whichever of the operations have come up.
-/
namespace Go.Sm

/-- The map at a moment of the text's run. -/
def cutAt (m : Mp) (S : Nat → St) (k : Nat) : Mp := m.cut (S k).H.length (S k).loc.length

structure Inv (ops : List Oper) (S : Nat → St) (m0 : Mp) (H0 : Hp) (w0 : World) (L : Nat → Prop) (pe : Nat) (m : Mp) (a : Act) (w : World) : Prop where
  pel : pe ≤ ops.length
  effs : ∀ e o, ops[e]? = some o → isEff o = true → (L e ↔ e < pe)
  ext : Ext m0 H0 [] w0 (cutAt m S pe) (S pe).H (S pe).loc w (S pe).wg []
  dom : ∀ i g, m.gb i = some g → i < (S 0).H.length ∨ ∃ c, c < ops.length ∧ L c ∧ (S c).H.length ≤ i ∧ i < (S (c + 1)).H.length
  doml : ∀ i g, m.lb i = some g → i < (S 0).loc.length ∨ ∃ c, c < ops.length ∧ L c ∧ (S c).loc.length ≤ i ∧ i < (S (c + 1)).loc.length
  flG : ∀ c i g, pe ≤ c → c < ops.length → (S c).H.length ≤ i → i < (S (c + 1)).H.length → m.gb i = some g →
    g < w.heap.size ∧ w0.heap.size ≤ g ∧ (∃ b, (S (c + 1)).H[i]? = some b ∧ GR (cutAt m S (c + 1)) i g b w) ∧ (∀ j, m.gb j = some g → j = i) ∧ (∀ j, m.lb j ≠ some g)
  flL : ∀ c i g, pe ≤ c → c < ops.length → (S c).loc.length ≤ i → i < (S (c + 1)).loc.length → m.lb i = some g →
    g < w.heap.size ∧ w0.heap.size ≤ g ∧ (∃ b, (S (c + 1)).loc[i]? = some b ∧ LR (cutAt m S (c + 1)) g b w) ∧ (∀ j, m.lb j = some g → j = i) ∧ (∀ j, m.gb j ≠ some g)
  late : ∀ c, c < pe → ¬ L c → ∀ i, (S c).H.length ≤ i → i < (S (c + 1)).H.length → (S pe).H[i]? = (S (c + 1)).H[i]?
  latel : ∀ c, c < pe → ¬ L c → ∀ i, (S c).loc.length ≤ i → i < (S (c + 1)).loc.length → (S pe).loc[i]? = (S (c + 1)).loc[i]?
  fr : ∀ (t : Nat) v', a.tmps[t]? = some v' → ∃ j v, j ≤ ops.length ∧ (S j).fr[t]? = some v ∧ VR (cutAt m S j) v v' ∧ (∀ c o, ops[c]? = some o → L c → o.dst = some t → c < j) ∧
    (j = 0 ∨ ∃ c o, j = c + 1 ∧ ops[c]? = some o ∧ L c ∧ o.dst = some t)
  frl : a.tmps.size = (S 0).fr.length
  df : a.defers = []

section
variable {ops : List Oper} {S : Nat → St} {F : Nat → Fp} {m0 : Mp} {H0 : Hp} {w0 : World} {L : Nat → Prop} {pe : Nat} {m : Mp} {a : Act} {w : World}

theorem cutAt_gb {k i g : Nat} : (cutAt m S k).gb i = some g ↔ i < (S k).H.length ∧ m.gb i = some g := cut_gb
theorem cutAt_lb {k i g : Nat} : (cutAt m S k).lb i = some g ↔ i < (S k).loc.length ∧ m.lb i = some g := cut_lb
theorem Run.cutAt_mono (hr : Run ops S F) {j k : Nat} (hjk : j ≤ k) (hk : k ≤ ops.length) : Le (cutAt m S j) (cutAt m S k) := cut_mono m (hr.monoG hjk hk) (hr.monoL hjk hk)
theorem Le.cutAt {m' : Mp} (h : Le m m') (k : Nat) : Le (cutAt m S k) (cutAt m' S k) := h.cut _ _

/-- Whoever made a block is one. -/
theorem Run.makerG (hr : Run ops S F) {c d i : Nat} (hc : c < ops.length) (hd : d < ops.length) (c1 : (S c).H.length ≤ i) (c2 : i < (S (c + 1)).H.length) (d1 : (S d).H.length ≤ i) (d2 : i < (S (d + 1)).H.length) : c = d := by
  rcases Nat.lt_trichotomy c d with h | h | h
  · have := hr.monoG (j := c + 1) (k := d) (by omega) (by omega); omega
  · exact h
  · have := hr.monoG (j := d + 1) (k := c) (by omega) (by omega); omega
theorem Run.makerL (hr : Run ops S F) {c d i : Nat} (hc : c < ops.length) (hd : d < ops.length) (c1 : (S c).loc.length ≤ i) (c2 : i < (S (c + 1)).loc.length) (d1 : (S d).loc.length ≤ i) (d2 : i < (S (d + 1)).loc.length) : c = d := by
  rcases Nat.lt_trichotomy c d with h | h | h
  · have := hr.monoL (j := c + 1) (k := d) (by omega) (by omega); omega
  · exact h
  · have := hr.monoL (j := d + 1) (k := c) (by omega) (by omega); omega

/-- The blocks of one that has not come up lie nowhere. -/
theorem Inv.noneG (hr : Run ops S F) (hI : Inv ops S m0 H0 w0 L pe m a w) {k i : Nat} (hk : k < ops.length) (hnot : ¬ L k) (h1 : (S k).H.length ≤ i) (h2 : i < (S (k + 1)).H.length) : m.gb i = none := by
  cases e : m.gb i with
  | none => rfl
  | some g =>
    rcases hI.dom i g e with h | ⟨c, hc, hl, c1, c2⟩
    · have := hr.monoG (j := 0) (k := k) (by omega) (by omega); omega
    · have := hr.makerG hc hk c1 c2 h1 h2
      subst this; exact absurd hl hnot
theorem Inv.noneL (hr : Run ops S F) (hI : Inv ops S m0 H0 w0 L pe m a w) {k i : Nat} (hk : k < ops.length) (hnot : ¬ L k) (h1 : (S k).loc.length ≤ i) (h2 : i < (S (k + 1)).loc.length) : m.lb i = none := by
  cases e : m.lb i with
  | none => rfl
  | some g =>
    rcases hI.doml i g e with h | ⟨c, hc, hl, c1, c2⟩
    · have := hr.monoL (j := 0) (k := k) (by omega) (by omega); omega
    · have := hr.makerL hc hk c1 c2 h1 h2
      subst this; exact absurd hl hnot

/-- A mapped block is either there at the moment pe, or made by one that came up early. -/
theorem Inv.whereG (hr : Run ops S F) (hI : Inv ops S m0 H0 w0 L pe m a w) {i g : Nat} (e : m.gb i = some g) : i < (S pe).H.length ∨ ∃ c, pe ≤ c ∧ c < ops.length ∧ (S c).H.length ≤ i ∧ i < (S (c + 1)).H.length := by
  rcases hI.dom i g e with h | ⟨c, hc, hl, c1, c2⟩
  · exact .inl (Nat.lt_of_lt_of_le h (hr.monoG (by omega) hI.pel))
  · by_cases h : pe ≤ c
    · exact .inr ⟨c, h, hc, c1, c2⟩
    · exact .inl (Nat.lt_of_lt_of_le c2 (hr.monoG (by omega) hI.pel))
theorem Inv.whereL (hr : Run ops S F) (hI : Inv ops S m0 H0 w0 L pe m a w) {i g : Nat} (e : m.lb i = some g) : i < (S pe).loc.length ∨ ∃ c, pe ≤ c ∧ c < ops.length ∧ (S c).loc.length ≤ i ∧ i < (S (c + 1)).loc.length := by
  rcases hI.doml i g e with h | ⟨c, hc, hl, c1, c2⟩
  · exact .inl (Nat.lt_of_lt_of_le h (hr.monoL (by omega) hI.pel))
  · by_cases h : pe ≤ c
    · exact .inr ⟨c, h, hc, c1, c2⟩
    · exact .inl (Nat.lt_of_lt_of_le c2 (hr.monoL (by omega) hI.pel))
theorem Inv.ltG (hr : Run ops S F) (hI : Inv ops S m0 H0 w0 L pe m a w) {i g : Nat} (e : m.gb i = some g) : g < w.heap.size := by
  rcases hI.whereG hr e with h | ⟨c, h1, h2, h3, h4⟩
  · exact (hI.ext.rel.glob i g (cutAt_gb.2 ⟨h, e⟩)).1
  · exact (hI.flG c i g h1 h2 h3 h4 e).1
theorem Inv.ltL (hr : Run ops S F) (hI : Inv ops S m0 H0 w0 L pe m a w) {i g : Nat} (e : m.lb i = some g) : g < w.heap.size := by
  rcases hI.whereL hr e with h | ⟨c, h1, h2, h3, h4⟩
  · exact (hI.ext.rel.locs i g (cutAt_lb.2 ⟨h, e⟩)).1
  · exact (hI.flL c i g h1 h2 h3 h4 e).1

theorem Inv.esz (hr : Run ops S F) (hI : Inv ops S m0 H0 w0 L pe m a w) {k : Nat} (hk : k ≤ ops.length) : EszR (cutAt m S k) (S k).H := by
  intro i g b hi hb
  have e := (cutAt_gb.1 hi).2
  rcases hI.whereG hr e with h | ⟨c, h1, h2, h3, h4⟩
  · obtain ⟨_, b0, hb0, hG⟩ := hI.ext.rel.glob i g (cutAt_gb.2 ⟨h, e⟩)
    have := hr.same hI.pel hk hb0 hb
    exact ⟨hG.ez.trans this.1.symm, hG.lo.trans this.2.symm⟩
  · obtain ⟨_, _, ⟨b0, hb0, hG⟩, _⟩ := hI.flG c i g h1 h2 h3 h4 e
    have := hr.same (by omega) hk hb0 hb
    exact ⟨hG.ez.trans this.1.symm, hG.lo.trans this.2.symm⟩

/-- The moment moves past one that does not act. -/
theorem Inv.shift1 (hr : Run ops S F) (hI : Inv ops S m0 H0 w0 L pe m a w) {o : Oper} (ho : ops[pe]? = some o) (hq : isEff o = false) : Inv ops S m0 H0 w0 L (pe + 1) m a w := by
  have hlt : pe < ops.length := (List.getElem?_eq_some_iff.1 ho).1
  have hp := hr.pur hlt
  have hqu := hr.quiet pe o ho hq
  rw [hqu.1, hqu.2] at hp
  have hwg : (S (pe + 1)).wg = (S pe).wg := by have := (hr.sp pe o ho).wg; rw [hqu.1] at this; simpa using this
  refine ⟨hlt, fun e o' ho' he => ?_, ?_, hI.dom, hI.doml, fun c i g h1 => hI.flG c i g (by omega), fun c i g h1 => hI.flL c i g (by omega), fun c hc hn i h1 h2 => ?_, fun c hc hn i h1 h2 => ?_, hI.fr, hI.frl, hI.df⟩
  · rw [hI.effs e o' ho' he]
    constructor
    · intro h; omega
    · intro h
      by_cases he' : e = pe
      · subst he'; rw [ho] at ho'; injection ho' with ho'; subst ho'; rw [hq] at he; cases he
      · omega
  · rw [hwg]
    refine ext_more hI.ext (hr.cutAt_mono (by omega) hlt) (fun i hi => hp.mod i hi (by simp)) hp.len (fun i hi => hp.modl i hi (by simp)) hp.lenl (fun _ _ => rfl) (Nat.le_refl _) rfl rfl rfl (fun i g e => ?_) (fun i g e => ?_)
    · obtain ⟨e1, e2⟩ := cutAt_gb.1 e
      by_cases hi : i < (S pe).H.length
      · exact .inl (cutAt_gb.2 ⟨hi, e2⟩)
      · obtain ⟨f1, f2, f3, f4, f5⟩ := hI.flG pe i g (Nat.le_refl _) hlt (by omega) e1 e2
        exact .inr ⟨Nat.le_trans hI.ext.len (by omega), e1, f1, f2, f3, fun j ej => f4 j (cutAt_gb.1 ej).2, fun j ej => f5 j (cutAt_lb.1 ej).2⟩
    · obtain ⟨e1, e2⟩ := cutAt_lb.1 e
      by_cases hi : i < (S pe).loc.length
      · exact .inl (cutAt_lb.2 ⟨hi, e2⟩)
      · obtain ⟨f1, f2, f3, f4, f5⟩ := hI.flL pe i g (Nat.le_refl _) hlt (by omega) e1 e2
        exact .inr ⟨e1, f1, f2, f3, fun j ej => f4 j (cutAt_lb.1 ej).2, fun j ej => f5 j (cutAt_gb.1 ej).2⟩
  · by_cases hcp : c = pe
    · subst hcp; rfl
    · have hi : i < (S pe).H.length := Nat.lt_of_lt_of_le h2 (hr.monoG (by omega) hI.pel)
      exact (hp.mod i hi (by simp)).trans (hI.late c (by omega) hn i h1 h2)
  · by_cases hcp : c = pe
    · subst hcp; rfl
    · have hi : i < (S pe).loc.length := Nat.lt_of_lt_of_le h2 (hr.monoL (by omega) hI.pel)
      exact (hp.modl i hi (by simp)).trans (hI.latel c (by omega) hn i h1 h2)

theorem Inv.shift (hr : Run ops S F) : ∀ (d : Nat) {pe : Nat}, Inv ops S m0 H0 w0 L pe m a w → pe + d ≤ ops.length → (∀ e o, pe ≤ e → e < pe + d → ops[e]? = some o → isEff o = false) → Inv ops S m0 H0 w0 L (pe + d) m a w
  | 0, _, hI, _, _ => hI
  | d + 1, pe, hI, hd, hn => by
    have h1 := hI.shift1 hr (List.getElem?_eq_getElem (show pe < ops.length by omega)) (hn pe _ (Nat.le_refl _) (by omega) (List.getElem?_eq_getElem (by omega)))
    have := Inv.shift hr d h1 (by omega) (fun e o h1 h2 => hn e o (by omega) (by omega))
    rw [show pe + (d + 1) = pe + 1 + d by omega]
    exact this

/-- What a slot holds for one that may come up. -/
theorem Inv.read (hr : Run ops S F) (hs : Sta ops) (hI : Inv ops S m0 H0 w0 L pe m a w) (hcl : Closed ops L) {k : Nat} {o : Oper} (ho : ops[k]? = some o) (hnot : ¬ L k)
    (hrd : ∀ e ∈ o.after, Region.binds .any e = true → L e.on) {t : Nat} (ht : t ∈ o.looksAt ops.toArray) {v' : Value} (hv : a.tmps[t]? = some v') :
    ∃ v, (S k).fr[t]? = some v ∧ VR (cutAt m S k) v v' := by
  have hk : k < ops.length := (List.getElem?_eq_some_iff.1 ho).1
  have hrd' : ∀ o', ops[k]? = some o' → ∀ e ∈ o'.after, Region.binds .any e = true → L e.on := fun o' ho' => by
    rw [ho] at ho'; injection ho' with ho'; subst ho'; exact hrd
  obtain ⟨j, v, hj, e1, e2, e3, e4⟩ := hI.fr t v' hv
  by_cases hjk : j ≤ k
  · refine ⟨v, ?_, e2.mono (hr.cutAt_mono hjk (by omega))⟩
    rw [hr.keepF (j := j) hjk (by omega) (fun c o' hc1 hc2 ho' hd => ?_)]
    · exact e1
    · rcases hs.pair c k o' o hc2 ho' ho with hb | ⟨_, hap⟩
      · have := e3 c o' ho' (hb.ready hcl hrd') hd; omega
      · exact (Oper.apart_spec hap).1 t hd ht
  · rcases e4 with rfl | ⟨c, o', rfl, ho', hLc, hd⟩
    · omega
    · have hck : c ≠ k := fun e => hnot (e ▸ hLc)
      rcases hs.pair k c o o' (by omega) ho ho' with hb | ⟨_, hap⟩
      · exact absurd (hb.closed hcl hLc) hnot
      · exact absurd ht ((Oper.apart_spec hap).2.2 t hd)

theorem Inv.readD (hr : Run ops S F) (hs : Sta ops) (hI : Inv ops S m0 H0 w0 L pe m a w) (hcl : Closed ops L) {k : Nat} {o : Oper} (ho : ops[k]? = some o) (hnot : ¬ L k)
    (hrd : ∀ e ∈ o.after, Region.binds .any e = true → L e.on) {t : Nat} (ht : t ∈ o.looksAt ops.toArray) : VR (cutAt m S k) ((S k).fr.getD t undef) (a.tmps.getD t undef) := by
  have hk : k < ops.length := (List.getElem?_eq_some_iff.1 ho).1
  cases hv : a.tmps[t]? with
  | some v' =>
    obtain ⟨v, h1, h2⟩ := hI.read hr hs hcl ho hnot hrd ht hv
    rw [List.getD_eq_getElem?_getD, h1, Array.getD_eq_getD_getElem?, hv]
    exact h2
  | none =>
    have h1 : a.tmps.size ≤ t := by simpa using hv
    have h2 : (S k).fr[t]? = none := by
      rw [List.getElem?_eq_none]
      rw [hr.frl (by omega), ← hI.frl]; exact h1
    rw [List.getD_eq_getElem?_getD, h2, Array.getD_eq_getD_getElem?, hv]
    exact VR.undef _

theorem Inv.opR (hr : Run ops S F) (hs : Sta ops) (hc : constsOk ops = true) (hI : Inv ops S m0 H0 w0 L pe m a w) (hcl : Closed ops L) {k : Nat} {o : Oper} (ho : ops[k]? = some o) (hnot : ¬ L k)
    (hrd : ∀ e ∈ o.after, Region.binds .any e = true → L e.on) : OpR (cutAt m S k) (evalO (S k).fr) a.eval o := by
  intro x hx
  have hx' : operandOk x = true := by
    unfold constsOk at hc
    rw [List.all_eq_true] at hc
    have := hc o (List.mem_of_getElem? ho)
    rw [List.all_eq_true] at this
    exact this x (by simpa using hx)
  cases x with
  | tmp t =>
    have ht : t ∈ o.looksAt ops.toArray := List.mem_append_left _ (List.mem_filterMap.2 ⟨.tmp t, by simpa using hx, rfl⟩)
    exact hI.readD hr hs hcl ho hnot hrd ht
  | const v => exact plain_vr _ 4 v hx'
  | global g => cases hx'
  | func f => exact .func (by simpa [operandOk] using hx') rfl (fun i v v' h => by simp at h) rfl (fun i v v' h => by simp at h)

theorem Inv.wanted (hr : Run ops S F) (hs : Sta ops) (hI : Inv ops S m0 H0 w0 L pe m a w) (hcl : Closed ops L) {k : Nat} {o : Oper} (ho : ops[k]? = some o) (hnot : ¬ L k)
    (hrd : ∀ e ∈ o.after, Region.binds .any e = true → L e.on) (hgo : guardOk ops (S k).fr o = true) : Region.wanted o (yielded ops.toArray a.tmps) = wantedA ops (S k).fr o := by
  have hk : k < ops.length := (List.getElem?_eq_some_iff.1 ho).1
  unfold guardOk at hgo
  unfold Region.wanted wantedA
  cases hg : o.guard with
  | none => rfl
  | some jw =>
    obtain ⟨j, want⟩ := jw
    rw [hg] at hgo
    simp only [yielded, List.getElem?_toArray]
    cases hd : (ops[j]?).bind (·.dst) with
    | none => simp
    | some t =>
      simp only [hd] at hgo
      simp only [Option.bind_some]
      have ht : t ∈ o.looksAt ops.toArray := by
        unfold Oper.looksAt
        rw [hg]
        refine List.mem_append_right _ ?_
        simp [hd]
      cases hv : a.tmps[t]? with
      | none =>
        have h1 : a.tmps.size ≤ t := by simpa using hv
        have h2 : (S k).fr[t]? = none := by
          rw [List.getElem?_eq_none]
          rw [hr.frl (by omega), ← hI.frl]; exact h1
        simp [h2]
      | some v' =>
        obtain ⟨v, h1, h2⟩ := hI.read hr hs hcl ho hnot hrd ht hv
        rw [h1] at hgo ⊢
        cases h2 <;> first | (simp; done) | (rename_i h0 _; simp [isSym, h0] at hgo)

theorem Inv.envE (hI : Inv ops S m0 H0 w0 L pe m a w) {E : Env} (h : m0.env = E) : m.env = E := hI.ext.le.env.trans h

/-- A slot is written by the one that comes up. -/
theorem Inv.slots (hr : Run ops S F) (hs : Sta ops) (hI : Inv ops S m0 H0 w0 L pe m a w) (hcl : Closed ops L) {k : Nat} {o : Oper} (ho : ops[k]? = some o) (hnot : ¬ L k) {m' : Mp} (hle : Le m m') {v v' : Value}
    (hfr : (S (k + 1)).fr = putF (S k).fr o.dst v) (hv : VR (cutAt m' S (k + 1)) v v') :
    ∀ (t : Nat) u', (a.put o.dst v').tmps[t]? = some u' → ∃ j u, j ≤ ops.length ∧ (S j).fr[t]? = some u ∧ VR (cutAt m' S j) u u' ∧ (∀ c o', ops[c]? = some o' → (L c ∨ c = k) → o'.dst = some t → c < j) ∧
      (j = 0 ∨ ∃ c o', j = c + 1 ∧ ops[c]? = some o' ∧ (L c ∨ c = k) ∧ o'.dst = some t) := by
  have hk : k < ops.length := (List.getElem?_eq_some_iff.1 ho).1
  intro t u' hu
  by_cases hd : o.dst = some t
  · have hts : t < a.tmps.size := by
      have := (Array.getElem?_eq_some_iff.1 hu).1
      rw [hd] at this
      simpa [Act.put] using this
    have hu' : u' = v' := by
      rw [hd] at hu
      simp only [Act.put] at hu
      rw [Array.getElem?_setIfInBounds_self_of_lt hts] at hu
      injection hu with hu; exact hu.symm
    subst hu'
    refine ⟨k + 1, v, hk, ?_, hv, fun c o' ho' hc hd' => ?_, .inr ⟨k, o, rfl, ho, .inr rfl, hd⟩⟩
    · rw [hfr, hd]
      simp only [putF]
      rw [List.getElem?_set_self]
      rw [hr.frl (by omega), ← hI.frl]; exact hts
    · rcases hc with hc | hc
      · by_cases hck : c ≤ k
        · omega
        · rcases hs.pair k c o o' (by omega) ho ho' with hb | ⟨_, hap⟩
          · exact absurd (hb.closed hcl hc) hnot
          · exact absurd hd' ((Oper.apart_spec hap).2.1 t hd)
      · omega
  · have hu2 : a.tmps[t]? = some u' := by
      cases hdd : o.dst with
      | none => rw [hdd] at hu; exact hu
      | some d =>
        rw [hdd] at hu hd
        simp only [Act.put] at hu
        rwa [Array.getElem?_setIfInBounds_ne (fun e => hd (by rw [e]))] at hu
    obtain ⟨j, u, h1, h2, h3, h4, h5⟩ := hI.fr t u' hu2
    refine ⟨j, u, h1, h2, h3.mono (hle.cutAt j), fun c o' ho' hc hd' => ?_, ?_⟩
    · rcases hc with hc | hc
      · exact h4 c o' ho' hc hd'
      · subst hc; rw [ho] at ho'; injection ho' with ho'; subst ho'; exact absurd hd' hd
    · rcases h5 with h5 | ⟨c, o', e1, e2, e3, e4⟩
      · exact .inl h5
      · exact .inr ⟨c, o', e1, e2, .inl e3, e4⟩

theorem put_size (a : Act) (d : Option Tmp) (v : Value) : (a.put d v).tmps.size = a.tmps.size := by cases d <;> simp [Act.put]
theorem put_df (a : Act) (d : Option Tmp) (v : Value) : (a.put d v).defers = a.defers := by cases d <;> rfl

/-- One that neither acts nor makes a block comes up. -/
theorem Inv.calm (hr : Run ops S F) (hs : Sta ops) (hI : Inv ops S m0 H0 w0 L pe m a w) (hcl : Closed ops L) {k : Nat} {o : Oper} (ho : ops[k]? = some o) (hnot : ¬ L k) (hq : isEff o = false) {v v' : Value}
    (hfr : (S (k + 1)).fr = putF (S k).fr o.dst v) (hv : VR (cutAt m S (k + 1)) v v') : Inv ops S m0 H0 w0 (fun c => L c ∨ c = k) pe m (a.put o.dst v') w := by
  refine ⟨hI.pel, fun e o' ho' he => ?_, hI.ext, fun i g e => ?_, fun i g e => ?_, hI.flG, hI.flL, fun c hc hn => hI.late c hc (fun h => hn (.inl h)), fun c hc hn => hI.latel c hc (fun h => hn (.inl h)),
    hI.slots hr hs hcl ho hnot (Le.refl m) hfr hv, by rw [put_size]; exact hI.frl, by rw [put_df]; exact hI.df⟩
  · rw [← hI.effs e o' ho' he]
    constructor
    · rintro (h | h)
      · exact h
      · subst h; rw [ho] at ho'; injection ho' with ho'; subst ho'; rw [hq] at he; cases he
    · exact .inl
  · rcases hI.dom i g e with h | ⟨c, h1, h2, h3⟩
    · exact .inl h
    · exact .inr ⟨c, h1, .inl h2, h3⟩
  · rcases hI.doml i g e with h | ⟨c, h1, h2, h3⟩
    · exact .inl h
    · exact .inr ⟨c, h1, .inl h2, h3⟩

end
end Go.Sm
end

section
/-
  Drawn regions: one after the other comes up, in whatever order.
-/
namespace Go.Sm
section
variable {P : Program} {ops : List Oper} {S : Nat → St} {F : Nat → Fp} {m0 : Mp} {H0 : Hp} {w0 : World} {L : Nat → Prop} {pe : Nat} {m : Mp} {a : Act} {w : World}

theorem addG_inv {i g : Nat} {lo : Bool} {ez tt j g' : Nat} (e : (m.addG i g lo ez tt).gb j = some g') : m.gb j = some g' ∨ (j = i ∧ g' = g) := by
  simp only [Mp.addG] at e
  by_cases h : j = i
  · simp [h] at e; exact .inr ⟨h, e.symm⟩
  · simp [h] at e; exact .inl e
theorem addL_inv {i g j g' : Nat} (e : (m.addL i g).lb j = some g') : m.lb j = some g' ∨ (j = i ∧ g' = g) := by
  simp only [Mp.addL] at e
  by_cases h : j = i
  · simp [h] at e; exact .inr ⟨h, e.symm⟩
  · simp [h] at e; exact .inl e

theorem size_alloc' (w : World) (o : Obj) : (w.alloc o).heap.size = w.heap.size + 1 := World.size_alloc ..

theorem Inv.makeG (hr : Run ops S F) (hs : Sta ops) (hI : Inv ops S m0 H0 w0 L pe m a w) (h0 : H0.length ≤ (S 0).H.length) (hcl : Closed ops L) {k : Nat} {o : Oper} (ho : ops[k]? = some o) (hnot : ¬ L k) (hq : isEff o = false) {b : Blk} {cs : Array Value}
    (hH : (S (k + 1)).H = (S k).H ++ [b]) (hl : (S (k + 1)).loc = (S k).loc) (hc : VRs (cutAt m S k).noL b.cells cs.toList) (hlo : b.loose = false) {v v' : Value}
    (hfr : (S (k + 1)).fr = putF (S k).fr o.dst v) (hv : VR (cutAt (m.addG (S k).H.length w.heap.size b.loose b.esz cs.size) S (k + 1)) v v') :
    Inv ops S m0 H0 w0 (fun c => L c ∨ c = k) pe (m.addG (S k).H.length w.heap.size b.loose b.esz cs.size) (a.put o.dst v') (w.alloc (.cells cs b.elem)) := by
  have hk : k < ops.length := (List.getElem?_eq_some_iff.1 ho).1
  have hlen : (S (k + 1)).H.length = (S k).H.length + 1 := by rw [hH]; simp
  have hnone : m.gb (S k).H.length = none := hI.noneG hr hk hnot (Nat.le_refl _) (by omega)
  have hle : Le m (m.addG (S k).H.length w.heap.size b.loose b.esz cs.size) := le_addG hnone
  have hb : (S (k + 1)).H[(S k).H.length]? = some b := by rw [hH]; simp
  have hin : (m.addG (S k).H.length w.heap.size b.loose b.esz cs.size).gb (S k).H.length = some w.heap.size := by simp [Mp.addG]
  have hGR : GR (cutAt (m.addG (S k).H.length w.heap.size b.loose b.esz cs.size) S (k + 1)) (S k).H.length w.heap.size b (w.alloc (.cells cs b.elem)) := by
    have hcl : b.cells.length = cs.size := by simpa using hc.1
    refine ⟨by simp [cutAt, Mp.cut, Mp.addG], by simp [cutAt, Mp.cut, Mp.addG], fun _ => ⟨cs, heap_alloc_new w _, by omega, ?_, fun _ => hcl.symm, fun e => by rw [hlo] at e; cases e⟩⟩
    rw [hcl, show cs.size = cs.toList.length by simp, List.take_length]
    exact hc.mono ((hle.cutAt k).trans (hr.cutAt_mono (by omega) hk)).noL
  have huniq : ∀ j, (m.addG (S k).H.length w.heap.size b.loose b.esz cs.size).gb j = some w.heap.size → j = (S k).H.length := fun j e => by
    rcases addG_inv e with e | ⟨e, _⟩
    · have := hI.ltG hr e; omega
    · exact e
  have hnl : ∀ j, m.lb j ≠ some w.heap.size := fun j e => by have := hI.ltL hr e; omega
  have hws : w0.heap.size ≤ w.heap.size := hI.ext.size
  refine ⟨hI.pel, fun e o' ho' he => ?_, ?_, fun i g e => ?_, fun i g e => ?_, fun c i g c1 c2 c3 c4 e => ?_, fun c i g c1 c2 c3 c4 e => ?_, fun c hc hn => hI.late c hc (fun h => hn (.inl h)), fun c hc hn => hI.latel c hc (fun h => hn (.inl h)),
    hI.slots hr hs hcl ho hnot hle hfr hv, by rw [put_size]; exact hI.frl, by rw [put_df]; exact hI.df⟩
  · rw [← hI.effs e o' ho' he]
    constructor
    · rintro (h | h)
      · exact h
      · subst h; rw [ho] at ho'; injection ho' with ho'; subst ho'; rw [hq] at he; cases he
    · exact .inl
  · refine ext_more hI.ext (hle.cutAt pe) (fun _ _ => rfl) (Nat.le_refl _) (fun _ _ => rfl) (Nat.le_refl _) (fun g hg => heap_alloc_lt w _ hg) (by rw [size_alloc']; omega) rfl rfl rfl (fun i g e => ?_) (fun i g e => .inl e)
    obtain ⟨e1, e2⟩ := cutAt_gb.1 e
    rcases addG_inv e2 with e3 | ⟨rfl, rfl⟩
    · exact .inl (cutAt_gb.2 ⟨e1, e3⟩)
    · have hkp : k < pe := by
        rcases Nat.lt_or_ge k pe with h | h
        · exact h
        · have := hr.monoG h (by omega); omega
      refine .inr ⟨Nat.le_trans h0 (hr.monoG (by omega) (by omega)), e1, by rw [size_alloc']; omega, hws, ⟨b, ?_, hGR.mono (hr.cutAt_mono (by omega) hI.pel) (cutAt_gb.2 ⟨by omega, hin⟩) (fun _ => rfl)⟩, fun j e => huniq j (cutAt_gb.1 e).2, fun j e => hnl j (cutAt_lb.1 e).2⟩
      rw [hI.late k hkp hnot _ (Nat.le_refl _) (by omega)]; exact hb
  · rcases addG_inv e with e | ⟨rfl, rfl⟩
    · rcases hI.dom i g e with h | ⟨c, h1, h2, h3⟩
      · exact .inl h
      · exact .inr ⟨c, h1, .inl h2, h3⟩
    · exact .inr ⟨k, hk, .inr rfl, Nat.le_refl _, by omega⟩
  · rcases hI.doml i g e with h | ⟨c, h1, h2, h3⟩
    · exact .inl h
    · exact .inr ⟨c, h1, .inl h2, h3⟩
  · rcases addG_inv e with e | ⟨rfl, rfl⟩
    · obtain ⟨f1, f2, ⟨b0, f3, f4⟩, f5, f6⟩ := hI.flG c i g c1 c2 c3 c4 e
      refine ⟨by rw [size_alloc']; omega, f2, ⟨b0, f3, f4.mono (hle.cutAt (c + 1)) (cutAt_gb.2 ⟨c4, e⟩) (fun _ => heap_alloc_lt w _ f1)⟩, fun j ej => ?_, f6⟩
      rcases addG_inv ej with ej | ⟨_, ej⟩
      · exact f5 j ej
      · omega
    · have := hr.makerG c2 hk c3 c4 (Nat.le_refl _) (by omega)
      subst this
      exact ⟨by rw [size_alloc']; omega, hws, ⟨b, hb, hGR⟩, huniq, hnl⟩
  · obtain ⟨f1, f2, ⟨b0, f3, f4⟩, f5, f6⟩ := hI.flL c i g c1 c2 c3 c4 e
    refine ⟨by rw [size_alloc']; omega, f2, ⟨b0, f3, f4.mono (hle.cutAt (c + 1)) (heap_alloc_lt w _ f1)⟩, f5, fun j ej => ?_⟩
    rcases addG_inv ej with ej | ⟨_, ej⟩
    · exact f6 j ej
    · omega

theorem Inv.makeL (hr : Run ops S F) (hs : Sta ops) (hI : Inv ops S m0 H0 w0 L pe m a w) (hcl : Closed ops L) {k : Nat} {o : Oper} (ho : ops[k]? = some o) (hnot : ¬ L k) (hq : isEff o = false) {b : Blk} {cs : Array Value}
    (hH : (S (k + 1)).H = (S k).H) (hl : (S (k + 1)).loc = (S k).loc ++ [b]) (hc : VRs (cutAt m S k) b.cells cs.toList) (hlive : b.live = true) {v v' : Value}
    (hfr : (S (k + 1)).fr = putF (S k).fr o.dst v) (hv : VR (cutAt (m.addL (S k).loc.length w.heap.size) S (k + 1)) v v') :
    Inv ops S m0 H0 w0 (fun c => L c ∨ c = k) pe (m.addL (S k).loc.length w.heap.size) (a.put o.dst v') (w.alloc (.cells cs b.elem)) := by
  have hk : k < ops.length := (List.getElem?_eq_some_iff.1 ho).1
  have hlen : (S (k + 1)).loc.length = (S k).loc.length + 1 := by rw [hl]; simp
  have hnone : m.lb (S k).loc.length = none := hI.noneL hr hk hnot (Nat.le_refl _) (by omega)
  have hle : Le m (m.addL (S k).loc.length w.heap.size) := le_addL hnone
  have hb : (S (k + 1)).loc[(S k).loc.length]? = some b := by rw [hl]; simp
  have hLR : LR (cutAt (m.addL (S k).loc.length w.heap.size) S (k + 1)) w.heap.size b (w.alloc (.cells cs b.elem)) :=
    ⟨fun _ => ⟨cs, heap_alloc_new w _, hc.mono ((hle.cutAt k).trans (hr.cutAt_mono (by omega) hk))⟩, fun e => by rw [hlive] at e; cases e⟩
  have huniq : ∀ j, (m.addL (S k).loc.length w.heap.size).lb j = some w.heap.size → j = (S k).loc.length := fun j e => by
    rcases addL_inv e with e | ⟨e, _⟩
    · have := hI.ltL hr e; omega
    · exact e
  have hnl : ∀ j, m.gb j ≠ some w.heap.size := fun j e => by have := hI.ltG hr e; omega
  have hws : w0.heap.size ≤ w.heap.size := hI.ext.size
  refine ⟨hI.pel, fun e o' ho' he => ?_, ?_, fun i g e => ?_, fun i g e => ?_, fun c i g c1 c2 c3 c4 e => ?_, fun c i g c1 c2 c3 c4 e => ?_, fun c hc hn => hI.late c hc (fun h => hn (.inl h)), fun c hc hn => hI.latel c hc (fun h => hn (.inl h)),
    hI.slots hr hs hcl ho hnot hle hfr hv, by rw [put_size]; exact hI.frl, by rw [put_df]; exact hI.df⟩
  · rw [← hI.effs e o' ho' he]
    constructor
    · rintro (h | h)
      · exact h
      · subst h; rw [ho] at ho'; injection ho' with ho'; subst ho'; rw [hq] at he; cases he
    · exact .inl
  · refine ext_more hI.ext (hle.cutAt pe) (fun _ _ => rfl) (Nat.le_refl _) (fun _ _ => rfl) (Nat.le_refl _) (fun g hg => heap_alloc_lt w _ hg) (by rw [size_alloc']; omega) rfl rfl rfl (fun i g e => .inl e) (fun i g e => ?_)
    obtain ⟨e1, e2⟩ := cutAt_lb.1 e
    rcases addL_inv e2 with e3 | ⟨rfl, rfl⟩
    · exact .inl (cutAt_lb.2 ⟨e1, e3⟩)
    · have hkp : k < pe := by
        rcases Nat.lt_or_ge k pe with h | h
        · exact h
        · have := hr.monoL h (by omega); omega
      refine .inr ⟨e1, by rw [size_alloc']; omega, hws, ⟨b, ?_, hLR.mono (hr.cutAt_mono (by omega) hI.pel) rfl⟩, fun j e => huniq j (cutAt_lb.1 e).2, fun j e => hnl j (cutAt_gb.1 e).2⟩
      rw [hI.latel k hkp hnot _ (Nat.le_refl _) (by omega)]; exact hb
  · rcases hI.dom i g e with h | ⟨c, h1, h2, h3⟩
    · exact .inl h
    · exact .inr ⟨c, h1, .inl h2, h3⟩
  · rcases addL_inv e with e | ⟨rfl, rfl⟩
    · rcases hI.doml i g e with h | ⟨c, h1, h2, h3⟩
      · exact .inl h
      · exact .inr ⟨c, h1, .inl h2, h3⟩
    · exact .inr ⟨k, hk, .inr rfl, Nat.le_refl _, by omega⟩
  · obtain ⟨f1, f2, ⟨b0, f3, f4⟩, f5, f6⟩ := hI.flG c i g c1 c2 c3 c4 e
    refine ⟨by rw [size_alloc']; omega, f2, ⟨b0, f3, f4.mono (hle.cutAt (c + 1)) (cutAt_gb.2 ⟨c4, e⟩) (fun _ => heap_alloc_lt w _ f1)⟩, f5, fun j ej => ?_⟩
    rcases addL_inv ej with ej | ⟨_, ej⟩
    · exact f6 j ej
    · omega
  · rcases addL_inv e with e | ⟨rfl, rfl⟩
    · obtain ⟨f1, f2, ⟨b0, f3, f4⟩, f5, f6⟩ := hI.flL c i g c1 c2 c3 c4 e
      refine ⟨by rw [size_alloc']; omega, f2, ⟨b0, f3, f4.mono (hle.cutAt (c + 1)) (heap_alloc_lt w _ f1)⟩, fun j ej => ?_, f6⟩
      rcases addL_inv ej with ej | ⟨_, ej⟩
      · exact f5 j ej
      · omega
    · have := hr.makerL c2 hk c3 c4 (Nat.le_refl _) (by omega)
      subst this
      exact ⟨by rw [size_alloc']; omega, hws, ⟨b, hb, hLR⟩, huniq, hnl⟩

/-- The one that acts comes up: the moment stands at it. -/
theorem Inv.act (hr : Run ops S F) (hs : Sta ops) (hcl : Closed ops L) {k : Nat} (hI : Inv ops S m0 H0 w0 L k m a w) {o : Oper} (ho : ops[k]? = some o) (hnot : ¬ L k) {m1 : Mp} {w' : World} {wl : List Nat}
    (hx : Ext (cutAt m S k) (S k).H (S k).loc w m1 (S (k + 1)).H (S (k + 1)).loc w' (F k).wg wl) {v v' : Value}
    (hfr : (S (k + 1)).fr = putF (S k).fr o.dst v) (hv : VR m1 v v') : ∃ m', Inv ops S m0 H0 w0 (fun c => L c ∨ c = k) (k + 1) m' (a.put o.dst v') w' := by
  have hk : k < ops.length := (List.getElem?_eq_some_iff.1 ho).1
  have hp := hr.pur hk
  let m' : Mp := { gb := fun i => if i < (S (k + 1)).H.length then m1.gb i else m.gb i, lb := fun i => if i < (S (k + 1)).loc.length then m1.lb i else m.lb i,
                   loose := fun i => if i < (S (k + 1)).H.length then m1.loose i else m.loose i, esz := fun i => if i < (S (k + 1)).H.length then m1.esz i else m.esz i, tot := fun i => if i < (S (k + 1)).H.length then m1.tot i else m.tot i, env := m1.env }
  have hgb : ∀ i g, m'.gb i = some g → (i < (S (k + 1)).H.length ∧ m1.gb i = some g) ∨ ((S (k + 1)).H.length ≤ i ∧ m.gb i = some g) := fun i g e => by
    simp only [m'] at e
    by_cases h : i < (S (k + 1)).H.length
    · simp [h] at e; exact .inl ⟨h, e⟩
    · simp [h] at e; exact .inr ⟨by omega, e⟩
  have hlb : ∀ i g, m'.lb i = some g → (i < (S (k + 1)).loc.length ∧ m1.lb i = some g) ∨ ((S (k + 1)).loc.length ≤ i ∧ m.lb i = some g) := fun i g e => by
    simp only [m'] at e
    by_cases h : i < (S (k + 1)).loc.length
    · simp [h] at e; exact .inl ⟨h, e⟩
    · simp [h] at e; exact .inr ⟨by omega, e⟩
  have hdom1 : ∀ i g, m1.gb i = some g → i < (S (k + 1)).H.length := fun i g e => by
    obtain ⟨_, b, h2, _⟩ := hx.rel.glob i g e
    exact (List.getElem?_eq_some_iff.1 h2).1
  have hdom1l : ∀ i g, m1.lb i = some g → i < (S (k + 1)).loc.length := fun i g e => by
    obtain ⟨_, b, h2, _⟩ := hx.rel.locs i g e
    exact (List.getElem?_eq_some_iff.1 h2).1
  have hle1 : Le m1 m' := ⟨fun i g e => by simp [m', hdom1 i g e, e], fun i g e => by simp [m', hdom1l i g e, e], fun i g e => by simp [m', hdom1 i g e], fun i g e => by simp [m', hdom1 i g e], fun i g e => by simp [m', hdom1 i g e], rfl⟩
  have hle1c : Le m1 (cutAt m' S (k + 1)) := ⟨fun i g e => cutAt_gb.2 ⟨hdom1 i g e, hle1.gb i g e⟩, fun i g e => cutAt_lb.2 ⟨hdom1l i g e, hle1.lb i g e⟩, fun i g e => hle1.loose i g e, fun i g e => hle1.esz i g e, fun i g e => hle1.tot i g e, rfl⟩
  have hmk : ∀ i g, m.gb i = some g → i < (S (k + 1)).H.length → (cutAt m S k).gb i = some g := fun i g e hi => by
    by_cases h : i < (S k).H.length
    · exact cutAt_gb.2 ⟨h, e⟩
    · rw [hI.noneG hr hk hnot (by omega) hi] at e; cases e
  have hmkl : ∀ i g, m.lb i = some g → i < (S (k + 1)).loc.length → (cutAt m S k).lb i = some g := fun i g e hi => by
    by_cases h : i < (S k).loc.length
    · exact cutAt_lb.2 ⟨h, e⟩
    · rw [hI.noneL hr hk hnot (by omega) hi] at e; cases e
  have hle : Le m m' := by
    refine ⟨fun i g e => ?_, fun i g e => ?_, fun i g e => ?_, fun i g e => ?_, fun i g e => ?_, hx.le.env⟩
    · by_cases h : i < (S (k + 1)).H.length
      · simp [m', h, hx.le.gb i g (hmk i g e h)]
      · simp [m', h, e]
    · by_cases h : i < (S (k + 1)).loc.length
      · simp [m', h, hx.le.lb i g (hmkl i g e h)]
      · simp [m', h, e]
    · by_cases h : i < (S (k + 1)).H.length
      · simp [m', h, hx.le.loose i g (hmk i g e h), cutAt, Mp.cut]
      · simp [m', h]
    · by_cases h : i < (S (k + 1)).H.length
      · simp [m', h, hx.le.esz i g (hmk i g e h), cutAt, Mp.cut]
      · simp [m', h]
    · by_cases h : i < (S (k + 1)).H.length
      · simp [m', h, hx.le.tot i g (hmk i g e h), cutAt, Mp.cut]
      · simp [m', h]
  refine ⟨m', hk, fun e o' ho' he => ?_, ?_, fun i g e => ?_, fun i g e => ?_, fun c i g c1 c2 c3 c4 e => ?_, fun c i g c1 c2 c3 c4 e => ?_, fun c hc hn i h1 h2 => ?_, fun c hc hn i h1 h2 => ?_,
    hI.slots hr hs hcl ho hnot hle hfr (hv.mono hle1c), by rw [put_size]; exact hI.frl, by rw [put_df]; exact hI.df⟩
  · constructor
    · rintro (h | h)
      · have := (hI.effs e o' ho' he).1 h; omega
      · omega
    · intro h
      by_cases hek : e = k
      · exact .inr hek
      · exact .inl ((hI.effs e o' ho' he).2 (by omega))
  · have h1 := (hI.ext.trans hx).nil_wl
    have hwg : (S (k + 1)).wg = (S k).wg ++ (F k).wg := (hr.sp k o ho).wg
    rw [hwg]
    refine ext_more h1 hle1c (fun _ _ => rfl) (Nat.le_refl _) (fun _ _ => rfl) (Nat.le_refl _) (fun _ _ => rfl) (Nat.le_refl _) rfl rfl rfl (fun i g e => ?_) (fun i g e => ?_)
    · obtain ⟨e1, e2⟩ := cutAt_gb.1 e
      rcases hgb i g e2 with ⟨_, h⟩ | ⟨h, _⟩
      · exact .inl h
      · omega
    · obtain ⟨e1, e2⟩ := cutAt_lb.1 e
      rcases hlb i g e2 with ⟨_, h⟩ | ⟨h, _⟩
      · exact .inl h
      · omega
  · rcases hgb i g e with ⟨h1, h2⟩ | ⟨h1, h2⟩
    · rcases hx.dom i g h2 with h3 | ⟨h3, h4⟩
      · rcases hI.dom i g (cutAt_gb.1 h3).2 with h | ⟨c, h1, h2, h3⟩
        · exact .inl h
        · exact .inr ⟨c, h1, .inl h2, h3⟩
      · exact .inr ⟨k, hk, .inr rfl, h3, h4⟩
    · rcases hI.dom i g h2 with h | ⟨c, h1, h2, h3⟩
      · exact .inl h
      · exact .inr ⟨c, h1, .inl h2, h3⟩
  · rcases hlb i g e with ⟨h1, h2⟩ | ⟨h1, h2⟩
    · rcases hx.doml i g h2 with h3 | ⟨h3, h4⟩
      · rcases hI.doml i g (cutAt_lb.1 h3).2 with h | ⟨c, h1, h2, h3⟩
        · exact .inl h
        · exact .inr ⟨c, h1, .inl h2, h3⟩
      · exact .inr ⟨k, hk, .inr rfl, h3, h4⟩
    · rcases hI.doml i g h2 with h | ⟨c, h1, h2, h3⟩
      · exact .inl h
      · exact .inr ⟨c, h1, .inl h2, h3⟩
  · have hge : (S (k + 1)).H.length ≤ i := Nat.le_trans (hr.monoG c1 (by omega)) c3
    rcases hgb i g e with ⟨h1, _⟩ | ⟨_, e⟩
    · omega
    obtain ⟨f1, f2, ⟨b0, f3, f4⟩, f5, f6⟩ := hI.flG c i g (by omega) c2 c3 c4 e
    have hgek : (S k).H.length ≤ i := Nat.le_trans hp.len hge
    have hsame : w'.heap[g]? = w.heap[g]? := hx.frame g f1 (fun j ej => by have := f5 j (cutAt_gb.1 ej).2; have := (cutAt_gb.1 ej).1; omega) (fun j ej => f6 j (cutAt_lb.1 ej).2)
    refine ⟨Nat.lt_of_lt_of_le f1 hx.size, f2, ⟨b0, f3, f4.mono (hle.cutAt (c + 1)) (cutAt_gb.2 ⟨c4, e⟩) (fun _ => hsame)⟩, fun j ej => ?_, fun j ej => ?_⟩
    · rcases hgb j g ej with ⟨_, ej⟩ | ⟨_, ej⟩
      · rcases hx.img j g ej with ⟨j', ej'⟩ | h
        · have := f5 j' (cutAt_gb.1 ej').2; have := (cutAt_gb.1 ej').1; omega
        · omega
      · exact f5 j ej
    · rcases hlb j g ej with ⟨_, ej⟩ | ⟨_, ej⟩
      · rcases hx.imgl j g ej with ej' | h
        · exact f6 j (cutAt_lb.1 ej').2
        · omega
      · exact f6 j ej
  · have hge : (S (k + 1)).loc.length ≤ i := Nat.le_trans (hr.monoL c1 (by omega)) c3
    rcases hlb i g e with ⟨h1, _⟩ | ⟨_, e⟩
    · omega
    obtain ⟨f1, f2, ⟨b0, f3, f4⟩, f5, f6⟩ := hI.flL c i g (by omega) c2 c3 c4 e
    have hgek : (S k).loc.length ≤ i := Nat.le_trans hp.lenl hge
    have hsame : w'.heap[g]? = w.heap[g]? := hx.frame g f1 (fun j ej => f6 j (cutAt_gb.1 ej).2) (fun j ej => by have := f5 j (cutAt_lb.1 ej).2; have := (cutAt_lb.1 ej).1; omega)
    refine ⟨Nat.lt_of_lt_of_le f1 hx.size, f2, ⟨b0, f3, f4.mono (hle.cutAt (c + 1)) hsame⟩, fun j ej => ?_, fun j ej => ?_⟩
    · rcases hlb j g ej with ⟨_, ej⟩ | ⟨_, ej⟩
      · rcases hx.imgl j g ej with ej' | h
        · have := f5 j (cutAt_lb.1 ej').2; have := (cutAt_lb.1 ej').1; omega
        · omega
      · exact f5 j ej
    · rcases hgb j g ej with ⟨_, ej⟩ | ⟨_, ej⟩
      · rcases hx.img j g ej with ⟨j', ej'⟩ | h
        · exact f6 j' (cutAt_gb.1 ej').2
        · omega
      · exact f6 j ej
  · have hck : c < k := by
      by_cases h : c = k
      · exact absurd (.inr h) hn
      · omega
    have hnL : ¬ L c := fun h => hn (.inl h)
    have hi : i < (S k).H.length := Nat.lt_of_lt_of_le h2 (hr.monoG (by omega) (by omega))
    have hnone : (cutAt m S k).gb i = none := by
      cases e : (cutAt m S k).gb i with
      | none => rfl
      | some g => have := hI.noneG hr (show c < ops.length by omega) hnL h1 h2; rw [(cutAt_gb.1 e).2] at this; cases this
    exact (hx.un i hi hnone).trans (hI.late c hck hnL i h1 h2)
  · have hck : c < k := by
      by_cases h : c = k
      · exact absurd (.inr h) hn
      · omega
    have hnL : ¬ L c := fun h => hn (.inl h)
    have hi : i < (S k).loc.length := Nat.lt_of_lt_of_le h2 (hr.monoL (by omega) (by omega))
    have hnone : (cutAt m S k).lb i = none := by
      cases e : (cutAt m S k).lb i with
      | none => rfl
      | some g => have := hI.noneL hr (show c < ops.length by omega) hnL h1 h2; rw [(cutAt_lb.1 e).2] at this; cases this
    exact (hx.unl i hi hnone).trans (hI.latel c hck hnL i h1 h2)

end
end Go.Sm
end

section
/-
  Drawn regions: every order does what the text's order does.
-/
namespace Go.Sm
section
variable {P : Program} {m : Mp} {H loc : Hp} {w : World}

theorem read_blk {a a' : Addr} (hG : ∀ i g, a.spot = none → a.block = i → m.gb i = some g → ∃ b, H[i]? = some b ∧ GR m i g b w) (hLc : ∀ i g, a.spot = some 0 → a.block = i → m.lb i = some g → ∃ b, loc[i]? = some b ∧ LR m g b w) (har : AR m a a') {n : Nat} {vs : List Value} (h : readCells H loc a n = some vs) :
    ∃ vs', VRs m vs vs' ∧ vs.length = n ∧ ∀ j v, vs'[j]? = some v → w.cell? (a'.add j) = some v := by
  obtain ⟨b', o', s'⟩ := a'
  have hs := har.spot
  simp only at hs
  subst hs
  have hadd : ∀ j, (⟨b', o', none⟩ : Addr).add j = ⟨b', o' + j, none⟩ := fun j => addr_add_spot rfl j
  unfold readCells at h
  simp only [fSpine_eq] at h
  rcases har with ⟨h1, h2, h3, _⟩ | ⟨h1, h2, h3, _⟩
  · rw [h1] at h
    simp only at h h2 h3
    split at h
    · rename_i b hb
      cases hc : (b.live && decide (a.off + n ≤ b.cells.length)) with
      | false => rw [hc] at h; cases h
      | true =>
        rw [hc] at h
        simp only [cond_true, Option.some.injEq] at h
        subst h
        simp only [Bool.and_eq_true, decide_eq_true_eq] at hc
        obtain ⟨b0, hb0, hG⟩ := hG _ _ h1 rfl h2
        rw [hb] at hb0; injection hb0 with hb0; subst hb0
        obtain ⟨cs, e1, e2, e3, _⟩ := hG.blk hc.1
        refine ⟨(((cs.toList.take b.cells.length)).drop a.off).take n, ((e3.mono (noL_le m)).drop _).take _, by simp; omega, fun j v hv => ?_⟩
        rw [hadd, cell_of_block e1]
        simp only [List.getElem?_take, List.getElem?_drop] at hv
        split at hv
        · split at hv
          · rw [h3]; simpa using hv
          · cases hv
        · cases hv
    · cases h
  · rw [h1] at h
    simp only at h h2 h3
    split at h
    · rename_i b hb
      cases hc : (b.live && decide (a.off + n ≤ b.cells.length)) with
      | false => rw [hc] at h; cases h
      | true =>
        rw [hc] at h
        simp only [cond_true, Option.some.injEq] at h
        subst h
        simp only [Bool.and_eq_true, decide_eq_true_eq] at hc
        obtain ⟨b0, hb0, hL⟩ := hLc _ _ h1 rfl h2
        rw [hb] at hb0; injection hb0 with hb0; subst hb0
        obtain ⟨cs, e1, e3⟩ := hL.blk hc.1
        refine ⟨((cs.toList).drop a.off).take n, (e3.drop _).take _, by simp; omega, fun j v hv => ?_⟩
        rw [hadd, cell_of_block e1]
        simp only [List.getElem?_take, List.getElem?_drop] at hv
        split at hv
        · rw [h3]; simpa using hv
        · cases hv
    · cases h

theorem load_blk {t : TypeId} {x x' v : Value} (hG : ∀ a i g, x = .pointer (some a) → a.spot = none → a.block = i → m.gb i = some g → ∃ b, H[i]? = some b ∧ GR m i g b w) (hLc : ∀ a i g, x = .pointer (some a) → a.spot = some 0 → a.block = i → m.lb i = some g → ∃ b, loc[i]? = some b ∧ LR m g b w) (hx : VR m x x') (h : evLoad P H loc t x = some v) :
    ∃ v', (Instr.loadAt t x').run P w = .ok v' w ∧ VR m v v' := by
  unfold evLoad at h
  split at h
  · rename_i a
    obtain ⟨a', rfl, har⟩ := vr_ptr hx
    split at h
    · rename_i hagg
      split at h
      · rename_i i hi
        split at h
        · rename_i vs hvs
          injection h with h; subst h
          obtain ⟨vs', hvr, hlen, hcell⟩ := read_blk (fun i g => hG _ i g rfl) (fun i g => hLc _ i g rfl) har hvs
          refine ⟨.agg vs'.toArray, ?_, hvr.agg⟩
          have := run_loadCells_list (P := P) w a' vs' hcell
          have hl : vs'.length = i.size := by have := hvr.1; omega
          rw [hl] at this
          simp [Instr.loadAt, Instr.sureAddr, loadVar, run_isAgg hagg, run_sizeOf' hi, this]
        · cases h
      · cases h
    · rename_i hagg
      split at h
      · rename_i v0 hvs
        injection h with h; subst h
        obtain ⟨vs', hvr, hlen, hcell⟩ := read_blk (fun i g => hG _ i g rfl) (fun i g => hLc _ i g rfl) har hvs
        obtain ⟨v', l', rfl, h1, h2⟩ := hvr.cons_inv
        have hc := hcell 0 v' rfl
        have e0 : a'.add 0 = a' := rfl
        rw [e0] at hc
        exact ⟨v', by simp [Instr.loadAt, Instr.sureAddr, loadVar, run_isAgg hagg, hc], h1⟩
      · cases h
    · cases h
  · cases h


theorem Bef.lt {ops : List Oper} (hs : Sta ops) {i j : Nat} (h : Bef ops i j) : i < j := by
  induction h with
  | edge ho he hb => exact hs.back _ _ ho _ he hb
  | step ho he hb _ ih => exact Nat.lt_trans ih (hs.back _ _ ho _ he hb)
end

section
variable {P : Program} {ops : List Oper} {S : Nat → St} {F : Nat → Fp} {m0 : Mp} {H0 : Hp} {w0 : World} {L : Nat → Prop} {pe : Nat} {m : Mp} {a : Act} {w : World}

/-- What a load is told of those that act and stand apart from it. -/
def DynR (ops : List Oper) (F : Nat → Fp) : Prop := ∀ i j x y, ops[i]? = some x → ops[j]? = some y → isEff x = true → isLoad y = true → ¬ Bef ops i j → ¬ Bef ops j i →
  (∀ b, b ∈ (F j).rg → b ∉ (F i).wg) ∧ (∀ b, b ∈ (F j).rl → b ∉ (F i).wl) ∧ (j < i → (F j).bd = true)

/-- A load comes up. -/
theorem Inv.load (hr : Run ops S F) (hs : Sta ops) (hdy : DynR ops F) (hI : Inv ops S m0 H0 w0 L pe m a w) (hcl : Closed ops L) (htop : pe = 0 ∨ ∃ o, ops[pe - 1]? = some o ∧ isEff o = true) {k : Nat} {o : Oper} (ho : ops[k]? = some o) (hnot : ¬ L k)
    (hrd : ∀ e ∈ o.after, Region.binds .any e = true → L e.on) (hld : isLoad o = true) {t : TypeId} {x x' v : Value} (hx : VR (cutAt m S k) x x') (h : evLoad P (S k).H (S k).loc t x = some v)
    (hrg : ∀ ad, x = .pointer (some ad) → (ad.spot = none → ad.block ∈ (F k).rg) ∧ (ad.spot = some 0 → ad.block ∈ (F k).rl)) (hbd : (F k).bd = boundB (S k).H.length (S k).loc.length 6 v) :
    ∃ v', (Instr.loadAt t x').run P w = .ok v' w ∧ VR (cutAt m S (k + 1)) v v' := by
  have hk : k < ops.length := (List.getElem?_eq_some_iff.1 ho).1
  have hne : isEff o = false := by unfold isLoad at hld; unfold isEff; split at hld <;> simp_all
  have hrd' : ∀ o', ops[k]? = some o' → ∀ e ∈ o'.after, Region.binds .any e = true → L e.on := fun o' ho' => by
    rw [ho] at ho'; injection ho' with ho'; subst ho'; exact hrd
  -- those that act between: they stand apart
  have hfar : ∀ e o', ops[e]? = some o' → isEff o' = true → ((e < k ∧ ¬ L e) ∨ (k < e ∧ L e)) → ¬ Bef ops e k ∧ ¬ Bef ops k e := fun e o' ho' he hc => by
    rcases hc with ⟨h1, h2⟩ | ⟨h1, h2⟩
    · exact ⟨fun hb => h2 (hb.ready hcl hrd'), fun hb => by have := hb.lt hs; omega⟩
    · exact ⟨fun hb => by have := hb.lt hs; omega, fun hb => hnot (hb.closed hcl h2)⟩
  have hskipG : ∀ j, pe ≤ j → ∀ i, i ∈ (F k).rg → ∀ e, j ≤ e → e < k → i ∉ (F e).wg := fun j hj i hi e h1 h2 => by
    have ho' : ops[e]? = some ops[e] := List.getElem?_eq_getElem (by omega)
    cases he : isEff ops[e] with
    | false => rw [(hr.quiet e _ ho' he).1]; simp
    | true =>
      have hnL : ¬ L e := fun hl => by have := (hI.effs e _ ho' he).1 hl; omega
      obtain ⟨n1, n2⟩ := hfar e _ ho' he (.inl ⟨h2, hnL⟩)
      exact (hdy e k _ o ho' ho he hld n1 n2).1 i hi
  have hskipL : ∀ j, pe ≤ j → ∀ i, i ∈ (F k).rl → ∀ e, j ≤ e → e < k → i ∉ (F e).wl := fun j hj i hi e h1 h2 => by
    have ho' : ops[e]? = some ops[e] := List.getElem?_eq_getElem (by omega)
    cases he : isEff ops[e] with
    | false => rw [(hr.quiet e _ ho' he).2]; simp
    | true =>
      have hnL : ¬ L e := fun hl => by have := (hI.effs e _ ho' he).1 hl; omega
      obtain ⟨n1, n2⟩ := hfar e _ ho' he (.inl ⟨h2, hnL⟩)
      exact (hdy e k _ o ho' ho he hld n1 n2).2.1 i hi
  have hbackG : ∀ i, i ∈ (F k).rg → ∀ e, k ≤ e → e < pe → i ∉ (F e).wg := fun i hi e h1 h2 => by
    have hpl := hI.pel
    have ho' : ops[e]? = some ops[e] := List.getElem?_eq_getElem (by omega)
    cases he : isEff ops[e] with
    | false => rw [(hr.quiet e _ ho' he).1]; simp
    | true =>
      have hek : e ≠ k := fun e' => by subst e'; rw [ho] at ho'; injection ho' with ho'; rw [← ho', hne] at he; cases he
      have hL : L e := (hI.effs e _ ho' he).2 h2
      obtain ⟨n1, n2⟩ := hfar e _ ho' he (.inr ⟨by omega, hL⟩)
      exact (hdy e k _ o ho' ho he hld n1 n2).1 i hi
  have hbackL : ∀ i, i ∈ (F k).rl → ∀ e, k ≤ e → e < pe → i ∉ (F e).wl := fun i hi e h1 h2 => by
    have hpl := hI.pel
    have ho' : ops[e]? = some ops[e] := List.getElem?_eq_getElem (by omega)
    cases he : isEff ops[e] with
    | false => rw [(hr.quiet e _ ho' he).2]; simp
    | true =>
      have hek : e ≠ k := fun e' => by subst e'; rw [ho] at ho'; injection ho' with ho'; rw [← ho', hne] at he; cases he
      have hL : L e := (hI.effs e _ ho' he).2 h2
      obtain ⟨n1, n2⟩ := hfar e _ ho' he (.inr ⟨by omega, hL⟩)
      exact (hdy e k _ o ho' ho he hld n1 n2).2.1 i hi
  obtain ⟨ad, hxa⟩ : ∃ ad, x = .pointer (some ad) := by
    unfold evLoad at h
    split at h
    · exact ⟨_, rfl⟩
    · cases h
  obtain ⟨hrg1, hrg2⟩ := hrg ad hxa
  have hx0 := hx
  rw [hxa] at hx
  obtain ⟨ad', hx', har⟩ := vr_ptr hx
  have hpl := hI.pel
  rcases har with ⟨s1, s2, s3, s4⟩ | ⟨s1, s2, s3, s4⟩
  · obtain ⟨hik, hig⟩ := cutAt_gb.1 s2
    have hmem := hrg1 s1
    rcases hI.whereG hr hig with hw | ⟨c, c1, c2, c3, c4⟩
    · -- there at the moment
      have hsame : (S k).H[ad.block]? = (S pe).H[ad.block]? := by
        rcases Nat.le_total pe k with hpk | hpk
        · exact hr.keepG hw hpk (by omega) (hskipG pe (Nat.le_refl _) _ hmem)
        · exact (hr.keepG hik hpk hpl (hbackG _ hmem)).symm
      have hxp : VR (cutAt m S pe) x x' := by
        rw [hxa, hx']
        exact AR.vr (.inl ⟨s1, cutAt_gb.2 ⟨hw, hig⟩, s3, s4⟩)
      obtain ⟨v', h1, h2⟩ := load_blk (m := cutAt m S pe) (w := w) (P := P) (H := (S k).H) (loc := (S k).loc) (fun a1 i g e1 e2 e3 e4 => by
          rw [hxa] at e1; injection e1 with e1; injection e1 with e1; subst e1; subst e3
          obtain ⟨_, b, f1, f2⟩ := hI.ext.rel.glob _ g e4
          exact ⟨b, hsame.trans f1, f2⟩) (fun a1 i g e1 e2 => by
          rw [hxa] at e1; injection e1 with e1; injection e1 with e1; subst e1; rw [s1] at e2; cases e2) hxp h
      refine ⟨v', h1, ?_⟩
      rcases Nat.lt_or_ge k pe with hpk | hpk
      · have hb : (F k).bd = true := by
          rcases htop with hp0 | ⟨oe, hoe, hee⟩
          · omega
          · have hLe : L (pe - 1) := (hI.effs _ _ hoe hee).2 (by omega)
            have hek : pe - 1 ≠ k := fun e' => by rw [e', ho] at hoe; injection hoe with hoe; rw [← hoe, hne] at hee; cases hee
            obtain ⟨n1, n2⟩ := hfar _ _ hoe hee (.inr ⟨by omega, hLe⟩)
            exact (hdy _ k _ o hoe ho hee hld n1 n2).2.2 (by omega)
        rw [hbd] at hb
        have := bound_vr 6 v v' hb h2
        exact this.mono ⟨fun i g e => cutAt_gb.2 ⟨Nat.lt_of_lt_of_le (cut_gb.1 e).1 (hr.monoG (by omega) (by omega)), (cutAt_gb.1 (cut_gb.1 e).2).2⟩, fun i g e => cutAt_lb.2 ⟨Nat.lt_of_lt_of_le (cut_lb.1 e).1 (hr.monoL (by omega) (by omega)), (cutAt_lb.1 (cut_lb.1 e).2).2⟩, fun _ _ _ => rfl, fun _ _ _ => rfl, fun _ _ _ => rfl, rfl⟩
      · exact h2.mono (hr.cutAt_mono (by omega) (by omega))
    · -- made early
      have hck : c < k := by
        rcases Nat.lt_or_ge c k with h | h
        · exact h
        · have := hr.monoG h (by omega); omega
      obtain ⟨f1, f2, ⟨b, f3, f4⟩, f5, f6⟩ := hI.flG c _ _ c1 c2 c3 c4 hig
      have hsame : (S k).H[ad.block]? = (S (c + 1)).H[ad.block]? := hr.keepG c4 (by omega) (by omega) (hskipG (c + 1) (by omega) _ hmem)
      have hxp : VR (cutAt m S (c + 1)) x x' := by
        rw [hxa, hx']
        exact AR.vr (.inl ⟨s1, cutAt_gb.2 ⟨c4, hig⟩, s3, s4⟩)
      obtain ⟨v', h1, h2⟩ := load_blk (m := cutAt m S (c + 1)) (w := w) (P := P) (H := (S k).H) (loc := (S k).loc) (fun a1 i g e1 e2 e3 e4 => by
          rw [hxa] at e1; injection e1 with e1; injection e1 with e1; subst e1; subst e3
          have e5 := (cutAt_gb.1 e4).2
          rw [hig] at e5; injection e5 with e5; subst e5
          exact ⟨b, hsame.trans f3, f4⟩) (fun a1 i g e1 e2 => by
          rw [hxa] at e1; injection e1 with e1; injection e1 with e1; subst e1; rw [s1] at e2; cases e2) hxp h
      exact ⟨v', h1, h2.mono (hr.cutAt_mono (by omega) (by omega))⟩
  · obtain ⟨hik, hig⟩ := cutAt_lb.1 s2
    have hmem := hrg2 s1
    rcases hI.whereL hr hig with hw | ⟨c, c1, c2, c3, c4⟩
    · have hsame : (S k).loc[ad.block]? = (S pe).loc[ad.block]? := by
        rcases Nat.le_total pe k with hpk | hpk
        · exact hr.keepL hw hpk (by omega) (hskipL pe (Nat.le_refl _) _ hmem)
        · exact (hr.keepL hik hpk hpl (hbackL _ hmem)).symm
      have hxp : VR (cutAt m S pe) x x' := by
        rw [hxa, hx']
        exact AR.vr (.inr ⟨s1, cutAt_lb.2 ⟨hw, hig⟩, s3, s4⟩)
      obtain ⟨v', h1, h2⟩ := load_blk (m := cutAt m S pe) (w := w) (P := P) (H := (S k).H) (loc := (S k).loc) (fun a1 i g e1 e2 => by
          rw [hxa] at e1; injection e1 with e1; injection e1 with e1; subst e1; rw [s1] at e2; cases e2) (fun a1 i g e1 e2 e3 e4 => by
          rw [hxa] at e1; injection e1 with e1; injection e1 with e1; subst e1; subst e3
          obtain ⟨_, b, f1, f2⟩ := hI.ext.rel.locs _ g e4
          exact ⟨b, hsame.trans f1, f2⟩) hxp h
      refine ⟨v', h1, ?_⟩
      rcases Nat.lt_or_ge k pe with hpk | hpk
      · have hb : (F k).bd = true := by
          rcases htop with hp0 | ⟨oe, hoe, hee⟩
          · omega
          · have hLe : L (pe - 1) := (hI.effs _ _ hoe hee).2 (by omega)
            have hek : pe - 1 ≠ k := fun e' => by rw [e', ho] at hoe; injection hoe with hoe; rw [← hoe, hne] at hee; cases hee
            obtain ⟨n1, n2⟩ := hfar _ _ hoe hee (.inr ⟨by omega, hLe⟩)
            exact (hdy _ k _ o hoe ho hee hld n1 n2).2.2 (by omega)
        rw [hbd] at hb
        have := bound_vr 6 v v' hb h2
        exact this.mono ⟨fun i g e => cutAt_gb.2 ⟨Nat.lt_of_lt_of_le (cut_gb.1 e).1 (hr.monoG (by omega) (by omega)), (cutAt_gb.1 (cut_gb.1 e).2).2⟩, fun i g e => cutAt_lb.2 ⟨Nat.lt_of_lt_of_le (cut_lb.1 e).1 (hr.monoL (by omega) (by omega)), (cutAt_lb.1 (cut_lb.1 e).2).2⟩, fun _ _ _ => rfl, fun _ _ _ => rfl, fun _ _ _ => rfl, rfl⟩
      · exact h2.mono (hr.cutAt_mono (by omega) (by omega))
    · have hck : c < k := by
        rcases Nat.lt_or_ge c k with h | h
        · exact h
        · have := hr.monoL h (by omega); omega
      obtain ⟨f1, f2, ⟨b, f3, f4⟩, f5, f6⟩ := hI.flL c _ _ c1 c2 c3 c4 hig
      have hsame : (S k).loc[ad.block]? = (S (c + 1)).loc[ad.block]? := hr.keepL c4 (by omega) (by omega) (hskipL (c + 1) (by omega) _ hmem)
      have hxp : VR (cutAt m S (c + 1)) x x' := by
        rw [hxa, hx']
        exact AR.vr (.inr ⟨s1, cutAt_lb.2 ⟨c4, hig⟩, s3, s4⟩)
      obtain ⟨v', h1, h2⟩ := load_blk (m := cutAt m S (c + 1)) (w := w) (P := P) (H := (S k).H) (loc := (S k).loc) (fun a1 i g e1 e2 => by
          rw [hxa] at e1; injection e1 with e1; injection e1 with e1; subst e1; rw [s1] at e2; cases e2) (fun a1 i g e1 e2 e3 e4 => by
          rw [hxa] at e1; injection e1 with e1; injection e1 with e1; subst e1; subst e3
          have e5 := (cutAt_lb.1 e4).2
          rw [hig] at e5; injection e5 with e5; subst e5
          exact ⟨b, hsame.trans f3, f4⟩) hxp h
      exact ⟨v', h1, h2.mono (hr.cutAt_mono (by omega) (by omega))⟩

end
end Go.Sm
end

section
/-
  Drawn regions: sound.
-/
namespace Go.Sm
section
variable {P : Program} {ops : List Oper} {S : Nat → St} {F : Nat → Fp} {m0 : Mp} {H0 : Hp} {w0 : World}

def Lof (listed : Array Bool) (k : Nat) : Prop := listed.getD k false = true

theorem lof_set {listed : Array Bool} {k : Nat} (hk : k < listed.size) : Lof (listed.setIfInBounds k true) = fun c => Lof listed c ∨ c = k := by
  funext c
  apply propext
  unfold Lof
  by_cases hck : c = k
  · subst hck
    simp [Array.getD_eq_getD_getElem?, hk]
  · simp only [Array.getD_eq_getD_getElem?, Array.getElem?_setIfInBounds_ne (Ne.symm hck), hck, or_false]

theorem cond_cases {α : Type} {c : Bool} {x y : Option α} {r : α} (h : cond c x y = some r) : (c = true ∧ x = some r) ∨ (c = false ∧ y = some r) := by
  cases c with
  | true => exact .inl ⟨rfl, h⟩
  | false => exact .inr ⟨rfl, h⟩

theorem count_set {l : List Bool} : ∀ {k : Nat}, l[k]? = some false → (l.set k true).count false + 1 = l.count false := by
  induction l with
  | nil => intro k h; simp at h
  | cons b l ih =>
    intro k h
    cases k with
    | zero => simp at h; subst h; simp
    | succ k =>
      simp only [List.getElem?_cons_succ] at h
      have := ih h
      simp only [List.set_cons_succ, List.count_cons]
      omega

theorem any_sound (hN : Named P) {X : Xt} (hX : GoodX P X) {O : Orc} (hO : GoodO P X.env O) (hE0 : m0.env = X.env) {esc : Nat → Bool} (hr : Run ops S F) (hs : Sta ops) (hdy : DynR ops F) (hc : constsOk ops = true) (h0 : H0.length ≤ (S 0).H.length)
    (hst : ∀ k o, ops[k]? = some o → stepTr P X O esc ops o (S k) = some (S (k + 1), F k)) {Q : Exit → Act → World → Prop}
    (hQ : ∀ m a w, Sim m0 H0 w0 (S ops.length) m a w → Q .normal a w) :
    ∀ (fuel : Nat) (listed : Array Bool) (pe : Nat) (m : Mp) (a : Act) (w : World), listed.size = ops.length → listed.toList.count false = fuel → Closed ops (Lof listed) →
      (pe = 0 ∨ ∃ o, ops[pe - 1]? = some o ∧ isEff o = true) → Inv ops S m0 H0 w0 (Lof listed) pe m a w → wpAny P .any ops.toArray Q fuel listed a w := by
  have hdone : ∀ (listed : Array Bool) (pe : Nat) (m : Mp) (a : Act) (w : World), listed.size = ops.length → Inv ops S m0 H0 w0 (Lof listed) pe m a w → Region.ready .any ops.toArray listed = [] → Q .normal a w := by
    intro listed pe m a w hsz hI hrdy
    have hall : ∀ k, k < ops.length → Lof listed k := by
      intro k
      induction k using Nat.strongRecOn with
      | ind k ih =>
        intro hk
        by_cases h : Lof listed k
        · exact h
        · exfalso
          have : k ∈ Region.ready .any ops.toArray listed := by
            rw [mem_ready]
            refine ⟨?_, ops[k], by simp [hk], fun e he hb => ?_⟩
            · unfold Lof at h
              have : k < listed.size := by omega
              simp [Array.getD_eq_getD_getElem?, this] at h ⊢
              exact h
            · have hlt := hs.back k _ (List.getElem?_eq_getElem hk) e he hb
              exact ih e.on hlt (by omega)
          rw [hrdy] at this; cases this
    have hpl := hI.pel
    have hI' := hI.shift hr (ops.length - pe) (by omega) (fun e o h1 h2 ho => by
      cases he : isEff o with
      | false => rfl
      | true => have := (hI.effs e o ho he).1 (hall e (List.getElem?_eq_some_iff.1 ho).1); omega)
    rw [show pe + (ops.length - pe) = ops.length by omega] at hI'
    refine hQ (cutAt m S ops.length) a w ⟨hI'.ext, ?_, hI.df⟩
    refine ⟨by rw [hr.frl (Nat.le_refl _), ← hI.frl]; simp, fun t v v' hv hv' => ?_⟩
    obtain ⟨j, u, h1, h2, h3, h4, h5⟩ := hI.fr t v' (by simpa using hv')
    have : (S ops.length).fr[t]? = (S j).fr[t]? := hr.keepF h1 (Nat.le_refl _) (fun c o hc1 hc2 ho hd => by have := h4 c o ho (hall c hc2) hd; omega)
    rw [hv, h2] at this
    injection this with this
    subst this
    exact h3.mono (hr.cutAt_mono h1 (Nat.le_refl _))
  intro fuel
  induction fuel with
  | zero =>
    intro listed pe m a w hsz hcnt hcl htop hI
    have hr0 : Region.ready .any ops.toArray listed = [] := by
      rw [List.eq_nil_iff_forall_not_mem]
      intro j hj
      obtain ⟨h1, o, ho, _⟩ := mem_ready.1 hj
      have hj' : j < listed.size := by
        rcases Nat.lt_or_ge j listed.size with h | h
        · exact h
        · simp [Array.getD_eq_getD_getElem?, Array.getElem?_eq_none h] at h1
      rw [List.count_eq_zero] at hcnt
      apply hcnt
      simp [Array.getD_eq_getD_getElem?, hj'] at h1
      rw [← h1]
      simp
    exact ⟨hr0, hdone listed pe m a w hsz hI hr0⟩
  | succ fuel ih =>
    intro listed pe m a w hsz hcnt hcl htop hI
    refine ⟨fun h => hdone listed pe m a w hsz hI h, fun k hk => ?_⟩
    obtain ⟨h1, o, ho, hrd⟩ := mem_ready.1 hk
    have ho' : ops[k]? = some o := by simpa using ho
    have hkl : k < ops.length := (List.getElem?_eq_some_iff.1 ho').1
    have hks : k < listed.size := by omega
    have hkf : listed[k] = false := by simpa [Array.getD_eq_getD_getElem?, hks] using h1
    have hnot : ¬ Lof listed k := by unfold Lof; simp [Array.getD_eq_getD_getElem?, hks, hkf]
    have hrd' : ∀ e ∈ o.after, Region.binds .any e = true → Lof listed e.on := hrd
    have hcnt' : (listed.setIfInBounds k true).toList.count false = fuel := by
      have := count_set (l := listed.toList) (k := k) (by simp [hks, hkf])
      simp only [Array.toList_setIfInBounds]
      omega
    have hcl' : Closed ops (fun c => Lof listed c ∨ c = k) := fun j o' hj hL e he hb => by
      rcases hL with hL | rfl
      · exact .inl (hcl j o' hj hL e he hb)
      · rw [ho'] at hj; injection hj with hj; subst hj; exact .inl (hrd' e he hb)
    have next : ∀ pe' m' a' w', (pe' = 0 ∨ ∃ o, ops[pe' - 1]? = some o ∧ isEff o = true) → Inv ops S m0 H0 w0 (fun c => Lof listed c ∨ c = k) pe' m' a' w' → wpAny P .any ops.toArray Q fuel (listed.setIfInBounds k true) a' w' := fun pe' m' a' w' ht' hI' =>
      ih _ pe' m' a' w' (by simpa using hsz) hcnt' (by rw [lof_set hks]; exact hcl') ht' (by rw [lof_set hks]; exact hI')
    have hstep := hst k o ho'
    unfold wpOp
    rw [ho]
    simp only
    unfold stepTr at hstep
    cases hgo : guardOk ops (S k).fr o with
    | false => rw [hgo] at hstep; cases hstep
    | true =>
    rw [hgo] at hstep
    simp only [cond_true] at hstep
    rw [hI.wanted hr hs hcl ho' hnot hrd' hgo]
    cases hw : wantedA ops (S k).fr o with
    | false =>
      rw [hw] at hstep
      simp only [cond_false, Option.some.injEq, Prod.mk.injEq] at hstep
      simp only [Bool.false_eq_true, if_false]
      have hne : isEff o = false ∨ isEff o = true := by cases isEff o <;> simp
      have hS : (S (k + 1)).fr = putF (S k).fr o.dst undef := by rw [← hstep.1]
      rcases hne with hne | hne
      · exact next pe m _ w htop (hI.calm hr hs hcl ho' hnot hne hS (VR.undef _))
      · -- one that would have acted
        have hIk : Inv ops S m0 H0 w0 (Lof listed) k m a w := by
          have hpk : pe ≤ k := by
            rcases Nat.lt_or_ge k pe with h | h
            · exact absurd ((hI.effs k o ho' hne).2 h) hnot
            · exact h
          have := hI.shift hr (k - pe) (by omega) (fun e o'' e1 e2 e3 => by
            cases he : isEff o'' with
            | false => rfl
            | true =>
              have hnL : ¬ Lof listed e := fun hl => by have := (hI.effs e o'' e3 he).1 hl; omega
              rcases hs.pair e k o'' o (by omega) e3 ho' with hb | ⟨hb, _⟩
              · exact absurd (hb.ready hcl (fun o1 ho1 => by rw [ho'] at ho1; injection ho1 with ho1; subst ho1; exact hrd')) hnL
              · exact absurd ⟨he, hne⟩ hb)
          rwa [show pe + (k - pe) = k by omega] at this
        have hx : Ext (cutAt m S k) (S k).H (S k).loc w (cutAt m S k) (S (k + 1)).H (S (k + 1)).loc w (F k).wg [] := by
          rw [← hstep.1, ← hstep.2]; exact Ext.refl hIk.ext.rel
        obtain ⟨m', hI'⟩ := hIk.act hr hs hcl ho' hnot hx hS (VR.undef _)
        exact next (k + 1) m' _ w (.inr ⟨o, by simpa using ho', hne⟩) hI'
    | true =>
      rw [hw] at hstep
      simp only [cond_true] at hstep
      simp only [if_true]
      left
      split at hstep
      · rename_i out hout
        simp only [Option.some.injEq, Prod.mk.injEq] at hstep
        obtain ⟨hS, hF⟩ := hstep
        have hSfr : (S (k + 1)).fr = putF (S k).fr o.dst out.v := by rw [← hS]
        have hSH : (S (k + 1)).H = out.H := by rw [← hS]
        have hSl : (S (k + 1)).loc = out.loc := by rw [← hS]
        have hopR := hI.opR hr hs hc hcl ho' hnot hrd'
        cases hkd : kindOf o.op with
        | eff =>
          have hne : isEff o = true := by unfold isEff; rw [hkd]
          have hIk : Inv ops S m0 H0 w0 (Lof listed) k m a w := by
            have hpk : pe ≤ k := by
              rcases Nat.lt_or_ge k pe with h | h
              · exact absurd ((hI.effs k o ho' hne).2 h) hnot
              · exact h
            have := hI.shift hr (k - pe) (by omega) (fun e o'' e1 e2 e3 => by
              cases he : isEff o'' with
              | false => rfl
              | true =>
                have hnL : ¬ Lof listed e := fun hl => by have := (hI.effs e o'' e3 he).1 hl; omega
                rcases hs.pair e k o'' o (by omega) e3 ho' with hb | ⟨hb, _⟩
                · exact absurd (hb.ready hcl (fun o1 ho1 => by rw [ho'] at ho1; injection ho1 with ho1; subst ho1; exact hrd')) hnL
                · exact absurd ⟨he, hne⟩ hb)
            rwa [show pe + (k - pe) = k by omega] at this
          refine evOp_sound (m := cutAt m S k) hN hX hO (hI.envE hE0) hopR hIk.ext.rel hout fun v' w' m1 hx hv => ?_
          have hx' : Ext (cutAt m S k) (S k).H (S k).loc w m1 (S (k + 1)).H (S (k + 1)).loc w' (F k).wg out.wl := by
            rw [hSH, hSl, ← hF]; exact hx
          obtain ⟨m', hI'⟩ := hIk.act hr hs hcl ho' hnot hx' hSfr hv
          exact next (k + 1) m' _ w' (.inr ⟨o, by simpa using ho', hne⟩) hI'
        | inert =>
          have hne : isEff o = false := by unfold isEff; rw [hkd]
          unfold evOp at hout
          rw [hkd] at hout
          simp only at hout
          split at hout
          · rename_i v hv
            injection hout with hout
            have hov : out.v = v := by rw [← hout]
            obtain ⟨v', hrun, hvr⟩ := evInertS_sound (P := P) (by rw [show (cutAt m S k).env = X.env from hI.envE hE0]; exact hX.2.1) hX.2.2 (hI.esz hr (k := k) (by omega)) hopR hv w
            unfold Oper.wp
            rw [hrun]
            exact next pe m _ w htop (hI.calm hr hs hcl ho' hnot hne (by rw [hSfr, hov]) (hvr.mono (hr.cutAt_mono (by omega) hkl)))
          · cases hout
        | load =>
          have hne : isEff o = false := by unfold isEff; rw [hkd]
          have hld : isLoad o = true := by unfold isLoad; rw [hkd]
          unfold evOp at hout
          rw [hkd] at hout
          simp only at hout
          split at hout
          · rename_i t x hox
            split at hout
            · rename_i v hv
              injection hout with hout
              have hov : out.v = v := by rw [← hout]
              obtain ⟨v', hrun, hvr⟩ := hI.load (P := P) hr hs hdy hcl htop ho' hnot hrd' hld (hopR x (by simp [hox, Op.operands])) hv (fun ad had => by
                rw [← hF]
                simp only [readsOf, hox, had]
                obtain ⟨ab, ao, asp⟩ := ad
                constructor
                · intro e; simp only at e; subst e; simp
                · intro e; simp only at e; subst e; simp) (by rw [← hF, ← hov])
              unfold Oper.wp execOp
              simp only [hox, Sem.run_bind, hrun, Result.andThen_ok, Sem.run_pure]
              exact next pe m _ w htop (hI.calm hr hs hcl ho' hnot hne (by rw [hSfr, hov]) hvr)
            · cases hout
          · cases hout
        | alloc =>
          have hne : isEff o = false := by unfold isEff; rw [hkd]
          unfold evOp at hout
          rw [hkd] at hout
          simp only [fVals_eq, fSpine_eq] at hout
          split at hout
          · rename_i b kk hb
            obtain ⟨cs, hrun, hvr, hlive, hloose⟩ := alloc_run (P := P) hopR hb w
            unfold Oper.wp
            rw [hrun]
            simp only [Oper.upon]
            rcases cond_cases hout with ⟨_, hout⟩ | ⟨_, hout⟩
            · rcases cond_cases hout with ⟨hn, hout⟩ | ⟨_, hout⟩
              · simp only [Option.some.injEq] at hout
                have hoH : out.H = (S k).H ++ [b] := by rw [← hout]
                have hol : out.loc = (S k).loc := by rw [← hout]
                have hov : out.v = nameV kk ⟨(S k).H.length, 0, none⟩ := by rw [← hout]
                refine next pe _ _ _ htop (hI.makeG hr hs h0 hcl ho' hnot hne (hSH.trans hoH) (hSl.trans hol) (vrs_noLoc hn hvr) hloose (by rw [hSfr, hov]) ?_)
                exact nameV_vr (a := ⟨(S k).H.length, 0, none⟩) (a' := ⟨w.heap.size, 0, none⟩) (.inl ⟨rfl, cutAt_gb.2 ⟨by rw [hSH, hoH]; simp, by simp [Mp.addG]⟩, rfl, rfl⟩) kk
              · cases hout
            · simp only [Option.some.injEq] at hout
              have hoH : out.H = (S k).H := by rw [← hout]
              have hol : out.loc = (S k).loc ++ [b] := by rw [← hout]
              have hov : out.v = nameV kk ⟨(S k).loc.length, 0, some 0⟩ := by rw [← hout]
              refine next pe _ _ _ htop (hI.makeL hr hs hcl ho' hnot hne (hSH.trans hoH) (hSl.trans hol) hvr hlive (by rw [hSfr, hov]) ?_)
              exact nameV_vr (a := ⟨(S k).loc.length, 0, some 0⟩) (a' := ⟨w.heap.size, 0, none⟩) (.inr ⟨rfl, cutAt_lb.2 ⟨by rw [hSl, hol]; simp, by simp [Mp.addL]⟩, rfl, rfl⟩) kk
          · cases hout
      · cases hstep

theorem draw_sound (hm : P.follows .mixedOrders = true) (hN : Named P) {X : Xt} (hX : GoodX P X) {O : Orc} (hO : GoodO P X.env O) (hE0 : m0.env = X.env) (hP : PureO O) {esc : Nat → Bool} (hc : constsOk ops = true) {s s' : St} {m : Mp} {a : Act} {w : World} {id : Nat}
    (h : drawOps P X O esc ops s = some s') (hsim : Sim m0 H0 w0 s m a w) {Q : Exit → Act → World → Prop} (hQ : ∀ m' a' w', Sim m0 H0 w0 s' m' a' w' → Q .normal a' w') : (Code.region id ops.toArray true).wp P Q a w := by
  unfold drawOps at h
  cases hst : staticOk ops with
  | false => rw [hst] at h; cases h
  | true =>
    rw [hst] at h
    simp only [cond_true] at h
    split at h
    · rename_i s1 fps htr
      cases hdy : dynOk (confOf ops) fps with
      | false => rw [hdy] at h; cases h
      | true =>
        rw [hdy] at h
        simp only [cond_true, Option.some.injEq] at h
        subst h
        obtain ⟨S, F, e0, e1, e2, e3⟩ := trace_states ops s s1 fps htr
        have hr : Run ops S F := ⟨fun k o ho => step_pure hP (e3 k o ho), fun k o ho hne => step_quiet hne (e3 k o ho)⟩
        have hs := static_spec hst
        have hdr : DynR ops F := fun i j x y hx hy ex ly n1 n2 => dyn_spec hdy hx hy ex ly n1 n2 (e2 i (List.getElem?_eq_some_iff.1 hx).1) (e2 j (List.getElem?_eq_some_iff.1 hy).1)
        have hfr := hsim.fr
        have hext := hsim.ext
        have hcut : Le m (cutAt m S 0) := by
          refine ⟨fun i g e => cutAt_gb.2 ⟨?_, e⟩, fun i g e => cutAt_lb.2 ⟨?_, e⟩, fun _ _ _ => rfl, fun _ _ _ => rfl, fun _ _ _ => rfl, rfl⟩
          · obtain ⟨_, b, hb, _⟩ := hext.rel.glob i g e
            rw [e0]; exact (List.getElem?_eq_some_iff.1 hb).1
          · obtain ⟨_, b, hb, _⟩ := hext.rel.locs i g e
            rw [e0]; exact (List.getElem?_eq_some_iff.1 hb).1
        refine wp_region_any hm (any_sound hN hX hO hE0 hr hs hdr hc (by rw [e0]; exact hext.len) e3 (fun m' a' w' hs' => hQ m' a' w' (e1 ▸ hs')) _ _ 0 m a _ (by simp) (by simp) (fun j o ho hL => ?_) (.inl rfl) ?_)
        · unfold Lof at hL
          simp [Array.getD_eq_getD_getElem?] at hL
          rcases Nat.lt_or_ge j ops.length with h | h
          · simp [h] at hL
          · simp [Nat.not_lt.2 h] at hL
        · have hLf : ∀ c, ¬ Lof (Array.replicate ops.toArray.size false) c := fun c hL => by
            unfold Lof at hL
            rcases Nat.lt_or_ge c ops.length with h | h
            · simp [Array.getD_eq_getD_getElem?, h] at hL
            · simp [Array.getD_eq_getD_getElem?, Nat.not_lt.2 h] at hL
          refine ⟨by omega, fun e o ho he => ⟨fun hL => absurd hL (hLf e), fun h => by omega⟩, ?_, fun i g e => ?_, fun i g e => ?_, fun c i g c1 c2 c3 c4 e => ?_, fun c i g c1 c2 c3 c4 e => ?_, fun c hc => by omega, fun c hc => by omega, fun t v' hv => ?_, ?_, hsim.df⟩
          · rw [e0]
            refine ext_more hext hcut (fun _ _ => rfl) (Nat.le_refl _) (fun _ _ => rfl) (Nat.le_refl _) (fun _ _ => rfl) (Nat.le_refl _) rfl rfl rfl (fun i g e => .inl (cutAt_gb.1 e).2) (fun i g e => .inl (cutAt_lb.1 e).2)
          · obtain ⟨_, b, hb, _⟩ := hext.rel.glob i g e
            rw [e0]; exact .inl (List.getElem?_eq_some_iff.1 hb).1
          · obtain ⟨_, b, hb, _⟩ := hext.rel.locs i g e
            rw [e0]; exact .inl (List.getElem?_eq_some_iff.1 hb).1
          · obtain ⟨_, b, hb, _⟩ := hext.rel.glob i g e
            have h1 := (List.getElem?_eq_some_iff.1 hb).1
            have h2 := hr.monoG (j := 0) (k := c) (by omega) (by omega)
            rw [e0] at h2; omega
          · obtain ⟨_, b, hb, _⟩ := hext.rel.locs i g e
            have h1 := (List.getElem?_eq_some_iff.1 hb).1
            have h2 := hr.monoL (j := 0) (k := c) (by omega) (by omega)
            rw [e0] at h2; omega
          · have hlen : s.fr.length = a.tmps.size := by simpa using hfr.1
            have ht : t < s.fr.length := by rw [hlen]; exact (Array.getElem?_eq_some_iff.1 hv).1
            refine ⟨0, s.fr[t], by omega, by rw [e0]; exact List.getElem?_eq_getElem ht, (hfr.2 t _ v' (List.getElem?_eq_getElem ht) (by simpa using hv)).mono hcut, fun c o ho hL => absurd hL (hLf c), .inl rfl⟩
          · rw [e0]; simpa using hfr.1.symm
    · cases h

end
end Go.Sm
end

section
/-
  Code, bodies, calls: the machine is sound.
-/
namespace Go.Sm

def exOf : Ex → Exit
  | .normal => .normal
  | .exit id => .exit id
  | .ret => .ret

section
variable {P : Program} {m0 : Mp} {H0 : Hp} {w0 : World}

theorem exec_sound (hm : P.follows .mixedOrders = true) (hN : Named P) {X : Xt} (hX : GoodX P X) {O : Orc} (hO : GoodO P X.env O) (hE0 : m0.env = X.env) (hP : PureO O) {esc : Nat → Bool} {fuel : Nat} :
    ∀ (c : Code) (s : St) (x : Ex) (s' : St) (m : Mp) (a : Act) (w : World) (Q : Exit → Act → World → Prop), exec P X O esc fuel c s = some (x, s') → Sim m0 H0 w0 s m a w →
      (∀ m' a' w', Sim m0 H0 w0 s' m' a' w' → Q (exOf x) a' w') → c.wp P Q a w := by
  intro c
  induction c with
  | skip =>
    intro s x s' m a w Q h hs hQ
    simp only [exec, Option.some.injEq, Prod.mk.injEq] at h
    obtain ⟨rfl, rfl⟩ := h
    exact wp_skip (hQ m a w hs)
  | region id ops draw =>
    intro s x s' m a w Q h hs hQ
    unfold exec at h
    rcases cond_cases h with ⟨hc, h⟩ | ⟨_, h⟩
    · split at h
      · rename_i s1 h1
        simp only [Option.some.injEq, Prod.mk.injEq] at h
        obtain ⟨rfl, rfl⟩ := h
        cases draw with
        | true =>
          simp only [cond_true] at h1
          have := draw_sound (id := id) hm hN hX hO hE0 hP hc h1 hs hQ
          simpa using this
        | false =>
          simp only [cond_false] at h1
          exact wp_region_list (by simpa using seq_sound hN hX hO hE0 ops.toList s s1 m a w hc h1 hs hQ)
      · cases h
    · cases h
  | seq c d ihc ihd =>
    intro s x s' m a w Q h hs hQ
    unfold exec at h
    refine wp_seq ?_
    split at h
    · rename_i s1 h1
      exact ihc s .normal s1 m a w _ h1 hs fun m1 a1 w1 hs1 => ihd s1 x s' m1 a1 w1 Q h hs1 hQ
    · rename_i r hne
      refine ihc s x s' m a w _ h hs fun m1 a1 w1 hs1 => ?_
      cases x with
      | normal => exact absurd h (hne s')
      | exit i => exact hQ m1 a1 w1 hs1
      | ret => exact hQ m1 a1 w1 hs1
  | cond c t e iht ihe =>
    intro s x s' m a w Q h hs hQ
    unfold exec at h
    split at h
    · rename_i b hb
      have hev : a.eval c = .bool b := by
        cases c with
        | tmp t =>
          have := eval_vr hs.fr (x := .tmp t) rfl
          rw [hb] at this
          exact vr_bool this
        | const v => simp only [evalO] at hb; subst hb; rfl
        | global g => simp [evalO] at hb
        | func f => simp [evalO] at hb
      cases b with
      | true => exact wp_cond_true hev (iht s x s' m a w Q h hs hQ)
      | false => exact wp_cond_false hev (ihe s x s' m a w Q h hs hQ)
    · cases h
  | block id c ih =>
    intro s x s' m a w Q h hs hQ
    unfold exec at h
    refine wp_block ?_
    split at h
    · rename_i i s1 h1
      rcases cond_cases h with ⟨hi, h⟩ | ⟨hi, h⟩
      · simp only [Option.some.injEq, Prod.mk.injEq] at h
        obtain ⟨rfl, rfl⟩ := h
        refine ih s (.exit i) s1 m a w _ h1 hs fun m1 a1 w1 hs1 => ?_
        have : i = id := by simpa using hi
        simp only [exOf, Exit.inBlock, this, if_true]
        exact hQ m1 a1 w1 hs1
      · simp only [Option.some.injEq, Prod.mk.injEq] at h
        obtain ⟨rfl, rfl⟩ := h
        refine ih s (.exit i) s1 m a w _ h1 hs fun m1 a1 w1 hs1 => ?_
        have : ¬ i = id := by simpa using hi
        simp only [exOf, Exit.inBlock, this, if_false]
        exact hQ m1 a1 w1 hs1
    · rename_i r hne
      refine ih s x s' m a w _ h hs fun m1 a1 w1 hs1 => ?_
      cases x with
      | normal => exact hQ m1 a1 w1 hs1
      | exit i => exact absurd h (hne i s')
      | ret => exact hQ m1 a1 w1 hs1
  | loop c ih =>
    intro s x s' m a w Q h hs hQ
    unfold exec at h
    refine wp_loop_rounds fuel ?_
    have : ∀ (n : Nat) (s : St) (m : Mp) (a : Act) (w : World), loopN (exec P X O esc fuel c) n s = some (x, s') → Sim m0 H0 w0 s m a w → Code.rounds P c Q n a w := by
      intro n
      induction n with
      | zero => intro s m a w h _; cases h
      | succ n ihn =>
        intro s m a w h hs
        unfold loopN at h
        rw [rounds_succ]
        split at h
        · rename_i s1 h1
          exact ih s .normal s1 m a w _ h1 hs fun m1 a1 w1 hs1 => ihn s1 m1 a1 w1 h hs1
        · rename_i r hne
          refine ih s x s' m a w _ h hs fun m1 a1 w1 hs1 => ?_
          cases x with
          | normal => exact absurd h (hne s')
          | exit i => exact hQ m1 a1 w1 hs1
          | ret => exact hQ m1 a1 w1 hs1
    exact this fuel s m a w h hs
  | exit id =>
    intro s x s' m a w Q h hs hQ
    simp only [exec, Option.some.injEq, Prod.mk.injEq] at h
    obtain ⟨rfl, rfl⟩ := h
    exact wp_exit (hQ m a w hs)
  | ret =>
    intro s x s' m a w Q h hs hQ
    simp only [exec, Option.some.injEq, Prod.mk.injEq] at h
    obtain ⟨rfl, rfl⟩ := h
    exact wp_ret (hQ m a w hs)
  | rangeFunc f ps as b iha ihb => intro s x s' m a w Q h; simp [exec] at h
  | scope c ih => intro s x s' m a w Q h; simp [exec] at h
  | label l => intro s x s' m a w Q h; simp [exec] at h
  | goto l => intro s x s' m a w Q h; simp [exec] at h
  | refuse y => intro s x s' m a w Q h; simp [exec] at h

def resF (tmps : Array Value) (r : ResultVar) : Sem Value :=
  match r with
  | .tmp t => pure (tmps.getD t undef)
  | .cell x t => do loadVar t (← asAddr (tmps.getD x undef))

theorem results_eq (fn : Func) (tmps : Array Value) : results fn tmps = (do let vs ← fn.results.mapM (resF tmps); pure (if h : vs.size = 1 then vs[0] else .tuple vs)) := by
  unfold results
  congr 2

theorem results_sound {m : Mp} {s : St} {a : Act} {w : World} (hR : Rel m s.H s.loc w) (hf : VRs m s.fr a.tmps.toList) : ∀ (l : List ResultVar) (vs : List Value), resultsA P s l = some vs →
    ∃ vs', (l.mapM (resF a.tmps)).run P w = .ok vs' w ∧ VRs m vs vs'
  | [], vs, h => by
    simp only [resultsA, Option.some.injEq] at h
    subst h
    exact ⟨[], by simp, VRs.nil m⟩
  | .tmp t :: rest, vs, h => by
    unfold resultsA at h
    split at h
    · rename_i vs1 h1
      injection h with h; subst h
      obtain ⟨vs', hr, hv⟩ := results_sound hR hf rest vs1 h1
      refine ⟨a.tmps.getD t undef :: vs', by simp only [List.mapM_cons, resF, Sem.run_bind, Sem.run_pure, Result.andThen_ok, hr], .cons (eval_vr hf (x := .tmp t) rfl) hv⟩
    · cases h
  | .cell x t :: rest, vs, h => by
    unfold resultsA at h
    split at h
    · rename_i v1 vs1 hl h1
      injection h with h; subst h
      obtain ⟨vs', hr, hv⟩ := results_sound hR hf rest vs1 h1
      obtain ⟨v', hl', hvr⟩ := load_sound (P := P) hR (eval_vr hf (x := .tmp x) rfl) hl
      refine ⟨v' :: vs', ?_, .cons hvr hv⟩
      have hx := eval_vr hf (x := .tmp x) rfl
      simp only [evalO, Act.eval] at hx hl'
      unfold evLoad at hl
      split at hl
      · rename_i ad had
        rw [had] at hx
        obtain ⟨ad', hx', har⟩ := vr_ptr hx
        rw [hx'] at hl'
        have e1 : (loadVar t ad').run P w = .ok v' w := by simpa [Instr.loadAt, Instr.sureAddr] using hl'
        simp only [List.mapM_cons, resF, hx', asAddr, Sem.run_bind, Sem.run_pure, Result.andThen_ok, e1, hr]
      · cases hl
    · cases h

theorem trunc_ext {m m1 : Mp} {H H1 loc1 : Hp} {w w' : World} (hR : Rel m H [] w) (h : Ext m H [] w m1 H1 loc1 w' [] []) : Ext m H [] w m H [] w' [] [] where
  le := Le.refl m
  rel := by
    refine ⟨fun i g e => ?_, fun i g e => ?_, hR.ginj, hR.linj, hR.disj⟩
    · obtain ⟨h1, b, h2, h3⟩ := hR.glob i g e
      exact ⟨Nat.lt_of_lt_of_le h1 h.size, b, h2, h3.mono (Le.refl m) e (fun hl => h.cmod i g b e h2 hl (by simp))⟩
    · obtain ⟨_, b, h2, _⟩ := hR.locs i g e
      simp at h2
  img := fun i g e => .inl ⟨i, e⟩
  imgl := fun i g e => .inl e
  dom := fun i g e => .inl e
  doml := fun i g e => .inl e
  os := h.os
  tape := h.tape
  output := h.output
  size := h.size
  frame := h.frame
  un := fun _ _ _ => rfl
  unl := fun _ _ _ => rfl
  mod := fun _ _ _ => rfl
  modl := fun _ _ _ => rfl
  len := Nat.le_refl _
  lenl := Nat.le_refl _
  kp := fun i b e => ⟨b, e, rfl, rfl⟩
  cmod := fun i g b e hb hl _ => h.cmod i g b e hb hl (by simp)

theorem noL_ext {m m1 : Mp} {H H1 loc1 : Hp} {w w' : World} {wg : List Nat} (hlb : m.lb = noLb) (h : Ext m H [] w m1 H1 loc1 w' wg []) : Ext m H [] w m1.noL H1 [] w' wg [] :=
  { h with
    le := ⟨h.le.gb, fun i g e => (by rw [hlb] at e; cases e), h.le.loose, h.le.esz, h.le.tot, h.le.env⟩
    rel := rel_noL h.rel
    imgl := fun i g e => (by cases e)
    doml := fun i g e => (by cases e)
    unl := fun _ _ _ => rfl
    modl := fun _ _ _ => rfl
    lenl := Nat.le_refl _ }

theorem finish_sound {m m1 : Mp} {H : Hp} {w w' : World} (hlb : m.lb = noLb) (hR : Rel m H [] w) {s : St} (hx : Ext m H [] w m1 s.H s.loc w' s.wg []) {v v' v0 : Value} {H' : Hp} {md : List Nat} (hv : VR m1 v v') (h : finish H s v = some (v0, H', md)) :
    ∃ m', VR m' v0 v' ∧ Ext m H [] w m' H' [] w' md [] ∧ m'.lb = noLb := by
  unfold finish at h
  rcases cond_cases h with ⟨hn, h⟩ | ⟨_, h⟩
  · rcases cond_cases h with ⟨hp, h⟩ | ⟨_, h⟩
    · simp only [Option.some.injEq, Prod.mk.injEq] at h
      obtain ⟨rfl, rfl, rfl⟩ := h
      simp only [Bool.and_eq_true, List.isEmpty_iff] at hp
      rw [hp.1] at hx
      refine ⟨m, ?_, trunc_ext hR hx, hlb⟩
      exact plainS_vr hx.le.env.symm 4 _ _ hp.2 hv
    · simp only [Option.some.injEq, Prod.mk.injEq] at h
      obtain ⟨rfl, rfl, rfl⟩ := h
      exact ⟨m1.noL, vr_noLoc hn hv, noL_ext hlb hx, rfl⟩
  · cases h

theorem pack_vr {m : Mp} {vs vs' : List Value} (h : VRs m vs vs') : VR m (packV vs) (if h : vs'.toArray.size = 1 then vs'.toArray[0] else .tuple vs'.toArray) := by
  match vs, vs', h with
  | [], [], h => simp [packV]; exact h.tuple
  | [v], [v'], h => simp [packV]; exact h.2 0 v v' rfl rfl
  | v :: u :: l, v' :: u' :: l', h => simp [packV]; exact h.tuple
  | [], _ :: _, h => have := h.1; simp at this
  | _ :: _, [], h => have := h.1; simp at this
  | [_], _ :: _ :: _, h => have := h.1; simp at this
  | _ :: _ :: _, [_], h => have := h.1; simp at this

theorem body_sound (hm : P.follows .mixedOrders = true) (hN : Named P) {X : Xt} (hX : GoodX P X) {esc : FuncId → Nat → Bool} {fuel : Nat} {O : Orc} (hO : GoodO P X.env O) (hP : PureO O) : GoodO P X.env (runBody P X esc fuel O) := by
  intro f args H v H' md h m w args' hE0 hlb hR hargs
  unfold runBody at h
  split at h
  · cases h
  · rename_i fn hf
    split at h
    · cases h
    · rename_i c hc
      have hlen : args.length = args'.toArray.size := by simpa using hargs.1
      have hsim : Sim m H w ⟨args ++ List.replicate (fn.ntmps - args.length) undef, H, [], []⟩ m { tmps := args'.toArray ++ Array.replicate (fn.ntmps - args'.toArray.size) undef, defers := [] } w := by
        refine ⟨Ext.refl hR, ?_, rfl⟩
        have : (args'.toArray ++ Array.replicate (fn.ntmps - args'.toArray.size) undef).toList = args' ++ List.replicate (fn.ntmps - args.length) undef := by simp [hargs.1]
        rw [this]
        refine hargs.append ⟨rfl, fun i a b ha hb => ?_⟩
        rw [ha] at hb; injection hb with hb; subst hb
        have := List.mem_of_getElem? ha
        rw [(List.mem_replicate.1 this).2]
        exact VR.undef m
      have key : ∀ (s : St), (∃ vs, resultsA P s fn.results.toList = some vs ∧ finish H s (packV vs) = some (v, H', md)) → ∀ m1 a1 w1, Sim m H w s m1 a1 w1 →
          a1.defers = [] ∧ ∃ v', (results fn a1.tmps).run P w1 = .ok v' w1 ∧ (∃ v'' m', Ending.returned v' = .returned v'' ∧ VR m' v v'' ∧ Ext m H [] w m' H' [] w1 md [] ∧ m'.lb = noLb) := by
        intro s ⟨vs, h1, h2⟩ m1 a1 w1 hs
        refine ⟨hs.df, ?_⟩
        obtain ⟨vs', hr, hv⟩ := results_sound (P := P) hs.ext.rel hs.fr _ _ h1
        obtain ⟨m', e1, e2, e3⟩ := finish_sound hlb hR hs.ext (pack_vr hv) h2
        refine ⟨_, ?_, ⟨_, m', rfl, e1, e2, e3⟩⟩
        rw [results_eq, Array.mapM_eq_mapM_toList]
        simp only [Sem.run_bind, Sem.run_map, hr, Result.andThen_ok, Sem.run_pure]
      split at h
      · rename_i s hs
        split at h
        · rename_i vs hvs
          refine calls_of_wp hf hc (exec_sound hm hN hX hO hE0 hP c _ .normal s m _ w _ hs hsim fun m1 a1 w1 hs1 => ?_)
          exact key s ⟨vs, hvs, h⟩ m1 a1 w1 hs1
        · cases h
      · rename_i s hs
        split at h
        · rename_i vs hvs
          refine calls_of_wp hf hc (exec_sound hm hN hX hO hE0 hP c _ .ret s m _ w _ hs hsim fun m1 a1 w1 hs1 => ?_)
          exact key s ⟨vs, hvs, h⟩ m1 a1 w1 hs1
        · cases h
      · cases h

theorem seq_pure {X : Xt} {O : Orc} (hP : PureO O) {esc : Nat → Bool} {ops : List Oper} : ∀ (l : List Oper) (s s' : St), seqOps P X O esc ops l s = some s' → (∃ wl, Pur s.H s.loc s'.H s'.loc s'.wg wl) ∧ ∀ i, i ∈ s.wg → i ∈ s'.wg
  | [], s, s', h => by
    simp only [seqOps, Option.some.injEq] at h
    subst h
    exact ⟨⟨[], (Pur.refl _ _).wide (by simp) (by simp)⟩, fun _ h => h⟩
  | o :: rest, s, s', h => by
    simp only [seqOps] at h
    split at h
    · rename_i s1 h1
      have h1' : ∃ wg wl, Pur s.H s.loc s1.H s1.loc wg wl ∧ s1.wg = s.wg ++ wg := by
        unfold stepO at h1
        simp only [fVal_eq, fPut_eq, fSpine_eq] at h1
        rcases cond_or h1 with h1 | h1
        case inr => cases h1
        rcases cond_or h1 with h1 | h1
        · split at h1
          · rename_i out hout
            injection h1 with h1; subst h1
            exact ⟨_, _, evOp_pure hP hout, rfl⟩
          · cases h1
        · injection h1 with h1; subst h1
          exact ⟨[], [], Pur.refl _ _, by simp⟩
      obtain ⟨wg, wl, p1, e1⟩ := h1'
      obtain ⟨⟨wl2, p2⟩, e2⟩ := seq_pure hP rest s1 s' h
      refine ⟨⟨_, (p1.trans p2).wide (fun i hi => ?_) (fun _ h => h)⟩, fun i hi => e2 i (by rw [e1]; simp [hi])⟩
      rw [List.mem_append] at hi
      rcases hi with hi | hi
      · exact e2 i (by rw [e1]; simp [hi])
      · exact hi
    · cases h

theorem trace_pure {X : Xt} {O : Orc} (hP : PureO O) {esc : Nat → Bool} {ops : List Oper} : ∀ (l : List Oper) (s s' : St) (fps : List Fp), traceOps P X O esc ops l s = some (s', fps) → (∃ wl, Pur s.H s.loc s'.H s'.loc s'.wg wl) ∧ ∀ i, i ∈ s.wg → i ∈ s'.wg
  | [], s, s', fps, h => by
    simp only [traceOps, Option.some.injEq, Prod.mk.injEq] at h
    obtain ⟨rfl, _⟩ := h
    exact ⟨⟨[], (Pur.refl _ _).wide (by simp) (by simp)⟩, fun _ h => h⟩
  | o :: rest, s, s', fps, h => by
    unfold traceOps at h
    split at h
    · rename_i s1 f h1
      split at h
      · rename_i s2 fps' h2
        simp only [Option.some.injEq, Prod.mk.injEq] at h
        obtain ⟨rfl, rfl⟩ := h
        have sp := step_pure hP h1
        obtain ⟨⟨wl2, p2⟩, e2⟩ := trace_pure hP rest s1 _ _ h2
        refine ⟨⟨_, (sp.pur.trans p2).wide (fun i hi => ?_) (fun _ h => h)⟩, fun i hi => e2 i (by rw [sp.wg]; simp [hi])⟩
        rw [List.mem_append] at hi
        rcases hi with hi | hi
        · exact e2 i (by rw [sp.wg]; simp [hi])
        · exact hi
      · cases h
    · cases h

/-- What code keeps. -/
def Kept (s s' : St) : Prop := (∃ wl, Pur s.H s.loc s'.H s'.loc s'.wg wl) ∧ ∀ i, i ∈ s.wg → i ∈ s'.wg
theorem Kept.refl (s : St) : Kept s s := ⟨⟨[], (Pur.refl _ _).wide (by simp) (by simp)⟩, fun _ h => h⟩
theorem Kept.trans {s s1 s2 : St} (h : Kept s s1) (k : Kept s1 s2) : Kept s s2 := by
  obtain ⟨⟨wl, p⟩, e⟩ := h
  obtain ⟨⟨wl2, p2⟩, e2⟩ := k
  refine ⟨⟨_, (p.trans p2).wide (fun i hi => ?_) (fun _ h => h)⟩, fun i hi => e2 i (e i hi)⟩
  rw [List.mem_append] at hi
  rcases hi with hi | hi
  · exact e2 i hi
  · exact hi

theorem exec_pure {X : Xt} {O : Orc} (hP : PureO O) {esc : Nat → Bool} {fuel : Nat} : ∀ (c : Code) (s : St) (x : Ex) (s' : St), exec P X O esc fuel c s = some (x, s') → Kept s s' := by
  intro c
  induction c with
  | skip => intro s x s' h; simp only [exec, Option.some.injEq, Prod.mk.injEq] at h; obtain ⟨_, rfl⟩ := h; exact Kept.refl _
  | region id ops draw =>
    intro s x s' h
    unfold exec at h
    rcases cond_or h with h | h
    · split at h
      · rename_i s1 h1
        simp only [Option.some.injEq, Prod.mk.injEq] at h
        obtain ⟨_, rfl⟩ := h
        rcases cond_or h1 with h1 | h1
        · unfold drawOps at h1
          rcases cond_or h1 with h1 | h1
          · split at h1
            · rename_i s2 fps h2
              rcases cond_or h1 with h1 | h1
              · injection h1 with h1; subst h1; exact trace_pure hP _ _ _ _ h2
              · cases h1
            · cases h1
          · cases h1
        · exact seq_pure hP _ _ _ h1
      · cases h
    · cases h
  | seq c d ihc ihd =>
    intro s x s' h
    unfold exec at h
    split at h
    · rename_i s1 h1
      exact (ihc _ _ _ h1).trans (ihd _ _ _ h)
    · exact ihc _ _ _ h
  | cond c t e iht ihe =>
    intro s x s' h
    unfold exec at h
    split at h
    · rcases cond_or h with h | h
      · exact iht _ _ _ h
      · exact ihe _ _ _ h
    · cases h
  | block id c ih =>
    intro s x s' h
    unfold exec at h
    split at h
    · rename_i i s1 h1
      rcases cond_or h with h | h <;> simp only [Option.some.injEq, Prod.mk.injEq] at h <;> obtain ⟨_, rfl⟩ := h <;> exact ih _ _ _ h1
    · exact ih _ _ _ h
  | loop c ih =>
    intro s x s' h
    unfold exec at h
    have : ∀ (n : Nat) (s : St), loopN (exec P X O esc fuel c) n s = some (x, s') → Kept s s' := by
      intro n
      induction n with
      | zero => intro s h; cases h
      | succ n ihn =>
        intro s h
        unfold loopN at h
        split at h
        · rename_i s1 h1
          exact (ih _ _ _ h1).trans (ihn _ h)
        · exact ih _ _ _ h
    exact this fuel s h
  | exit id => intro s x s' h; simp only [exec, Option.some.injEq, Prod.mk.injEq] at h; obtain ⟨_, rfl⟩ := h; exact Kept.refl _
  | ret => intro s x s' h; simp only [exec, Option.some.injEq, Prod.mk.injEq] at h; obtain ⟨_, rfl⟩ := h; exact Kept.refl _
  | rangeFunc f ps as b iha ihb => intro s x s' h; simp [exec] at h
  | scope c ih => intro s x s' h; simp [exec] at h
  | label l => intro s x s' h; simp [exec] at h
  | goto l => intro s x s' h; simp [exec] at h
  | refuse y => intro s x s' h; simp [exec] at h

theorem body_pure {X : Xt} {esc : FuncId → Nat → Bool} {fuel : Nat} {O : Orc} (hP : PureO O) : PureO (runBody P X esc fuel O) := by
  intro f args H v H' md h
  have key : ∀ (s : St) (v0 : Value), (∃ wl, Pur H [] s.H s.loc s.wg wl) → finish H s v0 = some (v, H', md) → Pur H [] H' [] md [] := by
    intro s v0 ⟨wl, hk⟩ hf
    unfold finish at hf
    rcases cond_or hf with hf | hf
    · rcases cond_or hf with hf | hf
      · simp only [Option.some.injEq, Prod.mk.injEq] at hf
        obtain ⟨_, rfl, rfl⟩ := hf
        exact Pur.refl _ _
      · simp only [Option.some.injEq, Prod.mk.injEq] at hf
        obtain ⟨_, rfl, rfl⟩ := hf
        exact ⟨hk.len, Nat.le_refl _, hk.mod, fun _ _ _ => rfl, hk.kp⟩
    · cases hf
  unfold runBody at h
  split at h
  · cases h
  · split at h
    · cases h
    · split at h
      · rename_i s hs
        split at h
        · exact key s _ (exec_pure hP _ _ _ _ hs).1 h
        · cases h
      · rename_i s hs
        split at h
        · exact key s _ (exec_pure hP _ _ _ _ hs).1 h
        · cases h
      · cases h

/-- The machine's answers hold. -/
theorem callN_good (hm : P.follows .mixedOrders = true) (hN : Named P) {X : Xt} (hX : GoodX P X) {esc : FuncId → Nat → Bool} {fuel : Nat} {S : Orc} (hS : GoodO P X.env S) (hS' : PureO S) : ∀ n, GoodO P X.env (callN P X esc fuel S n) ∧ PureO (callN P X esc fuel S n)
  | 0 => ⟨hS, hS'⟩
  | n + 1 => by
    have ih := callN_good hm hN hX (esc := esc) (fuel := fuel) hS hS' n
    refine ⟨fun f args H v H' md h => ?_, fun f args H v H' md h => ?_⟩
    · unfold callN at h
      split at h
      · rename_i r hr
        injection h with h; subst h
        exact hS f args H v H' md hr
      · exact body_sound hm hN hX ih.1 ih.2 f args H v H' md h
    · unfold callN at h
      split at h
      · rename_i r hr
        injection h with h; subst h
        exact hS' f args H v H' md hr
      · exact body_pure ih.2 f args H v H' md h
end
end Go.Sm
end

section
/-
  The symbolic machine's answers as contracts of calls.
-/
namespace Go.Sm
open Go.RowKit

/-- What a value with symbols in it stands for. -/
def evV (E : Env) : Nat → Value → Option Value
  | 0, _ => none
  | d + 1, v => match v with
    | .agg ⟨l⟩ => match mapS (evV E d) l with
      | some r => some (.agg ⟨r⟩)
      | none => none
    | .tuple ⟨l⟩ => match mapS (evV E d) l with
      | some r => some (.tuple ⟨r⟩)
      | none => none
    | .int k n => some (.int k n)
    | .bool b => some (.bool b)
    | .string s => some (.string s)
    | .slice none n c => some (.slice none n c)
    | .func (.func f) ⟨xs⟩ ⟨[]⟩ => evS E 300 (.func (.func f) ⟨xs⟩ ⟨[]⟩)
    | _ => none

theorem evS_res {E : Env} {d : Nat} {f : FuncId} {xs : List Value} {u : Value} (h : evS E d (.func (.func f) ⟨xs⟩ ⟨[]⟩) = some u) : symF f = true ∧ ((∃ k n, u = .int k n) ∨ ∃ b, u = .bool b) := by
  cases d with
  | zero => cases h
  | succ d =>
    unfold evS at h
    simp only at h
    cases hf : symF f with
    | false => rw [hf] at h; cases h
    | true =>
      refine ⟨rfl, ?_⟩
      rw [hf] at h
      simp only [cond_true] at h
      split at h
      · rename_i vs hvs
        cases vs with
        | nil => simp [apS] at h
        | cons tag rest =>
          cases tag with
          | int k i => obtain ⟨n, e⟩ := apS_int h; exact .inl ⟨k, n, e⟩
          | bool b => obtain ⟨n, e⟩ := apS_bool h; exact .inr ⟨n, e⟩
          | _ => simp [apS] at h
      · cases h

theorem mapS_vrs {m : Mp} {f : Value → Option Value} (h : ∀ v u, f v = some u → VR m v u) : ∀ (l r : List Value), mapS f l = some r → VRs m l r
  | [], r, e => by simp only [mapS, Option.some.injEq] at e; subst e; exact VRs.nil m
  | v :: l, r, e => by
    unfold mapS at e
    split at e
    · rename_i x hx
      split at e
      · rename_i s hs
        injection e with e; subst e
        exact VRs.cons (h v x hx) (mapS_vrs h l s hs)
      · cases e
    · cases e
theorem evV_vr {m : Mp} : ∀ (d : Nat) (v u : Value), evV m.env d v = some u → VR m v u
  | 0, _, _, h => by cases h
  | d + 1, v, u, h => by
    unfold evV at h
    split at h
    · split at h
      · rename_i r hr; injection h with h; subst h; exact (mapS_vrs (evV_vr d) _ _ hr).agg
      · cases h
    · split at h
      · rename_i r hr; injection h with h; subst h; exact (mapS_vrs (evV_vr d) _ _ hr).tuple
      · cases h
    · injection h with h; subst h; exact .int _ _
    · injection h with h; subst h; exact .bool _
    · injection h with h; subst h; exact .string _
    · injection h with h; subst h; exact .sliceN _ _
    · obtain ⟨hf, hu⟩ := evS_res h
      rcases hu with ⟨k, n, rfl⟩ | ⟨b, rfl⟩
      · exact .symI hf ⟨_, h⟩
      · exact .symB hf ⟨_, h⟩
    · cases h

theorem mapS_eq {m : Mp} {f : Value → Option Value} (h : ∀ v u v', f v = some u → VR m v v' → v' = u) : ∀ (l r l' : List Value), mapS f l = some r → VRs m l l' → l' = r
  | [], r, l', e, hv => by
    simp only [mapS, Option.some.injEq] at e
    subst e
    exact List.eq_nil_of_length_eq_zero (by rw [← hv.1]; rfl)
  | v :: l, r, l', e, hv => by
    unfold mapS at e
    split at e
    · rename_i x hx
      split at e
      · rename_i s hs
        injection e with e; subst e
        obtain ⟨v', l'', rfl, h1, h2⟩ := hv.cons_inv
        rw [h v x v' hx h1, mapS_eq h l s l'' hs h2]
      · cases e
    · cases e
theorem vr_evV {m : Mp} : ∀ (d : Nat) (v u v' : Value), evV m.env d v = some u → VR m v v' → v' = u
  | 0, _, _, _, h, _ => by cases h
  | d + 1, v, u, v', h, hv => by
    unfold evV at h
    split at h
    · split at h
      · rename_i r hr
        injection h with h; subst h
        obtain ⟨cs', rfl, hc⟩ := vr_agg hv
        have := mapS_eq (vr_evV d) _ _ _ hr hc
        obtain ⟨l'⟩ := cs'
        simp only at this
        rw [this]
      · cases h
    · split at h
      · rename_i r hr
        injection h with h; subst h
        obtain ⟨cs', rfl, hc⟩ := vr_tuple hv
        have := mapS_eq (vr_evV d) _ _ _ hr hc
        obtain ⟨l'⟩ := cs'
        simp only at this
        rw [this]
      · cases h
    · injection h with h; subst h; exact vr_int hv
    · injection h with h; subst h; exact vr_bool hv
    · injection h with h; subst h; cases hv; rfl
    · injection h with h; subst h; cases hv; rfl
    · obtain ⟨hf, _⟩ := evS_res h
      cases hv with
      | symI _ hh => obtain ⟨d', hd⟩ := hh; exact evS_det m.env hd h
      | symB _ hh => obtain ⟨d', hd⟩ := hh; exact evS_det m.env hd h
      | func h0 _ _ _ _ => rw [hf] at h0; cases h0
    · cases h

theorem ext_below {m : Mp} {H : Hp} {w w' : World} (hlb : m.lb = noLb) (hR : Rel m H [] w) (hb : Below w.heap.size w w') : Ext m H [] w m H [] w' [] [] where
  le := Le.refl m
  rel := by
    refine ⟨fun i g e => ?_, fun i g e => (by rw [hlb] at e; cases e), hR.ginj, hR.linj, hR.disj⟩
    obtain ⟨h1, b, h2, h3⟩ := hR.glob i g e
    exact ⟨Nat.lt_of_lt_of_le h1 hb.size, b, h2, h3.mono (Le.refl m) e (fun _ => hb.block g h1)⟩
  img := fun i g e => .inl ⟨i, e⟩
  imgl := fun i g e => .inl e
  dom := fun i g e => .inl e
  doml := fun i g e => .inl e
  os := hb.os
  tape := hb.tape
  output := hb.output
  size := hb.size
  frame := fun g hg _ _ => hb.block g hg
  un := fun _ _ _ => rfl
  unl := fun _ _ _ => rfl
  mod := fun _ _ _ => rfl
  modl := fun _ _ _ => rfl
  len := Nat.le_refl _
  lenl := Nat.le_refl _
  kp := fun i b e => ⟨b, e, rfl, rfl⟩
  cmod := fun i g b e _ _ _ => hb.block g (hR.glob i g e).1

/-- An oracle that knows nothing. -/
def noS : Orc := fun _ _ _ => none
theorem noS_good (P : Program) (E : Env) : GoodO P E noS := fun f args H v H' md h => by cases h
theorem noS_pure : PureO noS := fun f args H v H' md h => by cases h

/-- A call with symbols, run: its contract. -/
theorem symCall {P : Program} (hm : P.follows .mixedOrders = true) (hN : Named P) {X : Xt} (hX : GoodX P X) {esc : FuncId → Nat → Bool} {fuel n : Nat} {S : Orc} (hS : GoodO P X.env S) (hS' : PureO S) {f : FuncId} {xs : List Value} {v : Value} {H' : Hp} {md : List Nat}
    (h : callN P X esc fuel S n f xs [] = some (v, H', md)) {ys : List Value} {u : Value} (ha : mapS (evV X.env 4) xs = some ys) (hv : evV X.env 5 v = some u) (w : World) :
    Calls P f ys.toArray w fun e w' => e = .returned u ∧ Below w.heap.size w w' := by
  have := (callN_good hm hN hX (esc := esc) (fuel := fuel) hS hS' n).1 f xs [] v H' md h ⟨noLb, noLb, fun _ => false, fun _ => 0, fun _ => 0, X.env⟩ w ys rfl rfl ⟨(fun i g e => by cases e), (fun i g e => by cases e), (fun i j g bi bj e => by cases e), (fun i j g e => by cases e), (fun i j g e => by cases e)⟩
    (mapS_vrs (m := ⟨noLb, noLb, fun _ => false, fun _ => 0, fun _ => 0, X.env⟩) (evV_vr 4) xs ys ha)
  refine this.mono fun e w' ⟨v', m', e1, e2, e3, e4⟩ => ?_
  refine ⟨?_, e3.os, e3.tape, e3.output, e3.size, fun g hg => e3.frame g hg (fun i e => by cases e) (fun i e => by cases e)⟩
  rw [e1, vr_evV (m := m') 5 v u v' (by rw [e3.le.env]; exact hv) e2]
end Go.Sm
end

section
/-
  Summaries: functions whose contract is known answer with symbols.
-/
namespace Go.Sm
open Go.RowKit

/-- The form of a result: a number, a truth value, a row of numbers. -/
inductive RSh where
  | i | b | a (n : Nat)
def RSh.wid : RSh → Nat
  | .i => 1
  | .b => 1
  | .a n => n

/-- A function: its arguments (none: a number; some n: a row of n numbers), its results, the number of its first symbol. -/
structure Ent where
  f : FuncId
  args : List (Option Nat)
  res : List RSh
  j : Nat

def takeArgs : List (Option Nat) → List Value → Option (List Value)
  | [], [] => some []
  | none :: s, v :: vs => bif okI v then (match takeArgs s vs with
    | some l => some (v :: l)
    | none => none) else none
  | some n :: s, .agg ⟨c⟩ :: vs => bif Nat.beq c.length n && c.all okI then (match takeArgs s vs with
    | some l => some (c ++ l)
    | none => none) else none
  | _, _ => none

def num (n : Int) : Value := .int .i64 n
def conArgs : List (Option Nat) → List Int → List Value
  | [], _ => []
  | none :: s, l => num (l.headD 0) :: conArgs s l.tail
  | some n :: s, l => .agg ⟨(l.take n).map num⟩ :: conArgs s (l.drop n)
def total : List (Option Nat) → Nat
  | [] => 0
  | none :: s => total s + 1
  | some n :: s => n + total s

def symR (X : Xt) (j : Nat) (xs : List Value) : RSh → Value
  | .i => decG X (mk (1000 + j) (.int .i64 0) xs)
  | .b => decG X (mk (1000 + j) (.bool true) xs)
  | .a n => .agg ⟨(List.range n).map fun q => decG X (mk (1000 + (j + q)) (.int .i64 0) xs)⟩
def symRs (X : Xt) (xs : List Value) : Nat → List RSh → List Value
  | _, [] => []
  | j, r :: l => symR X j xs r :: symRs X xs (j + r.wid) l
def conR (E : Env) (j : Nat) (l : List Int) : RSh → Value
  | .i => num (E.fn j l)
  | .b => .bool (E.fnB j l)
  | .a n => .agg ⟨(List.range n).map fun q => num (E.fn (j + q) l)⟩
def conRs (E : Env) (l : List Int) : Nat → List RSh → List Value
  | _, [] => []
  | j, r :: s => conR E j l r :: conRs E l (j + r.wid) s

def findE (es : List Ent) (f : FuncId) : Option Ent := match es with
  | [] => none
  | e :: l => bif Nat.beq e.f f then some e else findE l f

/-- The oracle of the summaries. -/
def sumS (X : Xt) (es : List Ent) : Orc := fun f args H => match findE es f with
  | some e => match takeArgs e.args args with
    | some xs => bif xs.any isSym then some (packV (symRs X xs e.j e.res), H, []) else bif xs.all okI then (match ints xs with
      | some l => fVal 4 (packV (conRs X.env l e.j e.res)) fun v => some (v, H, [])
      | none => none) else none
    | none => none
  | none => none

/-- An entry's contract. -/
def EntOk (P : Program) (E : Env) (e : Ent) : Prop := ∀ (l : List Int) (w : World), l.length = total e.args → Calls P e.f (conArgs e.args l).toArray w fun r w' => r = .returned (packV (conRs E l e.j e.res)) ∧ Below w.heap.size w w'

theorem findE_mem : ∀ (es : List Ent) (f : FuncId) (e : Ent), findE es f = some e → e ∈ es ∧ e.f = f
  | [], _, _, h => by cases h
  | x :: l, f, e, h => by
    unfold findE at h
    cases hb : Nat.beq x.f f with
    | true =>
      rw [hb] at h
      simp only [cond_true, Option.some.injEq] at h
      subst h
      exact ⟨List.mem_cons_self, Nat.eq_of_beq_eq_true hb⟩
    | false =>
      rw [hb] at h
      obtain ⟨h1, h2⟩ := findE_mem l f e h
      exact ⟨List.mem_cons_of_mem _ h1, h2⟩

theorem mapS_le {E : Env} {d d' : Nat} (hd : d ≤ d') {l r : List Value} (h : mapS (evS E d) l = some r) : mapS (evS E d') l = some r := mapS_mono (fun _ _ e => evS_le E hd e) l r h
theorem mapS_append {f : Value → Option Value} : ∀ (a b ra rb : List Value), mapS f a = some ra → mapS f b = some rb → mapS f (a ++ b) = some (ra ++ rb)
  | [], b, ra, rb, h1, h2 => by simp only [mapS, Option.some.injEq] at h1; subst h1; exact h2
  | x :: a, b, ra, rb, h1, h2 => by
    unfold mapS at h1
    split at h1
    · rename_i y hy
      split at h1
      · rename_i s hs
        injection h1 with h1; subst h1
        simp only [List.cons_append, mapS, hy, mapS_append a b s rb hs h2]
      · cases h1
    · cases h1

theorem all_okI {m : Mp} : ∀ (c c' : List Value), c.all okI = true → VRs m c c' → ∃ (l : List Int) (d : Nat), l.length = c.length ∧ c' = l.map num ∧ mapS (evS m.env d) c = some (l.map num)
  | [], c', _, h => ⟨[], 0, rfl, List.eq_nil_of_length_eq_zero (by rw [← h.1]; rfl), rfl⟩
  | v :: c, c', ha, h => by
    simp only [List.all_cons, Bool.and_eq_true] at ha
    obtain ⟨v', l', rfl, h1, h2⟩ := h.cons_inv
    obtain ⟨n, d, rfl, hd⟩ := okI_vr ha.1 h1
    obtain ⟨l, d', e1, rfl, e3⟩ := all_okI c l' ha.2 h2
    refine ⟨n :: l, max d d', by simp [e1], rfl, ?_⟩
    simp only [mapS, evS_le m.env (Nat.le_max_left d d') hd, mapS_le (Nat.le_max_right d d') e3, List.map_cons, num]

theorem take_sound {m : Mp} : ∀ (s : List (Option Nat)) (args xs args' : List Value), takeArgs s args = some xs → VRs m args args' → ∃ (l : List Int) (d : Nat), l.length = total s ∧ args' = conArgs s l ∧ mapS (evS m.env d) xs = some (l.map num)
  | [], [], xs, args', h, hv => by
    simp only [takeArgs, Option.some.injEq] at h
    subst h
    exact ⟨[], 0, rfl, List.eq_nil_of_length_eq_zero (by rw [← hv.1]; rfl), rfl⟩
  | none :: s, v :: vs, xs, args', h, hv => by
    unfold takeArgs at h
    cases hk : okI v with
    | false => rw [hk] at h; cases h
    | true =>
      rw [hk] at h
      simp only [cond_true] at h
      split at h
      · rename_i l0 hl0
        injection h with h; subst h
        obtain ⟨v', vs', rfl, h1, h2⟩ := hv.cons_inv
        obtain ⟨n, d, rfl, hd⟩ := okI_vr hk h1
        obtain ⟨l, d', e1, rfl, e3⟩ := take_sound s vs l0 vs' hl0 h2
        refine ⟨n :: l, max d d', by simp [total, e1], rfl, ?_⟩
        simp only [mapS, evS_le m.env (Nat.le_max_left d d') hd, mapS_le (Nat.le_max_right d d') e3, List.map_cons, num]
      · cases h
  | some n :: s, .agg ⟨c⟩ :: vs, xs, args', h, hv => by
    unfold takeArgs at h
    cases hk : (Nat.beq c.length n && c.all okI) with
    | false => rw [hk] at h; cases h
    | true =>
      rw [hk] at h
      simp only [cond_true] at h
      simp only [Bool.and_eq_true] at hk
      have hcl := Nat.eq_of_beq_eq_true hk.1
      split at h
      · rename_i l0 hl0
        injection h with h; subst h
        obtain ⟨v', vs', rfl, h1, h2⟩ := hv.cons_inv
        obtain ⟨c', rfl, hc⟩ := vr_agg h1
        obtain ⟨c'⟩ := c'
        obtain ⟨la, da, a1, a2, a3⟩ := all_okI c c' hk.2 hc
        obtain ⟨l, d', e1, rfl, e3⟩ := take_sound s vs l0 vs' hl0 h2
        refine ⟨la ++ l, max da d', by simp [total, e1, a1, hcl], ?_, ?_⟩
        · have hn : la.length = n := by rw [a1, hcl]
          simp only [conArgs, ← hn, List.take_left, List.drop_left]
          rw [a2]
        · rw [List.map_append]
          exact mapS_append _ _ _ _ (mapS_le (Nat.le_max_left da d') a3) (mapS_le (Nat.le_max_right da d') e3)
      · cases h
  | [], _ :: _, _, _, h, _ => by cases h
  | none :: _, [], _, _, h, _ => by cases h
  | some _ :: _, [], _, _, h, _ => by cases h
  | some _ :: _, .bool _ :: _, _, _, h, _ | some _ :: _, .int _ _ :: _, _, _, h, _ | some _ :: _, .float _ _ :: _, _, _, h, _ | some _ :: _, .string _ :: _, _, _, h, _ => by simp [takeArgs] at h
  | some _ :: _, .tuple _ :: _, _, _, h, _ | some _ :: _, .pointer _ :: _, _, _, h, _ | some _ :: _, .slice .. :: _, _, _, h, _ | some _ :: _, .map _ :: _, _, _, h, _ => by simp [takeArgs] at h
  | some _ :: _, .func .. :: _, _, _, h, _ | some _ :: _, .iface .. :: _, _, _, h, _ | some _ :: _, .nilFunc :: _, _, _, h, _ | some _ :: _, .nilIface :: _, _, _, h, _ => by simp [takeArgs] at h
  | some _ :: _, .complex .. :: _, _, _, h, _ | some _ :: _, .chan _ :: _, _, _, h, _ => by simp [takeArgs] at h

theorem ints_num : ∀ l : List Int, ints (l.map num) = some l
  | [] => rfl
  | n :: l => by simp only [List.map_cons, num, ints]; rw [ints_num l]
theorem apS_fn (E : Env) (j : Nat) (l : List Int) : apS E (1000 + j) (.int .i64 0 :: l.map num) = some (num (E.fn j l)) := by
  have e : 1000 + j - 1000 = j := by omega
  have hb : Nat.ble 1000 (1000 + j) = true := by simp
  unfold apS
  simp only
  split
  all_goals first
    | (exfalso; omega)
    | (rw [hb]; simp only [cond_true, ints_num, e]; rfl)
theorem apS_fnB (E : Env) (j : Nat) (l : List Int) : apS E (1000 + j) (.bool true :: l.map num) = some (.bool (E.fnB j l)) := by
  have e : 1000 + j - 1000 = j := by omega
  have hb : Nat.ble 1000 (1000 + j) = true := by simp
  unfold apS
  simp only
  split
  all_goals first
    | (exfalso; omega)
    | (rw [hb]; simp only [cond_true, ints_num, e])

theorem evS_app {E : Env} {c d : Nat} {tag r : Value} {xs vs : List Value} (ht : (∃ k n, tag = .int k n) ∨ ∃ b, tag = .bool b) (hx : mapS (evS E d) xs = some vs) (hr : apS E c (tag :: vs) = some r) : ∃ d, evS E d (mk c tag xs) = some r := by
  refine ⟨d + 1 + 1, ?_⟩
  rw [evS_mk]
  simp only [mapS, evS_tag (E := E) (d := d) ht, mapS_le (Nat.le_succ d) hx]
  exact hr

theorem symR_vr {m : Mp} {X : Xt} (hS : Sat m.env X.gam) {d : Nat} {xs : List Value} {l : List Int} (hx : mapS (evS m.env d) xs = some (l.map num)) (j : Nat) : ∀ r : RSh, VR m (symR X j xs r) (conR m.env j l r)
  | .i => vr_decV hS (evS_app (intTag .i64 0) hx (apS_fn m.env j l))
  | .b => vr_dec hS (evS_app (boolTag true) hx (apS_fnB m.env j l))
  | .a n => by
    have key : ∀ q : List Nat, VRs m (q.map fun q => decG X (mk (1000 + (j + q)) (.int .i64 0) xs)) (q.map fun q => num (m.env.fn (j + q) l)) := by
      intro q
      induction q with
      | nil => exact VRs.nil m
      | cons a t ih => exact VRs.cons (vr_decV hS (evS_app (intTag .i64 0) hx (apS_fn m.env (j + a) l))) ih
    exact (key (List.range n)).agg
theorem symRs_vr {m : Mp} {X : Xt} (hS : Sat m.env X.gam) {d : Nat} {xs : List Value} {l : List Int} (hx : mapS (evS m.env d) xs = some (l.map num)) : ∀ (j : Nat) (rs : List RSh), VRs m (symRs X xs j rs) (conRs m.env l j rs)
  | _, [] => VRs.nil m
  | j, r :: rs => VRs.cons (symR_vr hS hx j r) (symRs_vr hS hx (j + r.wid) rs)
theorem packV_vr {m : Mp} {vs vs' : List Value} (h : VRs m vs vs') : VR m (packV vs) (packV vs') := by
  match vs, vs', h with
  | [], [], h => exact h.tuple
  | [v], [v'], h => exact h.2 0 v v' rfl rfl
  | v :: u :: l, v' :: u' :: l', h => exact h.tuple
  | [], _ :: _, h => have := h.1; simp at this
  | _ :: _, [], h => have := h.1; simp at this
  | [_], _ :: _ :: _, h => have := h.1; simp at this
  | _ :: _ :: _, [_], h => have := h.1; simp at this

/-- Literals stand for themselves. -/
theorem lits : ∀ (xs : List Value) (l : List Int), ints xs = some l → xs.all okI = true → xs = l.map num
  | [], l, h, _ => by simp only [ints, Option.some.injEq] at h; subst h; rfl
  | x :: xs, l, h, ha => by
    simp only [List.all_cons, Bool.and_eq_true] at ha
    cases x with
    | int k n =>
      simp only [ints] at h
      split at h
      · rename_i r hr
        injection h with h; subst h
        have hk : k = .i64 := by
          have := ha.1
          unfold okI kindV at this
          simp only at this
          cases k <;> first | rfl | cases this
        subst hk
        rw [List.map_cons, ← lits xs r hr ha.2]
        rfl
      · cases h
    | _ => cases h
theorem mapS_num {E : Env} (d : Nat) : ∀ l : List Int, mapS (evS E (d + 1)) (l.map num) = some (l.map num)
  | [] => rfl
  | n :: l => by simp only [List.map_cons, mapS, mapS_num d l]; rfl
theorem num_inj : ∀ (l l' : List Int), l.map num = l'.map num → l = l'
  | [], [], _ => rfl
  | a :: l, b :: l', h => by
    simp only [List.map_cons, List.cons.injEq, num, Value.int.injEq, true_and] at h
    rw [h.1, num_inj l l' h.2]
  | [], _ :: _, h => by cases h
  | _ :: _, [], h => by cases h
theorem conR_vr (m : Mp) (E : Env) (l : List Int) (j : Nat) : ∀ r : RSh, VR m (conR E j l r) (conR E j l r)
  | .i => .int _ _
  | .b => .bool _
  | .a n => by
    have key : ∀ q : List Nat, VRs m (q.map fun q => num (E.fn (j + q) l)) (q.map fun q => num (E.fn (j + q) l)) := by
      intro q
      induction q with
      | nil => exact VRs.nil m
      | cons a t ih => exact VRs.cons (.int _ _) ih
    exact (key (List.range n)).agg
theorem conRs_vr (m : Mp) (E : Env) (l : List Int) : ∀ (j : Nat) (rs : List RSh), VRs m (conRs E l j rs) (conRs E l j rs)
  | _, [] => VRs.nil m
  | j, r :: rs => VRs.cons (conR_vr m E l j r) (conRs_vr m E l (j + r.wid) rs)

theorem sumS_good {P : Program} {X : Xt} (hS : Sat X.env X.gam) (es : List Ent) (h : ∀ e ∈ es, EntOk P X.env e) : GoodO P X.env (sumS X es) := by
  intro f args H v H' md hs m w args' hE hlb hR hargs
  unfold sumS at hs
  split at hs
  · rename_i e he
    obtain ⟨hm, hf⟩ := findE_mem es f e he
    split at hs
    · rename_i xs hx
      obtain ⟨l, d, hl, rfl, hd⟩ := take_sound e.args args xs args' hx hargs
      subst hf
      cases hy : xs.any isSym with
      | false =>
        rw [hy] at hs
        simp only [cond_false, fVal_eq] at hs
        cases hok : xs.all okI with
        | false => rw [hok] at hs; cases hs
        | true =>
        rw [hok] at hs
        simp only [cond_true] at hs
        split at hs
        · rename_i l' hl'
          simp only [Option.some.injEq, Prod.mk.injEq] at hs
          obtain ⟨rfl, rfl, rfl⟩ := hs
          have hll : l' = l := by
            have h1 := lits xs l' hl' hok
            subst h1
            have h2 := mapS_le (Nat.le_succ d) hd
            rw [mapS_num] at h2
            injection h2 with h2
            exact num_inj l' l h2
          subst hll
          refine (h e hm l' w hl).mono fun r w' ⟨h1, h2⟩ => ?_
          exact ⟨_, m, h1, packV_vr (conRs_vr m _ _ _ _), ext_below hlb hR h2, hlb⟩
        · cases hs
      | true =>
      rw [hy] at hs
      simp only [cond_true, Option.some.injEq, Prod.mk.injEq] at hs
      obtain ⟨rfl, rfl, rfl⟩ := hs
      refine (h e hm l w hl).mono fun r w' ⟨h1, h2⟩ => ?_
      refine ⟨_, m, h1, ?_, ext_below hlb hR h2, hlb⟩
      rw [← hE]
      exact packV_vr (symRs_vr (by rw [hE]; exact hS) hd e.j e.res)
    · cases hs
  · cases hs
theorem sumS_pure (X : Xt) (es : List Ent) : PureO (sumS X es) := by
  intro f args H v H' md hs
  unfold sumS at hs
  split at hs
  · split at hs
    · rename_i xs _
      cases hy : xs.any isSym with
      | false =>
        rw [hy] at hs
        simp only [cond_false, fVal_eq] at hs
        cases hok : xs.all okI with
        | false => rw [hok] at hs; cases hs
        | true =>
        rw [hok] at hs
        simp only [cond_true] at hs
        split at hs
        · simp only [Option.some.injEq, Prod.mk.injEq] at hs
          obtain ⟨rfl, rfl, rfl⟩ := hs
          exact Pur.refl _ _
        · cases hs
      | true =>
      rw [hy] at hs
      simp only [cond_true, Option.some.injEq, Prod.mk.injEq] at hs
      obtain ⟨rfl, rfl, rfl⟩ := hs
      exact Pur.refl _ _
    · cases hs
  · cases hs

/-- An oracle of one closed call that returns a truth value, ahead of another. -/
def closedS (f0 : FuncId) (b : Bool) (S : Orc) : Orc := fun f args H => bif Nat.beq f f0 then (match args with
  | [] => some (.bool b, H, [])
  | _ => none) else S f args H
theorem closedS_good {P : Program} {E : Env} {f0 : FuncId} {b : Bool} {S : Orc} (h : ∀ w, Calls P f0 #[] w fun e w' => e = .returned (.bool b) ∧ Below w.heap.size w w') (hS : GoodO P E S) : GoodO P E (closedS f0 b S) := by
  intro f args H v H' md hs
  unfold closedS at hs
  cases hf : Nat.beq f f0 with
  | false => rw [hf] at hs; exact hS f args H v H' md hs
  | true =>
    rw [hf] at hs
    simp only [cond_true] at hs
    split at hs
    · simp only [Option.some.injEq, Prod.mk.injEq] at hs
      obtain ⟨rfl, rfl, rfl⟩ := hs
      intro m w args' hE hlb hR hargs
      have e : args' = [] := List.eq_nil_of_length_eq_zero (by rw [← hargs.1]; rfl)
      subst e
      have hf' := Nat.eq_of_beq_eq_true hf
      subst hf'
      exact (h w).mono fun r w' ⟨h1, h2⟩ => ⟨_, m, h1, .bool b, ext_below hlb hR h2, hlb⟩
    · cases hs
theorem closedS_pure {f0 : FuncId} {b : Bool} {S : Orc} (hS : PureO S) : PureO (closedS f0 b S) := by
  intro f args H v H' md hs
  unfold closedS at hs
  cases hf : Nat.beq f f0 with
  | false => rw [hf] at hs; exact hS f args H v H' md hs
  | true =>
    rw [hf] at hs
    simp only [cond_true] at hs
    split at hs
    · simp only [Option.some.injEq, Prod.mk.injEq] at hs
      obtain ⟨rfl, rfl, rfl⟩ := hs
      exact Pur.refl _ _
    · cases hs

/-- An oracle of a function of two numbers, the second a literal between 1 and 2^40, ahead of another. -/
def litS (f0 j : Nat) (S : Orc) : Orc := fun f args H => bif Nat.beq f f0 then (match args with
  | [x, .int .i64 k] => bif okI x && (decide (1 ≤ k) && decide (k ≤ 1099511627776)) then some (mk (1000 + j) (.int .i64 0) [x, .int .i64 k], H, []) else none
  | _ => none) else S f args H
theorem litS_good {P : Program} {E : Env} {f0 j : Nat} {S : Orc} (h : ∀ (x k : Int) (w : World), 1 ≤ k → k ≤ 1099511627776 → Calls P f0 #[num x, num k] w fun e w' => e = .returned (num (E.fn j [x, k])) ∧ Below w.heap.size w w') (hS : GoodO P E S) : GoodO P E (litS f0 j S) := by
  intro f args H v H' md hs
  unfold litS at hs
  cases hf : Nat.beq f f0 with
  | false => rw [hf] at hs; exact hS f args H v H' md hs
  | true =>
    rw [hf] at hs
    simp only [cond_true] at hs
    split at hs
    · rename_i x k
      cases hc : (okI x && (decide (1 ≤ k) && decide (k ≤ 1099511627776))) with
      | false => rw [hc] at hs; cases hs
      | true =>
        rw [hc] at hs
        simp only [cond_true, Option.some.injEq, Prod.mk.injEq] at hs
        obtain ⟨rfl, rfl, rfl⟩ := hs
        simp only [Bool.and_eq_true, decide_eq_true_eq] at hc
        intro m w args' hE hlb hR hargs
        obtain ⟨x', l', rfl, h1, h2⟩ := hargs.cons_inv
        obtain ⟨k', l'', rfl, h3, h4⟩ := h2.cons_inv
        have e : l'' = [] := List.eq_nil_of_length_eq_zero (by rw [← h4.1]; rfl)
        subst e
        have hk := vr_int h3
        subst hk
        obtain ⟨n, d, rfl, hd⟩ := okI_vr hc.1 h1
        have hf' := Nat.eq_of_beq_eq_true hf
        subst hf'
        refine (h n k w hc.2.1 hc.2.2).mono fun r w' ⟨e1, e2⟩ => ⟨_, m, e1, ?_, ext_below hlb hR e2, hlb⟩
        rw [← hE]
        have hx : mapS (evS m.env (d + 1)) [x, .int .i64 k] = some ([n, k].map num) := by
          simp only [mapS, evS_le m.env (Nat.le_succ d) hd]
          rfl
        exact vr_mkI (evS_app (intTag .i64 0) hx (apS_fn m.env j [n, k]))
    · cases hs
theorem litS_pure {f0 j : Nat} {S : Orc} (hS : PureO S) : PureO (litS f0 j S) := by
  intro f args H v H' md hs
  unfold litS at hs
  cases hf : Nat.beq f f0 with
  | false => rw [hf] at hs; exact hS f args H v H' md hs
  | true =>
    rw [hf] at hs
    simp only [cond_true] at hs
    split at hs
    · rename_i x k
      cases hc : (okI x && (decide (1 ≤ k) && decide (k ≤ 1099511627776))) with
      | false => rw [hc] at hs; cases hs
      | true =>
        rw [hc] at hs
        simp only [cond_true, Option.some.injEq, Prod.mk.injEq] at hs
        obtain ⟨rfl, rfl, rfl⟩ := hs
        exact Pur.refl _ _
    · cases hs
end Go.Sm
end
