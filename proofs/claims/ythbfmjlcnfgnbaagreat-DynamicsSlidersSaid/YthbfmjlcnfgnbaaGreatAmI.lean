/-
  Regions in the order of the text; code; bodies.
-/
import Derived.Test.YthbfmjlcnfgnbaaGreatAmH
namespace Go.Am

structure St where
  fr : List Value
  H : Hp
  loc : Hp
  wg : List Nat

def evalO (fr : List Value) : Operand → Value
  | .tmp t => fr.getD t undef
  | .const v => v
  | .global g => .pointer (some ⟨g, 0, some 1⟩)
  | .func f => .func (.func f) #[] #[]

def putF (fr : List Value) (dst : Option Tmp) (v : Value) : List Value :=
  match dst with
  | some d => fr.set d v
  | none => fr

def fPut {α : Type} (fr : List Value) (dst : Option Tmp) (v : Value) (k : List Value → α) : α :=
  match dst with
  | some d => fSet fr d v k
  | none => k fr
theorem fPut_eq {α : Type} (fr : List Value) (dst : Option Tmp) (v : Value) (k : List Value → α) : fPut fr dst v k = k (putF fr dst v) := by
  cases dst with
  | none => rfl
  | some d => exact fSet_eq fr d v k

def operandOk : Operand → Bool
  | .const v => plainV v
  | .global _ => false
  | _ => true

def wantedA (ops : List Oper) (fr : List Value) (o : Oper) : Bool :=
  match o.guard with
  | none => true
  | some (j, want) =>
    match (ops[j]?).bind (·.dst) with
    | some t => match fr[t]? with
      | some (.bool b) => b == want
      | _ => false
    | none => false

/-- The operands' constants are plain. -/
def constsOk (ops : List Oper) : Bool := ops.all fun o => o.op.operands.toList.all operandOk

def stepO (P : Program) (X : Xt) (O : Orc) (esc : Nat → Bool) (ops : List Oper) (o : Oper) (s : St) : Option St :=
  bif wantedA ops s.fr o then
    match evOp P X O esc o (evalO s.fr) s.H s.loc with
    | some out => fVal 4 out.v fun v => fPut s.fr o.dst v fun fr => fSpine (s.wg ++ out.wg) fun wg => some ⟨fr, out.H, out.loc, wg⟩
    | none => none
  else fPut s.fr o.dst undef fun fr => some { s with fr := fr }

def seqOps (P : Program) (X : Xt) (O : Orc) (esc : Nat → Bool) (ops : List Oper) : List Oper → St → Option St
  | [], s => some s
  | o :: rest, s => match stepO P X O esc ops o s with
    | some s' => seqOps P X O esc ops rest s'
    | none => none

/-- The machine's state and the world's. m0, H0, w0: as the call began. -/
structure Sim (m0 : Mp) (H0 : Hp) (w0 : World) (s : St) (m : Mp) (a : Act) (w : World) : Prop where
  ext : Ext m0 H0 [] w0 m s.H s.loc w s.wg []
  fr : VRs m s.fr a.tmps.toList
  df : a.defers = []

section
variable {P : Program} {m m0 : Mp} {H0 : Hp} {w w0 : World} {a : Act}

theorem Ext.nil_wl {m m' : Mp} {H H' loc' : Hp} {w w' : World} {wg wl : List Nat} (h : Ext m H [] w m' H' loc' w' wg wl) : Ext m H [] w m' H' loc' w' wg [] :=
  { h with modl := fun i hi => by simp at hi }

theorem eval_vr {fr : List Value} (hf : VRs m fr a.tmps.toList) {x : Operand} (hx : operandOk x = true) : VR m (evalO fr x) (a.eval x) := by
  cases x with
  | tmp t =>
    simp only [evalO, Act.eval]
    have hsz : fr.length = a.tmps.size := by simpa using hf.1
    by_cases ht : t < fr.length
    · have ht' : t < a.tmps.size := hsz ▸ ht
      have := hf.2 t fr[t] a.tmps[t] (List.getElem?_eq_getElem ht) (by simp [ht'])
      simpa [List.getD, ht, ht'] using this
    · have ht' : ¬ t < a.tmps.size := hsz ▸ ht
      have e1 : fr.getD t undef = undef := by simp [List.getD, List.getElem?_eq_none (Nat.le_of_not_lt ht)]
      have e2 : a.tmps.getD t undef = undef := by simp [ht']
      rw [e1, e2]
      exact VR.undef m
  | const v => exact plain_vr m 4 v hx
  | global g => cases hx
  | func f => exact .func rfl (fun i v v' h => by simp at h) rfl (fun i v v' h => by simp at h)

theorem opR_of {fr : List Value} (hf : VRs m fr a.tmps.toList) {o : Oper} (ho : o.op.operands.toList.all operandOk = true) : OpR m (evalO fr) a.eval o := by
  intro x hx
  exact eval_vr hf (List.all_eq_true.1 ho x (by simpa using hx))

theorem wanted_eq {ops : List Oper} {fr : List Value} (hf : VRs m fr a.tmps.toList) (o : Oper) : Region.wanted o (yielded ops.toArray a.tmps) = wantedA ops fr o := by
  unfold Region.wanted wantedA
  cases o.guard with
  | none => rfl
  | some jw =>
    obtain ⟨j, want⟩ := jw
    simp only [yielded, List.getElem?_toArray]
    cases hd : (ops[j]?).bind (·.dst) with
    | none => simp
    | some t =>
      simp only [Option.bind_some]
      cases hv : fr[t]? with
      | none =>
        have : a.tmps[t]? = none := by
          have h1 := hf.1
          rw [List.getElem?_eq_none_iff] at hv
          simp at h1
          simp; omega
        simp [this]
      | some v =>
        obtain ⟨v', hv', hvr⟩ := hf.at hv
        have e : a.tmps[t]? = some v' := by simpa using hv'
        rw [e]
        cases hvr <;> simp

theorem put_vr {fr : List Value} (hf : VRs m fr a.tmps.toList) (dst : Option Tmp) {v v' : Value} (hv : VR m v v') : VRs m (putF fr dst v) (a.put dst v').tmps.toList := by
  cases dst with
  | none => exact hf
  | some d =>
    simp only [putF, Act.put, Array.toList_setIfInBounds]
    exact hf.set d hv

theorem seq_sound (hN : Named P) {X : Xt} (hX : GoodX P X) {O : Orc} (hO : GoodO P O) {esc : Nat → Bool} {ops : List Oper} {Q : Exit → Act → World → Prop} :
    ∀ (l : List Oper) (s s' : St) (m : Mp) (a : Act) (w : World), constsOk l = true → seqOps P X O esc ops l s = some s' → Sim m0 H0 w0 s m a w →
      (∀ m' a' w', Sim m0 H0 w0 s' m' a' w' → Q .normal a' w') → wpList P ops.toArray Q l a w
  | [], s, s', m, a, w, _, h, hs, hQ => by
    simp only [seqOps, Option.some.injEq] at h
    subst h
    exact hQ m a w hs
  | o :: rest, s, s', m, a, w, hc, h, hs, hQ => by
    simp only [constsOk, List.all_cons, Bool.and_eq_true] at hc
    simp only [seqOps] at h
    split at h
    · rename_i s1 h1
      unfold stepO at h1
      simp only [fVal_eq, fPut_eq, fSpine_eq] at h1
      unfold wpList
      rw [wanted_eq hs.fr]
      cases hw : wantedA ops s.fr o with
      | true =>
        rw [hw] at h1
        simp only [cond_true] at h1
        simp only [if_true]
        split at h1
        · rename_i out hout
          injection h1 with h1; subst h1
          refine .inl (evOp_sound hN hX hO (opR_of hs.fr hc.1) hs.ext.rel hout fun v' w' m' hext hvr => ?_)
          refine seq_sound hN hX hO rest _ s' m' _ w' hc.2 h ⟨(hs.ext.trans hext).nil_wl, ?_, ?_⟩ hQ
          · exact put_vr (hs.fr.mono hext.le) o.dst hvr
          · cases hd : o.dst <;> simp [Act.put, hs.df]
        · cases h1
      | false =>
        rw [hw] at h1
        simp only [cond_false, Option.some.injEq] at h1
        subst h1
        simp only [Bool.false_eq_true, if_false]
        refine seq_sound hN hX hO rest _ s' m _ w hc.2 h ⟨hs.ext, ?_, ?_⟩ hQ
        · exact put_vr hs.fr o.dst (VR.undef m)
        · cases hd : o.dst <;> simp [Act.put, hs.df]
    · cases h

end
end Go.Am
