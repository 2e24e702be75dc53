/-
  Texts put together: AmJ AmL AmM AmN.
-/
import Derived.Test.YtgkihlkhklmgcaaGreatZTrajectorySteps5
set_option linter.unusedVariables false
section
/-
  Regions that draw their order; code; bodies: the machine.
-/
namespace Go.Am

/-- What an operation read and wrote: global and local blocks; bd: a loaded value names blocks only that stood there. -/
structure Fp where
  rg : List Nat
  rl : List Nat
  wg : List Nat
  wl : List Nat
  bd : Bool

def isEff (o : Oper) : Bool := match kindOf o.op with
  | .eff => true
  | _ => false
def isLoad (o : Oper) : Bool := match kindOf o.op with
  | .load => true
  | _ => false

def isLook (o : Oper) : Bool := match kindOf o.op with
  | .look => true
  | _ => false

def readsOf (o : Oper) (ρ : Operand → Value) : List Nat × List Nat :=
  match o.op with
  | .load _ x => match ρ x with
    | .pointer (some ⟨b, _, none⟩) => ([b], [])
    | .pointer (some ⟨b, _, some _⟩) => ([], [b])
    | _ => ([], [])
  | _ => ([], [])

def boundB (h l : Nat) : Nat → Value → Bool
  | 0, _ => false
  | d + 1, v => match v with
    | .pointer (some a) => bif a.spot.isNone then Nat.blt a.block h else Nat.blt a.block l
    | .slice (some a) _ _ => bif a.spot.isNone then Nat.blt a.block h else Nat.blt a.block l
    | .map (some r) => Nat.blt r h
    | .agg cs => cs.toList.all (boundB h l d)
    | .tuple cs => cs.toList.all (boundB h l d)
    | .iface _ x => boundB h l d x
    | .func _ fs cs => fs.toList.all (boundB h l d) && cs.toList.all (boundB h l d)
    | _ => true

def stepTr (P : Program) (X : Xt) (O : Orc) (esc : Nat → Bool) (ops : List Oper) (o : Oper) (s : St) : Option (St × Fp) :=
  bif wantedA ops s.fr o then
    match evOp P X O esc o (evalO s.fr) s.H s.loc with
    | some out => some (⟨putF s.fr o.dst out.v, out.H, out.loc, s.wg ++ out.wg⟩, ⟨(readsOf o (evalO s.fr)).1, (readsOf o (evalO s.fr)).2, out.wg, out.wl, boundB s.H.length s.loc.length 6 out.v⟩)
    | none => none
  else some ({ s with fr := putF s.fr o.dst undef }, ⟨[], [], [], [], true⟩)

def traceOps (P : Program) (X : Xt) (O : Orc) (esc : Nat → Bool) (ops : List Oper) : List Oper → St → Option (St × List Fp)
  | [], s => some (s, [])
  | o :: rest, s => match stepTr P X O esc ops o s with
    | some (s1, f) => match traceOps P X O esc ops rest s1 with
      | some (s', fps) => some (s', f :: fps)
      | none => none
    | none => none

/-- Whom an operation waits for, as bits; acc: those of the earlier ones, the last first. -/
def bmRow (j : Nat) (acc : List Nat) (es : List Edge) : Nat :=
  match es with
  | [] => 0
  | e :: es => bif Region.binds .any e then (2 ^ e.on ||| (bif Nat.blt e.on j then acc.getD (j - 1 - e.on) 0 else 0)) ||| bmRow j acc es else bmRow j acc es
def bmGo : List Oper → Nat → List Nat → List Nat
  | [], _, acc => acc
  | o :: rest, j, acc => fNat (bmRow j acc o.after.toList) fun v => bmGo rest (j + 1) (v :: acc)
def bms (ops : List Oper) : List Nat := (bmGo ops 0 []).reverse

/-- Two operations, the first earlier in the text, of which the second does not wait for the first, touch different temporaries, and do not both act. -/
def pairOk (ops : Array Oper) (x : Oper × Nat) (y : Oper × Nat) : Bool :=
  y.2.testBit x.2 || (!(isEff x.1 && (isEff y.1 || isLook y.1)) && x.1.apart ops y.1)
def pairsFrom (ops : Array Oper) : Nat → List (Oper × Nat) → Bool
  | _, [] => true
  | i, x :: l => l.all (fun y => pairOk ops (x.1, i) y) && pairsFrom ops (i + 1) l

def staticOk (ops : List Oper) : Bool :=
  (ops.zipIdx.all fun (o, i) => o.after.toList.all fun e => !Region.binds .any e || Nat.blt e.on i) &&
  (ops.all fun o => match o.op with | .select _ _ => false | _ => true) &&
  pairsFrom ops.toArray 0 (ops.zip (bms ops))

/-- The pairs of one that acts and one that loads, neither waiting for the other. -/
def confOf (ops : List Oper) : List (Nat × Nat) :=
  (ops.zip (bms ops)).zipIdx.flatMap fun (x, i) => (ops.zip (bms ops)).zipIdx.filterMap fun (y, j) =>
    bif isEff x.1 && isLoad y.1 && !(x.2.testBit j) && !(y.2.testBit i) then some (i, j) else none

/-- The pairs of a reading of a map and one that acts behind it in the text and does not wait for it. -/
def lkOf (ops : List Oper) : List (Nat × Nat × Oper) :=
  (ops.zip (bms ops)).zipIdx.flatMap fun (x, i) => (ops.zip (bms ops)).zipIdx.filterMap fun (y, j) =>
    bif isLook x.1 && isEff y.1 && Nat.blt i j && !(y.2.testBit i) then some (i, j, x.1) else none

def eqInt : Int → Int → Bool
  | .ofNat a, .ofNat b => Nat.beq a b
  | .negSucc a, .negSucc b => Nat.beq a b
  | _, _ => false
def sameL : Option Value → Option Value → Bool
  | some (.int .i64 a), some (.int .i64 b) => eqInt a b
  | some (.bool a), some (.bool b) => bif a then b else !b
  | _, _ => false

/-- The reading's answer is the same behind the other. -/
def lookAt (P : Program) (X : Xt) (O : Orc) (esc : Nat → Bool) (ops : List Oper) (s : St) (q : Nat × Nat × Oper) : Bool :=
  match traceOps P X O esc ops (ops.take q.1) s with
  | some (s1, _) => match traceOps P X O esc ops (ops.take (q.2.1 + 1)) s with
    | some (s2, _) => sameL (evLook P s1.H q.2.2.op (evalO s1.fr)) (evLook P s2.H q.2.2.op (evalO s1.fr))
    | none => false
  | none => false

def meets (a b : List Nat) : Bool := a.any fun x => b.contains x

def dynOk (conf : List (Nat × Nat)) (fps : List Fp) : Bool :=
  conf.all fun (i, j) => match fps[i]?, fps[j]? with
    | some x, some y => !meets y.rg x.wg && !meets y.rl x.wl && (Nat.blt i j || y.bd)
    | _, _ => false

def drawOps (P : Program) (X : Xt) (O : Orc) (esc : Nat → Bool) (ops : List Oper) (s : St) : Option St :=
  bif staticOk ops then
    match traceOps P X O esc ops ops s with
    | some (s', fps) => bif dynOk (confOf ops) fps && (lkOf ops).all (lookAt P X O esc ops s) then some s' else none
    | none => none
  else none

inductive Ex where
  | normal
  | exit (id : Nat)
  | ret

def loopN (f : St → Option (Ex × St)) : Nat → St → Option (Ex × St)
  | 0, _ => none
  | n + 1, s => match f s with
    | some (.normal, s') => loopN f n s'
    | r => r

def exec (P : Program) (X : Xt) (O : Orc) (esc : Nat → Bool) (fuel : Nat) : Code → St → Option (Ex × St)
  | .skip, s => some (.normal, s)
  | .region _ ops draw, s =>
    bif constsOk ops.toList then
      match (bif draw then drawOps P X O esc ops.toList s else seqOps P X O esc ops.toList ops.toList s) with
      | some s' => some (.normal, s')
      | none => none
    else none
  | .seq a b, s => match exec P X O esc fuel a s with
    | some (.normal, s') => exec P X O esc fuel b s'
    | r => r
  | .cond c t e, s => match evalO s.fr c with
    | .bool b => bif b then exec P X O esc fuel t s else exec P X O esc fuel e s
    | _ => none
  | .block id body, s => match exec P X O esc fuel body s with
    | some (.exit i, s') => bif i == id then some (.normal, s') else some (.exit i, s')
    | r => r
  | .loop body, s => loopN (exec P X O esc fuel body) fuel s
  | .exit id, s => some (.exit id, s)
  | .ret, s => some (.ret, s)
  | _, _ => none

def resultsA (P : Program) (s : St) : List ResultVar → Option (List Value)
  | [] => some []
  | .tmp t :: rest => match resultsA P s rest with
    | some vs => some (s.fr.getD t undef :: vs)
    | none => none
  | .cell a t :: rest => match evLoad P s.H s.loc t (s.fr.getD a undef), resultsA P s rest with
    | some v, some vs => some (v :: vs)
    | _, _ => none

def packV : List Value → Value
  | [v] => v
  | vs => .tuple ⟨vs⟩

def finish (H : Hp) (s : St) (v : Value) : Option (Value × Hp × List Nat) :=
  bif noLoc v then (bif s.wg.isEmpty && plainV v then some (v, H, []) else some (v, s.H, s.wg)) else none

def runBody (P : Program) (X : Xt) (esc : FuncId → Nat → Bool) (fuel : Nat) (O : Orc) : Orc := fun f args H =>
  match P.funcs[f]? with
  | none => none
  | some fn =>
    match fn.body with
    | none => none
    | some c =>
      match exec P X O (esc f) fuel c ⟨args ++ List.replicate (fn.ntmps - args.length) undef, H, [], []⟩ with
      | some (.normal, s) => match resultsA P s fn.results.toList with
        | some vs => finish H s (packV vs)
        | none => none
      | some (.ret, s) => match resultsA P s fn.results.toList with
        | some vs => finish H s (packV vs)
        | none => none
      | _ => none

end Go.Am
end

section
/-
  Drawn regions: maps cut at a moment of the text's run; who waits for whom; the states of the text's run.
-/
namespace Go.Am

/-- The map up to so many blocks. -/
def Mp.cut (m : Mp) (h l : Nat) : Mp := { m with gb := fun i => if i < h then m.gb i else none, lb := fun i => if i < l then m.lb i else none }

theorem cut_gb {m : Mp} {h l i g : Nat} : (m.cut h l).gb i = some g ↔ i < h ∧ m.gb i = some g := by
  simp only [Mp.cut]
  by_cases hi : i < h <;> simp [hi]
theorem cut_lb {m : Mp} {h l i g : Nat} : (m.cut h l).lb i = some g ↔ i < l ∧ m.lb i = some g := by
  simp only [Mp.cut]
  by_cases hi : i < l <;> simp [hi]
theorem cut_mono (m : Mp) {h h' l l' : Nat} (h1 : h ≤ h') (h2 : l ≤ l') : Le (m.cut h l) (m.cut h' l') :=
  ⟨fun _ _ e => cut_gb.2 ⟨Nat.lt_of_lt_of_le (cut_gb.1 e).1 h1, (cut_gb.1 e).2⟩, fun _ _ e => cut_lb.2 ⟨Nat.lt_of_lt_of_le (cut_lb.1 e).1 h2, (cut_lb.1 e).2⟩, fun _ _ _ => rfl, fun _ _ _ => rfl, fun _ _ _ => rfl⟩
theorem Le.cut {m m' : Mp} (hm : Le m m') (h l : Nat) : Le (m.cut h l) (m'.cut h l) :=
  ⟨fun i g e => cut_gb.2 ⟨(cut_gb.1 e).1, hm.gb i g (cut_gb.1 e).2⟩, fun i g e => cut_lb.2 ⟨(cut_lb.1 e).1, hm.lb i g (cut_lb.1 e).2⟩,
   fun i g e => hm.loose i g (cut_gb.1 e).2, fun i g e => hm.esz i g (cut_gb.1 e).2, fun i g e => hm.tot i g (cut_gb.1 e).2⟩

theorem bound_vr {m : Mp} {h l : Nat} : ∀ (d : Nat) (v v' : Value), boundB h l d v = true → VR m v v' → VR (m.cut h l) v v'
  | 0, _, _, hb, _ => by simp [boundB] at hb
  | d + 1, v, v', hb, hv => by
    cases hv with
    | bool b => exact .bool b
    | int k n => exact .int k n
    | float k n => exact .float k n
    | string s => exact .string s
    | ptrN => exact .ptrN
    | ptrG e => simp [boundB] at hb; exact .ptrG (cut_gb.2 ⟨hb, e⟩)
    | ptrL e => simp [boundB] at hb; exact .ptrL (cut_lb.2 ⟨hb, e⟩)
    | sliceN n c => exact .sliceN n c
    | sliceG e => simp [boundB] at hb; exact .sliceG (cut_gb.2 ⟨hb, e⟩)
    | sliceO e hl hc ht => simp [boundB] at hb; exact .sliceO (cut_gb.2 ⟨hb, e⟩) hl hc ht
    | sliceE e hl => simp [boundB] at hb; exact .sliceE (cut_gb.2 ⟨hb, e⟩) hl
    | sliceL e => simp [boundB] at hb; exact .sliceL (cut_lb.2 ⟨hb, e⟩)
    | mapN => exact .mapN
    | mapG e => simp [boundB] at hb; exact .mapG (cut_gb.2 ⟨hb, e⟩)
    | nilFunc => exact .nilFunc
    | nilIface => exact .nilIface
    | func hl hh hl2 hh2 =>
      simp only [boundB, Bool.and_eq_true, List.all_eq_true] at hb
      exact .func hl (fun i a b ha hb' => bound_vr d a b (hb.1 a (List.mem_of_getElem? ha)) (hh i a b ha hb')) hl2
        (fun i a b ha hb' => bound_vr d a b (hb.2 a (List.mem_of_getElem? ha)) (hh2 i a b ha hb'))
    | iface hh => simp only [boundB] at hb; exact .iface (bound_vr d _ _ hb hh)
    | agg hl hh =>
      simp only [boundB, List.all_eq_true] at hb
      exact .agg hl (fun i a b ha hb' => bound_vr d a b (hb a (List.mem_of_getElem? ha)) (hh i a b ha hb'))
    | tuple hl hh =>
      simp only [boundB, List.all_eq_true] at hb
      exact .tuple hl (fun i a b ha hb' => bound_vr d a b (hb a (List.mem_of_getElem? ha)) (hh i a b ha hb'))

/-- Operation i comes before operation j in every order. -/
inductive Bef (ops : List Oper) : Nat → Nat → Prop
  | edge {j : Nat} {o : Oper} {e : Edge} (ho : ops[j]? = some o) (he : e ∈ o.after) (hb : Region.binds .any e = true) : Bef ops e.on j
  | step {i j : Nat} {o : Oper} {e : Edge} (ho : ops[j]? = some o) (he : e ∈ o.after) (hb : Region.binds .any e = true) (h : Bef ops i e.on) : Bef ops i j

def Closed (ops : List Oper) (L : Nat → Prop) : Prop := ∀ j o, ops[j]? = some o → L j → ∀ e ∈ o.after, Region.binds .any e = true → L e.on

theorem Bef.closed {ops : List Oper} {L : Nat → Prop} (hL : Closed ops L) {i j : Nat} (h : Bef ops i j) : L j → L i := by
  induction h with
  | edge ho he hb => intro hj; exact hL _ _ ho hj _ he hb
  | step ho he hb _ ih => intro hj; exact ih (hL _ _ ho hj _ he hb)
theorem Bef.ready {ops : List Oper} {L : Nat → Prop} (hL : Closed ops L) {i j : Nat} (h : Bef ops i j) (hj : ∀ o, ops[j]? = some o → ∀ e ∈ o.after, Region.binds .any e = true → L e.on) : L i := by
  cases h with
  | edge ho he hb => exact hj _ ho _ he hb
  | step ho he hb h => exact h.closed hL (hj _ ho _ he hb)

theorem bmRow_bit {j : Nat} {acc : List Nat} {i : Nat} : ∀ (es : List Edge), (bmRow j acc es).testBit i = true →
    ∃ e ∈ es, Region.binds .any e = true ∧ (e.on = i ∨ (e.on < j ∧ (acc.getD (j - 1 - e.on) 0).testBit i = true))
  | [], h => by simp [bmRow] at h
  | e :: es, h => by
    unfold bmRow at h
    cases hb : Region.binds .any e with
    | false =>
      rw [hb] at h
      simp only [cond_false] at h
      obtain ⟨e', h1, h2⟩ := bmRow_bit es h
      exact ⟨e', List.mem_cons_of_mem _ h1, h2⟩
    | true =>
      rw [hb] at h
      simp only [cond_true, Nat.testBit_or, Bool.or_eq_true] at h
      rcases h with (h | h) | h
      · refine ⟨e, List.mem_cons_self, hb, .inl ?_⟩
        simpa using (Nat.testBit_two_pow (n := e.on) (m := i)).symm.trans h
      · refine ⟨e, List.mem_cons_self, hb, .inr ?_⟩
        cases hlt : Nat.blt e.on j with
        | false => rw [hlt] at h; simp at h
        | true => rw [hlt] at h; exact ⟨by simpa using hlt, h⟩
      · obtain ⟨e', h1, h2⟩ := bmRow_bit es h
        exact ⟨e', List.mem_cons_of_mem _ h1, h2⟩

theorem bmGo_bit {ops : List Oper} : ∀ (l : List Oper) (j : Nat) (acc : List Nat), (∀ k, l[k]? = ops[j + k]?) → acc.length = j →
    (∀ i' i, i' < j → (acc.getD (j - 1 - i') 0).testBit i = true → Bef ops i i') →
    ∀ i' i, i' < j + l.length → ((bmGo l j acc).getD (j + l.length - 1 - i') 0).testBit i = true → Bef ops i i'
  | [], j, acc, _, _, hacc => fun i' i hi h => hacc i' i (by simpa using hi) (by simpa [bmGo] using h)
  | o :: rest, j, acc, hl, hlen, hacc => fun i' i hi h => by
    have h0 : ops[j]? = some o := by simpa using (hl 0).symm
    simp only [bmGo, fNat_eq, List.length_cons] at h hi
    refine bmGo_bit rest (j + 1) (bmRow j acc o.after.toList :: acc) (fun k => ?_) (by simp [hlen]) ?_ i' i (by omega) ?_
    · have := hl (k + 1)
      simp only [List.getElem?_cons_succ] at this
      rw [this]; congr 1; omega
    · intro i' i hi' hb
      by_cases hij : i' = j
      · subst hij
        have e0 : i' + 1 - 1 - i' = 0 := by omega
        rw [e0, List.getD_cons_zero] at hb
        obtain ⟨e, he, hbind, h1 | ⟨h1, h2⟩⟩ := bmRow_bit _ hb
        · subst h1; exact .edge h0 (by simpa using he) hbind
        · exact .step h0 (by simpa using he) hbind (hacc _ _ h1 h2)
      · have e1 : j + 1 - 1 - i' = (j - 1 - i') + 1 := by omega
        rw [e1, List.getD_cons_succ] at hb
        exact hacc i' i (by omega) hb
    · have e2 : j + 1 + rest.length - 1 - i' = j + (rest.length + 1) - 1 - i' := by omega
      rw [e2]; exact h

theorem bmGo_length : ∀ (l : List Oper) (j : Nat) (acc : List Nat), (bmGo l j acc).length = l.length + acc.length
  | [], _, _ => by simp [bmGo]
  | o :: rest, j, acc => by simp [bmGo, fNat_eq, bmGo_length rest]; omega

theorem bms_bit {ops : List Oper} {j i x : Nat} (h : (bms ops)[j]? = some x) (hb : x.testBit i = true) : Bef ops i j := by
  have hlen : (bmGo ops 0 []).length = ops.length := by rw [bmGo_length]; simp
  have hj : j < ops.length := by
    have := (List.getElem?_eq_some_iff.1 h).1
    simpa [bms, hlen] using this
  refine bmGo_bit ops 0 [] (fun k => by simp) rfl (fun i' i hi => by omega) j i (by simpa using hj) ?_
  unfold bms at h
  rw [List.getElem?_reverse (by omega)] at h
  have e : 0 + ops.length - 1 - j = (bmGo ops 0 []).length - 1 - j := by omega
  rw [List.getD_eq_getElem?_getD, e, h]
  exact hb
theorem bms_at {ops : List Oper} {j : Nat} (hj : j < ops.length) : ∃ x, (bms ops)[j]? = some x := by
  have hlen : (bms ops).length = ops.length := by simp [bms, bmGo_length]
  exact ⟨_, List.getElem?_eq_getElem (by omega)⟩

theorem pairsFrom_spec {A : Array Oper} : ∀ (l : List (Oper × Nat)) (k : Nat), pairsFrom A k l = true → ∀ (i j : Nat) (x y : Oper × Nat), i < j → l[i]? = some x → l[j]? = some y → pairOk A (x.1, k + i) y = true
  | [], _, _, i, j, x, y, _, hi, _ => by simp at hi
  | z :: l, k, h, i, j, x, y, hij, hi, hj => by
    simp only [pairsFrom, Bool.and_eq_true, List.all_eq_true] at h
    cases i with
    | zero =>
      simp at hi; subst hi
      cases j with
      | zero => omega
      | succ j =>
        simp only [List.getElem?_cons_succ] at hj
        exact h.1 y (List.mem_of_getElem? hj)
    | succ i =>
      cases j with
      | zero => omega
      | succ j =>
        simp only [List.getElem?_cons_succ] at hi hj
        have := pairsFrom_spec l (k + 1) h.2 i j x y (by omega) hi hj
        rw [show k + (i + 1) = k + 1 + i by omega]
        exact this

/-- What the static check says. -/
structure Sta (ops : List Oper) : Prop where
  back : ∀ j o, ops[j]? = some o → ∀ e ∈ o.after, Region.binds .any e = true → e.on < j
  sel : ∀ (j : Nat) (o : Oper) cs b, ops[j]? = some o → o.op ≠ .select cs b
  pair : ∀ i j x y, i < j → ops[i]? = some x → ops[j]? = some y → Bef ops i j ∨ (¬ (isEff x = true ∧ isEff y = true) ∧ x.apart ops.toArray y = true)
  lk : ∀ i j x y, i < j → ops[i]? = some x → ops[j]? = some y → isEff x = true → isLook y = true → Bef ops i j

theorem static_spec {ops : List Oper} (h : staticOk ops = true) : Sta ops := by
  simp only [staticOk, Bool.and_eq_true] at h
  obtain ⟨⟨h1, h2⟩, h3⟩ := h
  have hp : ∀ i j x y, i < j → ops[i]? = some x → ops[j]? = some y → Bef ops i j ∨ (¬ (isEff x = true ∧ (isEff y = true ∨ isLook y = true)) ∧ x.apart ops.toArray y = true) := fun i j x y hij hx hy => by
    have hji : j < ops.length := (List.getElem?_eq_some_iff.1 hy).1
    obtain ⟨bi, hbi⟩ := bms_at (ops := ops) (j := i) (by omega)
    obtain ⟨bj, hbj⟩ := bms_at (ops := ops) (j := j) hji
    have := pairsFrom_spec _ 0 h3 i j (x, bi) (y, bj) hij (by rw [List.getElem?_zip_eq_some]; exact ⟨hx, hbi⟩) (by rw [List.getElem?_zip_eq_some]; exact ⟨hy, hbj⟩)
    simp only [pairOk, Nat.zero_add, Bool.or_eq_true, Bool.and_eq_true, Bool.not_eq_true'] at this
    rcases this with h | ⟨h, h'⟩
    · exact .inl (bms_bit hbj h)
    · refine .inr ⟨fun ⟨e1, e2⟩ => ?_, h'⟩
      rw [e1] at h
      rcases e2 with e2 | e2 <;> rw [e2] at h <;> simp at h
  refine ⟨fun j o ho e he hb => ?_, fun j o cs b ho hs => ?_, fun i j x y hij hx hy => ?_, fun i j x y hij hx hy ex ey => ?_⟩
  · rw [List.all_eq_true] at h1
    have := h1 (o, j) (by rw [List.mem_zipIdx_iff_getElem?]; simpa using ho)
    simp only [List.all_eq_true] at this
    have := this e (by simpa using he)
    rw [hb] at this
    simpa using this
  · rw [List.all_eq_true] at h2
    have := h2 o (List.mem_of_getElem? ho)
    rw [hs] at this
    simp at this
  · rcases hp i j x y hij hx hy with h | ⟨h, h'⟩
    · exact .inl h
    · exact .inr ⟨fun ⟨e1, e2⟩ => h ⟨e1, .inl e2⟩, h'⟩
  · rcases hp i j x y hij hx hy with h | ⟨h, _⟩
    · exact h
    · exact absurd ⟨ex, .inr ey⟩ h

theorem sameL_eq : ∀ {a b : Option Value}, sameL a b = true → ∃ v, a = some v ∧ b = some v
  | some (.int .i64 a), some (.int .i64 b), h => by
    refine ⟨_, rfl, ?_⟩
    simp only [sameL] at h
    unfold eqInt at h
    split at h
    · rw [Nat.eq_of_beq_eq_true h]
    · rw [Nat.eq_of_beq_eq_true h]
    · cases h
  | some (.bool a), some (.bool b), h => by
    refine ⟨_, rfl, ?_⟩
    cases a <;> cases b <;> simp [sameL] at h ⊢

theorem trace_take {P : Program} {X : Xt} {O : Orc} {esc : Nat → Bool} {ops : List Oper} : ∀ (l : List Oper) (S : Nat → St) (F : Nat → Fp), (∀ k o, l[k]? = some o → stepTr P X O esc ops o (S k) = some (S (k + 1), F k)) →
    ∀ n, n ≤ l.length → ∃ fps, traceOps P X O esc ops (l.take n) (S 0) = some (S n, fps)
  | _, S, F, _, 0, _ => ⟨[], by simp [traceOps]⟩
  | [], S, F, _, n + 1, h => by simp at h
  | o :: l, S, F, hs, n + 1, h => by
    obtain ⟨fps, e⟩ := trace_take l (fun k => S (k + 1)) (fun k => F (k + 1)) (fun k o' ho => hs (k + 1) o' (by simpa using ho)) n (by simpa using h)
    have h0 := hs 0 o rfl
    exact ⟨_, by simp only [List.take_succ_cons, traceOps, h0]; rw [e]⟩

theorem look_spec {P : Program} {X : Xt} {O : Orc} {esc : Nat → Bool} {ops : List Oper} {S : Nat → St} {F : Nat → Fp} (h : (lkOf ops).all (lookAt P X O esc ops (S 0)) = true) (hs : ∀ k o, ops[k]? = some o → stepTr P X O esc ops o (S k) = some (S (k + 1), F k))
    {i j : Nat} {x y : Oper} (hx : ops[i]? = some x) (hy : ops[j]? = some y) (lx : isLook x = true) (ey : isEff y = true) (hij : i < j) (n : ¬ Bef ops i j) :
    ∃ v, evLook P (S i).H x.op (evalO (S i).fr) = some v ∧ evLook P (S (j + 1)).H x.op (evalO (S i).fr) = some v := by
  have hil : i < ops.length := (List.getElem?_eq_some_iff.1 hx).1
  have hjl : j < ops.length := (List.getElem?_eq_some_iff.1 hy).1
  obtain ⟨bi, hbi⟩ := bms_at (ops := ops) hil
  obtain ⟨bj, hbj⟩ := bms_at (ops := ops) hjl
  have m2 : bj.testBit i = false := by
    cases hb : bj.testBit i with
    | false => rfl
    | true => exact absurd (bms_bit hbj hb) n
  have hmem : (i, j, x) ∈ lkOf ops := by
    unfold lkOf
    rw [List.mem_flatMap]
    refine ⟨((x, bi), i), ?_, ?_⟩
    · rw [List.mem_zipIdx_iff_getElem?, List.getElem?_zip_eq_some]; exact ⟨hx, hbi⟩
    · rw [List.mem_filterMap]
      refine ⟨((y, bj), j), ?_, ?_⟩
      · rw [List.mem_zipIdx_iff_getElem?, List.getElem?_zip_eq_some]; exact ⟨hy, hbj⟩
      · have hb : Nat.blt i j = true := by simpa [Nat.blt_eq] using hij
        simp [lx, ey, m2, hb]
  rw [List.all_eq_true] at h
  have h := h _ hmem
  obtain ⟨f1, e1⟩ := trace_take ops S F hs i (by omega)
  obtain ⟨f2, e2⟩ := trace_take ops S F hs (j + 1) (by omega)
  simp only [lookAt, e1, e2] at h
  exact sameL_eq h

theorem dyn_spec {ops : List Oper} {fps : List Fp} (h : dynOk (confOf ops) fps = true) {i j : Nat} {x y : Oper} (hx : ops[i]? = some x) (hy : ops[j]? = some y) (ex : isEff x = true) (ly : isLoad y = true)
    (n1 : ¬ Bef ops i j) (n2 : ¬ Bef ops j i) {p q : Fp} (hp : fps[i]? = some p) (hq : fps[j]? = some q) : (∀ b, b ∈ q.rg → b ∉ p.wg) ∧ (∀ b, b ∈ q.rl → b ∉ p.wl) ∧ (j < i → q.bd = true) := by
  have hil : i < ops.length := (List.getElem?_eq_some_iff.1 hx).1
  have hjl : j < ops.length := (List.getElem?_eq_some_iff.1 hy).1
  obtain ⟨bi, hbi⟩ := bms_at (ops := ops) hil
  obtain ⟨bj, hbj⟩ := bms_at (ops := ops) hjl
  have m1 : bi.testBit j = false := by
    cases hb : bi.testBit j with
    | false => rfl
    | true => exact absurd (bms_bit hbi hb) n2
  have m2 : bj.testBit i = false := by
    cases hb : bj.testBit i with
    | false => rfl
    | true => exact absurd (bms_bit hbj hb) n1
  have hmem : (i, j) ∈ confOf ops := by
    unfold confOf
    rw [List.mem_flatMap]
    refine ⟨((x, bi), i), ?_, ?_⟩
    · rw [List.mem_zipIdx_iff_getElem?, List.getElem?_zip_eq_some]; exact ⟨hx, hbi⟩
    · rw [List.mem_filterMap]
      refine ⟨((y, bj), j), ?_, ?_⟩
      · rw [List.mem_zipIdx_iff_getElem?, List.getElem?_zip_eq_some]; exact ⟨hy, hbj⟩
      · simp [ex, ly, m1, m2]
  unfold dynOk at h
  rw [List.all_eq_true] at h
  have := h _ hmem
  simp only [hp, hq, Bool.and_eq_true, Bool.not_eq_true', Bool.or_eq_true] at this
  obtain ⟨⟨h1, h2⟩, h3⟩ := this
  unfold meets at h1 h2
  rw [List.any_eq_false] at h1 h2
  refine ⟨fun b hb hm => h1 b hb (by simpa using hm), fun b hb hm => h2 b hb (by simpa using hm), fun hji => ?_⟩
  rcases h3 with h3 | h3
  · have : i < j := by simpa using h3
    omega
  · exact h3

end Go.Am
end

section
/-
  Drawn regions: the text's run, step by step.
-/
namespace Go.Am
section
variable {P : Program} {X : Xt} {O : Orc} {esc : Nat → Bool} {ops : List Oper}

theorem trace_states : ∀ (l : List Oper) (s s' : St) (fps : List Fp), traceOps P X O esc ops l s = some (s', fps) →
    ∃ (S : Nat → St) (F : Nat → Fp), S 0 = s ∧ S l.length = s' ∧ (∀ k, k < l.length → fps[k]? = some (F k)) ∧ ∀ k o, l[k]? = some o → stepTr P X O esc ops o (S k) = some (S (k + 1), F k)
  | [], s, s', fps, h => by
    simp only [traceOps, Option.some.injEq, Prod.mk.injEq] at h
    exact ⟨fun _ => s, fun _ => ⟨[], [], [], [], true⟩, rfl, h.1, fun k hk => by simp at hk, fun k o ho => by simp at ho⟩
  | o :: rest, s, s', fps, h => by
    unfold traceOps at h
    split at h
    · rename_i s1 f h1
      split at h
      · rename_i s2 fps' h2
        simp only [Option.some.injEq, Prod.mk.injEq] at h
        obtain ⟨rfl, rfl⟩ := h
        obtain ⟨S, F, e0, e1, e2, e3⟩ := trace_states rest s1 _ _ h2
        refine ⟨fun k => match k with | 0 => s | k + 1 => S k, fun k => match k with | 0 => f | k + 1 => F k, rfl, by simpa using e1, fun k hk => ?_, fun k o' ho => ?_⟩
        · cases k with
          | zero => rfl
          | succ k => simpa using e2 k (by simpa using hk)
        · cases k with
          | zero => simp at ho; subst ho; simp only [e0]; exact h1
          | succ k => exact e3 k o' (by simpa using ho)
      · cases h
    · cases h

theorem putF_length (fr : List Value) (d : Option Tmp) (v : Value) : (putF fr d v).length = fr.length := by cases d <;> simp [putF]
theorem putF_ne (fr : List Value) {d : Option Tmp} (v : Value) {t : Nat} (h : d ≠ some t) : (putF fr d v)[t]? = fr[t]? := by
  cases d with
  | none => rfl
  | some d =>
    simp only [putF]
    rw [List.getElem?_set_ne]
    intro e; subst e; exact h rfl

structure SP (o : Oper) (s s1 : St) (f : Fp) : Prop where
  pur : Pur s.H s.loc s1.H s1.loc f.wg f.wl
  wg : s1.wg = s.wg ++ f.wg
  len : s1.fr.length = s.fr.length
  fr : ∀ t, o.dst ≠ some t → s1.fr[t]? = s.fr[t]?

theorem step_pure (hO : PureO O) {o : Oper} {s s1 : St} {f : Fp} (h : stepTr P X O esc ops o s = some (s1, f)) : SP o s s1 f := by
  unfold stepTr at h
  rcases cond_or h with h | h
  · split at h
    · rename_i out hout
      simp only [Option.some.injEq, Prod.mk.injEq] at h
      obtain ⟨rfl, rfl⟩ := h
      exact ⟨evOp_pure hO hout, rfl, putF_length _ _ _, fun t ht => putF_ne _ _ ht⟩
    · cases h
  · simp only [Option.some.injEq, Prod.mk.injEq] at h
    obtain ⟨rfl, rfl⟩ := h
    exact ⟨Pur.refl _ _, by simp, putF_length _ _ _, fun t ht => putF_ne _ _ ht⟩

theorem step_quiet {o : Oper} (hne : isEff o = false) {s s1 : St} {f : Fp} (h : stepTr P X O esc ops o s = some (s1, f)) : f.wg = [] ∧ f.wl = [] := by
  unfold stepTr at h
  rcases cond_or h with h | h
  · split at h
    · rename_i out hout
      simp only [Option.some.injEq, Prod.mk.injEq] at h
      obtain ⟨rfl, rfl⟩ := h
      unfold isEff at hne
      unfold evOp at hout
      simp only [fVals_eq, fSpine_eq] at hout
      split at hout
      · split at hout
        · injection hout with hout; subst hout; exact ⟨rfl, rfl⟩
        · cases hout
      · split at hout
        · split at hout
          · injection hout with hout; subst hout; exact ⟨rfl, rfl⟩
          · cases hout
        · cases hout
      · split at hout
        · rcases cond_or hout with hout | hout
          · rcases cond_or hout with hout | hout
            · injection hout with hout; subst hout; exact ⟨rfl, rfl⟩
            · cases hout
          · injection hout with hout; subst hout; exact ⟨rfl, rfl⟩
        · cases hout
      · rename_i hk; rw [hk] at hne; cases hne
      · split at hout
        · injection hout with hout; subst hout; exact ⟨rfl, rfl⟩
        · cases hout
      · split at hout
        · injection hout with hout; subst hout; exact ⟨rfl, rfl⟩
        · cases hout
    · cases h
  · simp only [Option.some.injEq, Prod.mk.injEq] at h
    obtain ⟨rfl, rfl⟩ := h
    exact ⟨rfl, rfl⟩

/-- The text's run. -/
structure Run (ops : List Oper) (S : Nat → St) (F : Nat → Fp) : Prop where
  sp : ∀ k o, ops[k]? = some o → SP o (S k) (S (k + 1)) (F k)
  quiet : ∀ k o, ops[k]? = some o → isEff o = false → (F k).wg = [] ∧ (F k).wl = []

variable {S : Nat → St} {F : Nat → Fp}

theorem Run.pur (h : Run ops S F) {k : Nat} (hk : k < ops.length) : Pur (S k).H (S k).loc (S (k + 1)).H (S (k + 1)).loc (F k).wg (F k).wl :=
  (h.sp k _ (List.getElem?_eq_getElem hk)).pur

theorem Run.mono (h : Run ops S F) {j : Nat} : ∀ {k : Nat}, j ≤ k → k ≤ ops.length → (S j).H.length ≤ (S k).H.length ∧ (S j).loc.length ≤ (S k).loc.length
  | 0, hjk, _ => by have : j = 0 := by omega
                    subst this; exact ⟨Nat.le_refl _, Nat.le_refl _⟩
  | k + 1, hjk, hk => by
    by_cases e : j = k + 1
    · subst e; exact ⟨Nat.le_refl _, Nat.le_refl _⟩
    · have h1 := h.mono (j := j) (k := k) (by omega) (by omega)
      have h2 := h.pur (k := k) (by omega)
      exact ⟨Nat.le_trans h1.1 h2.len, Nat.le_trans h1.2 h2.lenl⟩
theorem Run.monoG (h : Run ops S F) {j k : Nat} (hjk : j ≤ k) (hk : k ≤ ops.length) : (S j).H.length ≤ (S k).H.length := (h.mono hjk hk).1
theorem Run.monoL (h : Run ops S F) {j k : Nat} (hjk : j ≤ k) (hk : k ≤ ops.length) : (S j).loc.length ≤ (S k).loc.length := (h.mono hjk hk).2

theorem Run.keepG (h : Run ops S F) {j i : Nat} (hi : i < (S j).H.length) : ∀ {k : Nat}, j ≤ k → k ≤ ops.length → (∀ e, j ≤ e → e < k → i ∉ (F e).wg) → (S k).H[i]? = (S j).H[i]?
  | 0, hjk, _, _ => by have : j = 0 := by omega
                       subst this; rfl
  | k + 1, hjk, hk, hn => by
    by_cases e : j = k + 1
    · subst e; rfl
    · have h1 := h.keepG hi (k := k) (by omega) (by omega) (fun e he1 he2 => hn e he1 (by omega))
      have hlt : i < (S k).H.length := Nat.lt_of_lt_of_le hi (h.monoG (by omega) (by omega))
      exact ((h.pur (by omega)).mod i hlt (hn k (by omega) (by omega))).trans h1
theorem Run.keepL (h : Run ops S F) {j i : Nat} (hi : i < (S j).loc.length) : ∀ {k : Nat}, j ≤ k → k ≤ ops.length → (∀ e, j ≤ e → e < k → i ∉ (F e).wl) → (S k).loc[i]? = (S j).loc[i]?
  | 0, hjk, _, _ => by have : j = 0 := by omega
                       subst this; rfl
  | k + 1, hjk, hk, hn => by
    by_cases e : j = k + 1
    · subst e; rfl
    · have h1 := h.keepL hi (k := k) (by omega) (by omega) (fun e he1 he2 => hn e he1 (by omega))
      have hlt : i < (S k).loc.length := Nat.lt_of_lt_of_le hi (h.monoL (by omega) (by omega))
      exact ((h.pur (by omega)).modl i hlt (hn k (by omega) (by omega))).trans h1
theorem Run.kp (h : Run ops S F) {j i : Nat} {b : Blk} (hb : (S j).H[i]? = some b) : ∀ {k : Nat}, j ≤ k → k ≤ ops.length → ∃ b', (S k).H[i]? = some b' ∧ b'.esz = b.esz ∧ b'.loose = b.loose
  | 0, hjk, _ => by have : j = 0 := by omega
                    subst this; exact ⟨b, hb, rfl, rfl⟩
  | k + 1, hjk, hk => by
    by_cases e : j = k + 1
    · subst e; exact ⟨b, hb, rfl, rfl⟩
    · obtain ⟨b1, e1, e2, e3⟩ := h.kp hb (k := k) (by omega) (by omega)
      obtain ⟨b2, f1, f2, f3⟩ := (h.pur (k := k) (by omega)).kp i b1 e1
      exact ⟨b2, f1, f2.trans e2, f3.trans e3⟩
theorem Run.same (h : Run ops S F) {j k i : Nat} (hj : j ≤ ops.length) (hk : k ≤ ops.length) {b b' : Blk} (hb : (S j).H[i]? = some b) (hb' : (S k).H[i]? = some b') : b'.esz = b.esz ∧ b'.loose = b.loose := by
  rcases Nat.le_total j k with hjk | hjk
  · obtain ⟨b2, f1, f2, f3⟩ := h.kp hb hjk hk
    rw [hb'] at f1; injection f1 with f1; subst f1; exact ⟨f2, f3⟩
  · obtain ⟨b2, f1, f2, f3⟩ := h.kp hb' hjk hj
    rw [hb] at f1; injection f1 with f1; subst f1; exact ⟨f2.symm, f3.symm⟩
theorem Run.frl (h : Run ops S F) : ∀ {k : Nat}, k ≤ ops.length → (S k).fr.length = (S 0).fr.length
  | 0, _ => rfl
  | k + 1, hk => ((h.sp k _ (List.getElem?_eq_getElem (by omega))).len).trans (h.frl (by omega))
theorem Run.keepF (h : Run ops S F) {j t : Nat} : ∀ {k : Nat}, j ≤ k → k ≤ ops.length → (∀ c o, j ≤ c → c < k → ops[c]? = some o → o.dst ≠ some t) → (S k).fr[t]? = (S j).fr[t]?
  | 0, hjk, _, _ => by have : j = 0 := by omega
                       subst this; rfl
  | k + 1, hjk, hk, hn => by
    by_cases e : j = k + 1
    · subst e; rfl
    · have h1 := h.keepF (j := j) (t := t) (k := k) (by omega) (by omega) (fun c o hc1 hc2 ho => hn c o hc1 (by omega) ho)
      exact ((h.sp k _ (List.getElem?_eq_getElem (by omega))).fr t (hn k _ (by omega) (by omega) (List.getElem?_eq_getElem (by omega)))).trans h1

/-- More of the same: blocks behind the old ones, rows behind the old ones, new places of the map that are their own. -/
theorem ext_more {m0 m1 m2 : Mp} {H0 H loc H' loc' : Hp} {w0 w w' : World} {wg : List Nat} (h : Ext m0 H0 [] w0 m1 H loc w wg []) (hle : Le m1 m2)
    (hH : ∀ i, i < H.length → H'[i]? = H[i]?) (hHl : H.length ≤ H'.length) (hL : ∀ i, i < loc.length → loc'[i]? = loc[i]?) (hLl : loc.length ≤ loc'.length)
    (hw : ∀ g, g < w.heap.size → w'.heap[g]? = w.heap[g]?) (hs : w.heap.size ≤ w'.heap.size) (h1 : w'.os = w.os) (h2 : w'.tape = w.tape) (h3 : w'.output = w.output)
    (hg : ∀ i g, m2.gb i = some g → m1.gb i = some g ∨ (H0.length ≤ i ∧ i < H'.length ∧ g < w'.heap.size ∧ w0.heap.size ≤ g ∧ (∃ b, H'[i]? = some b ∧ GR m2 i g b w') ∧ (∀ j, m2.gb j = some g → j = i) ∧ (∀ j, m2.lb j ≠ some g)))
    (hl : ∀ i g, m2.lb i = some g → m1.lb i = some g ∨ (i < loc'.length ∧ g < w'.heap.size ∧ w0.heap.size ≤ g ∧ (∃ b, loc'[i]? = some b ∧ LR m2 g b w') ∧ (∀ j, m2.lb j = some g → j = i) ∧ (∀ j, m2.gb j ≠ some g))) :
    Ext m0 H0 [] w0 m2 H' loc' w' wg [] where
  le := h.le.trans hle
  rel := by
    refine ⟨fun i g e => ?_, fun i g e => ?_, fun i j g bi bj e e' hbi hbj li lj => ?_, fun i j g e e' => ?_, fun i j g e e' => ?_⟩
    · rcases hg i g e with e1 | ⟨_, _, e1, _, e2, _⟩
      · obtain ⟨f1, b, f2, f3⟩ := h.rel.glob i g e1
        exact ⟨Nat.lt_of_lt_of_le f1 hs, b, (hH i (List.getElem?_eq_some_iff.1 f2).1).trans f2, f3.mono hle e1 (fun _ => hw g f1)⟩
      · exact ⟨e1, e2⟩
    · rcases hl i g e with e1 | ⟨_, e1, _, e2, _⟩
      · obtain ⟨f1, b, f2, f3⟩ := h.rel.locs i g e1
        exact ⟨Nat.lt_of_lt_of_le f1 hs, b, (hL i (List.getElem?_eq_some_iff.1 f2).1).trans f2, f3.mono hle (hw g f1)⟩
      · exact ⟨e1, e2⟩
    · rcases hg i g e with e1 | ⟨_, _, _, _, _, e2, _⟩
      · rcases hg j g e' with e1' | ⟨_, _, _, _, _, e2', _⟩
        · obtain ⟨_, b, f2, _⟩ := h.rel.glob i g e1
          obtain ⟨_, b', f2', _⟩ := h.rel.glob j g e1'
          have g1 := (hH i (List.getElem?_eq_some_iff.1 f2).1).trans f2
          have g2 := (hH j (List.getElem?_eq_some_iff.1 f2').1).trans f2'
          rw [hbi] at g1; rw [hbj] at g2
          injection g1 with g1; injection g2 with g2
          subst g1; subst g2
          exact h.rel.ginj i j g _ _ e1 e1' f2 f2' li lj
        · exact e2' i e
      · exact (e2 j e').symm
    · rcases hl i g e with e1 | ⟨_, _, _, _, e2, _⟩
      · rcases hl j g e' with e1' | ⟨_, _, _, _, e2', _⟩
        · exact h.rel.linj i j g e1 e1'
        · exact e2' i e
      · exact (e2 j e').symm
    · rcases hg i g e with e1 | ⟨_, _, _, _, _, _, e2⟩
      · rcases hl j g e' with e1' | ⟨_, _, _, _, _, e2'⟩
        · exact h.rel.disj i j g e1 e1'
        · exact e2' i e
      · exact e2 j e'
  img := fun i g e => by
    rcases hg i g e with e1 | ⟨_, _, _, e1, _⟩
    · exact h.img i g e1
    · exact .inr e1
  imgl := fun i g e => by
    rcases hl i g e with e1 | ⟨_, _, e1, _⟩
    · exact h.imgl i g e1
    · exact .inr e1
  dom := fun i g e => by
    rcases hg i g e with e1 | ⟨e1, e2, _⟩
    · rcases h.dom i g e1 with f | ⟨f1, f2⟩
      · exact .inl f
      · exact .inr ⟨f1, Nat.lt_of_lt_of_le f2 hHl⟩
    · exact .inr ⟨e1, e2⟩
  doml := fun i g e => by
    rcases hl i g e with e1 | ⟨e1, _⟩
    · rcases h.doml i g e1 with f | ⟨f1, f2⟩
      · exact .inl f
      · exact .inr ⟨f1, Nat.lt_of_lt_of_le f2 hLl⟩
    · exact .inr ⟨by simp, e1⟩
  os := h1.trans h.os
  tape := h2.trans h.tape
  output := h3.trans h.output
  size := Nat.le_trans h.size hs
  frame := fun g hg' hn hn2 => (hw g (Nat.lt_of_lt_of_le hg' h.size)).trans (h.frame g hg' hn hn2)
  un := fun i hi hn => (hH i (Nat.lt_of_lt_of_le hi h.len)).trans (h.un i hi hn)
  unl := fun i hi => by simp at hi
  mod := fun i hi hn => (hH i (Nat.lt_of_lt_of_le hi h.len)).trans (h.mod i hi hn)
  modl := fun i hi => by simp at hi
  len := Nat.le_trans h.len hHl
  lenl := by simp
  kp := fun i b e => by
    obtain ⟨b', e1, e2, e3⟩ := h.kp i b e
    exact ⟨b', (hH i (List.getElem?_eq_some_iff.1 e1).1).trans e1, e2, e3⟩
  cmod := fun i g b e hb hlive hn => by
    have hg' : g < w.heap.size := (h.rel.glob i g (h.le.gb i g e)).1
    exact (hw g hg').trans (h.cmod i g b e hb hlive hn)

end
end Go.Am
end

section
/-
  Drawn regions: what holds whichever of the operations have come up.
-/
namespace Go.Am

/-- The map at a moment of the text's run. -/
def cutAt (m : Mp) (S : Nat → St) (k : Nat) : Mp := m.cut (S k).H.length (S k).loc.length

structure Inv (ops : List Oper) (S : Nat → St) (m0 : Mp) (H0 : Hp) (w0 : World) (L : Nat → Prop) (pe : Nat) (m : Mp) (a : Act) (w : World) : Prop where
  pel : pe ≤ ops.length
  effs : ∀ e o, ops[e]? = some o → isEff o = true → (L e ↔ e < pe)
  ext : Ext m0 H0 [] w0 (cutAt m S pe) (S pe).H (S pe).loc w (S pe).wg []
  dom : ∀ i g, m.gb i = some g → i < (S 0).H.length ∨ ∃ c, c < ops.length ∧ L c ∧ (S c).H.length ≤ i ∧ i < (S (c + 1)).H.length
  doml : ∀ i g, m.lb i = some g → i < (S 0).loc.length ∨ ∃ c, c < ops.length ∧ L c ∧ (S c).loc.length ≤ i ∧ i < (S (c + 1)).loc.length
  flG : ∀ c i g, pe ≤ c → c < ops.length → (S c).H.length ≤ i → i < (S (c + 1)).H.length → m.gb i = some g →
    g < w.heap.size ∧ w0.heap.size ≤ g ∧ (∃ b, (S (c + 1)).H[i]? = some b ∧ GR (cutAt m S (c + 1)) i g b w) ∧ (∀ j, m.gb j = some g → j = i) ∧ (∀ j, m.lb j ≠ some g)
  flL : ∀ c i g, pe ≤ c → c < ops.length → (S c).loc.length ≤ i → i < (S (c + 1)).loc.length → m.lb i = some g →
    g < w.heap.size ∧ w0.heap.size ≤ g ∧ (∃ b, (S (c + 1)).loc[i]? = some b ∧ LR (cutAt m S (c + 1)) g b w) ∧ (∀ j, m.lb j = some g → j = i) ∧ (∀ j, m.gb j ≠ some g)
  late : ∀ c, c < pe → ¬ L c → ∀ i, (S c).H.length ≤ i → i < (S (c + 1)).H.length → (S pe).H[i]? = (S (c + 1)).H[i]?
  latel : ∀ c, c < pe → ¬ L c → ∀ i, (S c).loc.length ≤ i → i < (S (c + 1)).loc.length → (S pe).loc[i]? = (S (c + 1)).loc[i]?
  fr : ∀ (t : Nat) v', a.tmps[t]? = some v' → ∃ j v, j ≤ ops.length ∧ (S j).fr[t]? = some v ∧ VR (cutAt m S j) v v' ∧ (∀ c o, ops[c]? = some o → L c → o.dst = some t → c < j) ∧
    (j = 0 ∨ ∃ c o, j = c + 1 ∧ ops[c]? = some o ∧ L c ∧ o.dst = some t)
  frl : a.tmps.size = (S 0).fr.length
  df : DfOk a.defers

section
variable {ops : List Oper} {S : Nat → St} {F : Nat → Fp} {m0 : Mp} {H0 : Hp} {w0 : World} {L : Nat → Prop} {pe : Nat} {m : Mp} {a : Act} {w : World}

theorem cutAt_gb {k i g : Nat} : (cutAt m S k).gb i = some g ↔ i < (S k).H.length ∧ m.gb i = some g := cut_gb
theorem cutAt_lb {k i g : Nat} : (cutAt m S k).lb i = some g ↔ i < (S k).loc.length ∧ m.lb i = some g := cut_lb
theorem Run.cutAt_mono (hr : Run ops S F) {j k : Nat} (hjk : j ≤ k) (hk : k ≤ ops.length) : Le (cutAt m S j) (cutAt m S k) := cut_mono m (hr.monoG hjk hk) (hr.monoL hjk hk)
theorem Le.cutAt {m' : Mp} (h : Le m m') (k : Nat) : Le (cutAt m S k) (cutAt m' S k) := h.cut _ _

/-- Whoever made a block is one. -/
theorem Run.makerG (hr : Run ops S F) {c d i : Nat} (hc : c < ops.length) (hd : d < ops.length) (c1 : (S c).H.length ≤ i) (c2 : i < (S (c + 1)).H.length) (d1 : (S d).H.length ≤ i) (d2 : i < (S (d + 1)).H.length) : c = d := by
  rcases Nat.lt_trichotomy c d with h | h | h
  · have := hr.monoG (j := c + 1) (k := d) (by omega) (by omega); omega
  · exact h
  · have := hr.monoG (j := d + 1) (k := c) (by omega) (by omega); omega
theorem Run.makerL (hr : Run ops S F) {c d i : Nat} (hc : c < ops.length) (hd : d < ops.length) (c1 : (S c).loc.length ≤ i) (c2 : i < (S (c + 1)).loc.length) (d1 : (S d).loc.length ≤ i) (d2 : i < (S (d + 1)).loc.length) : c = d := by
  rcases Nat.lt_trichotomy c d with h | h | h
  · have := hr.monoL (j := c + 1) (k := d) (by omega) (by omega); omega
  · exact h
  · have := hr.monoL (j := d + 1) (k := c) (by omega) (by omega); omega

/-- The blocks of one that has not come up lie nowhere. -/
theorem Inv.noneG (hr : Run ops S F) (hI : Inv ops S m0 H0 w0 L pe m a w) {k i : Nat} (hk : k < ops.length) (hnot : ¬ L k) (h1 : (S k).H.length ≤ i) (h2 : i < (S (k + 1)).H.length) : m.gb i = none := by
  cases e : m.gb i with
  | none => rfl
  | some g =>
    rcases hI.dom i g e with h | ⟨c, hc, hl, c1, c2⟩
    · have := hr.monoG (j := 0) (k := k) (by omega) (by omega); omega
    · have := hr.makerG hc hk c1 c2 h1 h2
      subst this; exact absurd hl hnot
theorem Inv.noneL (hr : Run ops S F) (hI : Inv ops S m0 H0 w0 L pe m a w) {k i : Nat} (hk : k < ops.length) (hnot : ¬ L k) (h1 : (S k).loc.length ≤ i) (h2 : i < (S (k + 1)).loc.length) : m.lb i = none := by
  cases e : m.lb i with
  | none => rfl
  | some g =>
    rcases hI.doml i g e with h | ⟨c, hc, hl, c1, c2⟩
    · have := hr.monoL (j := 0) (k := k) (by omega) (by omega); omega
    · have := hr.makerL hc hk c1 c2 h1 h2
      subst this; exact absurd hl hnot

/-- A mapped block is either there at the moment pe, or made by one that came up early. -/
theorem Inv.whereG (hr : Run ops S F) (hI : Inv ops S m0 H0 w0 L pe m a w) {i g : Nat} (e : m.gb i = some g) : i < (S pe).H.length ∨ ∃ c, pe ≤ c ∧ c < ops.length ∧ (S c).H.length ≤ i ∧ i < (S (c + 1)).H.length := by
  rcases hI.dom i g e with h | ⟨c, hc, hl, c1, c2⟩
  · exact .inl (Nat.lt_of_lt_of_le h (hr.monoG (by omega) hI.pel))
  · by_cases h : pe ≤ c
    · exact .inr ⟨c, h, hc, c1, c2⟩
    · exact .inl (Nat.lt_of_lt_of_le c2 (hr.monoG (by omega) hI.pel))
theorem Inv.whereL (hr : Run ops S F) (hI : Inv ops S m0 H0 w0 L pe m a w) {i g : Nat} (e : m.lb i = some g) : i < (S pe).loc.length ∨ ∃ c, pe ≤ c ∧ c < ops.length ∧ (S c).loc.length ≤ i ∧ i < (S (c + 1)).loc.length := by
  rcases hI.doml i g e with h | ⟨c, hc, hl, c1, c2⟩
  · exact .inl (Nat.lt_of_lt_of_le h (hr.monoL (by omega) hI.pel))
  · by_cases h : pe ≤ c
    · exact .inr ⟨c, h, hc, c1, c2⟩
    · exact .inl (Nat.lt_of_lt_of_le c2 (hr.monoL (by omega) hI.pel))
theorem Inv.ltG (hr : Run ops S F) (hI : Inv ops S m0 H0 w0 L pe m a w) {i g : Nat} (e : m.gb i = some g) : g < w.heap.size := by
  rcases hI.whereG hr e with h | ⟨c, h1, h2, h3, h4⟩
  · exact (hI.ext.rel.glob i g (cutAt_gb.2 ⟨h, e⟩)).1
  · exact (hI.flG c i g h1 h2 h3 h4 e).1
theorem Inv.ltL (hr : Run ops S F) (hI : Inv ops S m0 H0 w0 L pe m a w) {i g : Nat} (e : m.lb i = some g) : g < w.heap.size := by
  rcases hI.whereL hr e with h | ⟨c, h1, h2, h3, h4⟩
  · exact (hI.ext.rel.locs i g (cutAt_lb.2 ⟨h, e⟩)).1
  · exact (hI.flL c i g h1 h2 h3 h4 e).1

theorem Inv.esz (hr : Run ops S F) (hI : Inv ops S m0 H0 w0 L pe m a w) {k : Nat} (hk : k ≤ ops.length) : EszR (cutAt m S k) (S k).H := by
  intro i g b hi hb
  have e := (cutAt_gb.1 hi).2
  rcases hI.whereG hr e with h | ⟨c, h1, h2, h3, h4⟩
  · obtain ⟨_, b0, hb0, hG⟩ := hI.ext.rel.glob i g (cutAt_gb.2 ⟨h, e⟩)
    have := hr.same hI.pel hk hb0 hb
    exact ⟨hG.ez.trans this.1.symm, hG.lo.trans this.2.symm⟩
  · obtain ⟨_, _, ⟨b0, hb0, hG⟩, _⟩ := hI.flG c i g h1 h2 h3 h4 e
    have := hr.same (by omega) hk hb0 hb
    exact ⟨hG.ez.trans this.1.symm, hG.lo.trans this.2.symm⟩

/-- The moment moves past one that does not act. -/
theorem Inv.defer (hI : Inv ops S m0 H0 w0 L pe m a w) {ds : List Deferred} (h : DfOk ds) : Inv ops S m0 H0 w0 L pe m { a with defers := ds } w :=
  ⟨hI.pel, hI.effs, hI.ext, hI.dom, hI.doml, hI.flG, hI.flL, hI.late, hI.latel, hI.fr, hI.frl, h⟩

theorem Inv.shift1 (hr : Run ops S F) (hI : Inv ops S m0 H0 w0 L pe m a w) {o : Oper} (ho : ops[pe]? = some o) (hq : isEff o = false) : Inv ops S m0 H0 w0 L (pe + 1) m a w := by
  have hlt : pe < ops.length := (List.getElem?_eq_some_iff.1 ho).1
  have hp := hr.pur hlt
  have hqu := hr.quiet pe o ho hq
  rw [hqu.1, hqu.2] at hp
  have hwg : (S (pe + 1)).wg = (S pe).wg := by have := (hr.sp pe o ho).wg; rw [hqu.1] at this; simpa using this
  refine ⟨hlt, fun e o' ho' he => ?_, ?_, hI.dom, hI.doml, fun c i g h1 => hI.flG c i g (by omega), fun c i g h1 => hI.flL c i g (by omega), fun c hc hn i h1 h2 => ?_, fun c hc hn i h1 h2 => ?_, hI.fr, hI.frl, hI.df⟩
  · rw [hI.effs e o' ho' he]
    constructor
    · intro h; omega
    · intro h
      by_cases he' : e = pe
      · subst he'; rw [ho] at ho'; injection ho' with ho'; subst ho'; rw [hq] at he; cases he
      · omega
  · rw [hwg]
    refine ext_more hI.ext (hr.cutAt_mono (by omega) hlt) (fun i hi => hp.mod i hi (by simp)) hp.len (fun i hi => hp.modl i hi (by simp)) hp.lenl (fun _ _ => rfl) (Nat.le_refl _) rfl rfl rfl (fun i g e => ?_) (fun i g e => ?_)
    · obtain ⟨e1, e2⟩ := cutAt_gb.1 e
      by_cases hi : i < (S pe).H.length
      · exact .inl (cutAt_gb.2 ⟨hi, e2⟩)
      · obtain ⟨f1, f2, f3, f4, f5⟩ := hI.flG pe i g (Nat.le_refl _) hlt (by omega) e1 e2
        exact .inr ⟨Nat.le_trans hI.ext.len (by omega), e1, f1, f2, f3, fun j ej => f4 j (cutAt_gb.1 ej).2, fun j ej => f5 j (cutAt_lb.1 ej).2⟩
    · obtain ⟨e1, e2⟩ := cutAt_lb.1 e
      by_cases hi : i < (S pe).loc.length
      · exact .inl (cutAt_lb.2 ⟨hi, e2⟩)
      · obtain ⟨f1, f2, f3, f4, f5⟩ := hI.flL pe i g (Nat.le_refl _) hlt (by omega) e1 e2
        exact .inr ⟨e1, f1, f2, f3, fun j ej => f4 j (cutAt_lb.1 ej).2, fun j ej => f5 j (cutAt_gb.1 ej).2⟩
  · by_cases hcp : c = pe
    · subst hcp; rfl
    · have hi : i < (S pe).H.length := Nat.lt_of_lt_of_le h2 (hr.monoG (by omega) hI.pel)
      exact (hp.mod i hi (by simp)).trans (hI.late c (by omega) hn i h1 h2)
  · by_cases hcp : c = pe
    · subst hcp; rfl
    · have hi : i < (S pe).loc.length := Nat.lt_of_lt_of_le h2 (hr.monoL (by omega) hI.pel)
      exact (hp.modl i hi (by simp)).trans (hI.latel c (by omega) hn i h1 h2)

theorem Inv.shift (hr : Run ops S F) : ∀ (d : Nat) {pe : Nat}, Inv ops S m0 H0 w0 L pe m a w → pe + d ≤ ops.length → (∀ e o, pe ≤ e → e < pe + d → ops[e]? = some o → isEff o = false) → Inv ops S m0 H0 w0 L (pe + d) m a w
  | 0, _, hI, _, _ => hI
  | d + 1, pe, hI, hd, hn => by
    have h1 := hI.shift1 hr (List.getElem?_eq_getElem (show pe < ops.length by omega)) (hn pe _ (Nat.le_refl _) (by omega) (List.getElem?_eq_getElem (by omega)))
    have := Inv.shift hr d h1 (by omega) (fun e o h1 h2 => hn e o (by omega) (by omega))
    rw [show pe + (d + 1) = pe + 1 + d by omega]
    exact this

/-- What a slot holds for one that may come up. -/
theorem Inv.read (hr : Run ops S F) (hs : Sta ops) (hI : Inv ops S m0 H0 w0 L pe m a w) (hcl : Closed ops L) {k : Nat} {o : Oper} (ho : ops[k]? = some o) (hnot : ¬ L k)
    (hrd : ∀ e ∈ o.after, Region.binds .any e = true → L e.on) {t : Nat} (ht : t ∈ o.looksAt ops.toArray) {v' : Value} (hv : a.tmps[t]? = some v') :
    ∃ v, (S k).fr[t]? = some v ∧ VR (cutAt m S k) v v' := by
  have hk : k < ops.length := (List.getElem?_eq_some_iff.1 ho).1
  have hrd' : ∀ o', ops[k]? = some o' → ∀ e ∈ o'.after, Region.binds .any e = true → L e.on := fun o' ho' => by
    rw [ho] at ho'; injection ho' with ho'; subst ho'; exact hrd
  obtain ⟨j, v, hj, e1, e2, e3, e4⟩ := hI.fr t v' hv
  by_cases hjk : j ≤ k
  · refine ⟨v, ?_, e2.mono (hr.cutAt_mono hjk (by omega))⟩
    rw [hr.keepF (j := j) hjk (by omega) (fun c o' hc1 hc2 ho' hd => ?_)]
    · exact e1
    · rcases hs.pair c k o' o hc2 ho' ho with hb | ⟨_, hap⟩
      · have := e3 c o' ho' (hb.ready hcl hrd') hd; omega
      · exact (Oper.apart_spec hap).1 t hd ht
  · rcases e4 with rfl | ⟨c, o', rfl, ho', hLc, hd⟩
    · omega
    · have hck : c ≠ k := fun e => hnot (e ▸ hLc)
      rcases hs.pair k c o o' (by omega) ho ho' with hb | ⟨_, hap⟩
      · exact absurd (hb.closed hcl hLc) hnot
      · exact absurd ht ((Oper.apart_spec hap).2.2 t hd)

theorem Inv.readD (hr : Run ops S F) (hs : Sta ops) (hI : Inv ops S m0 H0 w0 L pe m a w) (hcl : Closed ops L) {k : Nat} {o : Oper} (ho : ops[k]? = some o) (hnot : ¬ L k)
    (hrd : ∀ e ∈ o.after, Region.binds .any e = true → L e.on) {t : Nat} (ht : t ∈ o.looksAt ops.toArray) : VR (cutAt m S k) ((S k).fr.getD t undef) (a.tmps.getD t undef) := by
  have hk : k < ops.length := (List.getElem?_eq_some_iff.1 ho).1
  cases hv : a.tmps[t]? with
  | some v' =>
    obtain ⟨v, h1, h2⟩ := hI.read hr hs hcl ho hnot hrd ht hv
    rw [List.getD_eq_getElem?_getD, h1, Array.getD_eq_getD_getElem?, hv]
    exact h2
  | none =>
    have h1 : a.tmps.size ≤ t := by simpa using hv
    have h2 : (S k).fr[t]? = none := by
      rw [List.getElem?_eq_none]
      rw [hr.frl (by omega), ← hI.frl]; exact h1
    rw [List.getD_eq_getElem?_getD, h2, Array.getD_eq_getD_getElem?, hv]
    exact VR.undef _

theorem Inv.opR (hr : Run ops S F) (hs : Sta ops) (hc : constsOk ops = true) (hI : Inv ops S m0 H0 w0 L pe m a w) (hcl : Closed ops L) {k : Nat} {o : Oper} (ho : ops[k]? = some o) (hnot : ¬ L k)
    (hrd : ∀ e ∈ o.after, Region.binds .any e = true → L e.on) : OpR (cutAt m S k) (evalO (S k).fr) a.eval o := by
  intro x hx
  have hx' : operandOk x = true := by
    unfold constsOk at hc
    rw [List.all_eq_true] at hc
    have := hc o (List.mem_of_getElem? ho)
    rw [List.all_eq_true] at this
    exact this x (by simpa using hx)
  cases x with
  | tmp t =>
    have ht : t ∈ o.looksAt ops.toArray := List.mem_append_left _ (List.mem_filterMap.2 ⟨.tmp t, by simpa using hx, rfl⟩)
    exact hI.readD hr hs hcl ho hnot hrd ht
  | const v => exact plain_vr _ 4 v hx'
  | global g => cases hx'
  | func f => exact .func rfl (fun i v v' h => by simp at h) rfl (fun i v v' h => by simp at h)

theorem Inv.wanted (hr : Run ops S F) (hs : Sta ops) (hI : Inv ops S m0 H0 w0 L pe m a w) (hcl : Closed ops L) {k : Nat} {o : Oper} (ho : ops[k]? = some o) (hnot : ¬ L k)
    (hrd : ∀ e ∈ o.after, Region.binds .any e = true → L e.on) : Region.wanted o (yielded ops.toArray a.tmps) = wantedA ops (S k).fr o := by
  have hk : k < ops.length := (List.getElem?_eq_some_iff.1 ho).1
  unfold Region.wanted wantedA
  cases hg : o.guard with
  | none => rfl
  | some jw =>
    obtain ⟨j, want⟩ := jw
    simp only [yielded, List.getElem?_toArray]
    cases hd : (ops[j]?).bind (·.dst) with
    | none => simp
    | some t =>
      simp only [Option.bind_some]
      have ht : t ∈ o.looksAt ops.toArray := by
        unfold Oper.looksAt
        rw [hg]
        refine List.mem_append_right _ ?_
        simp [hd]
      cases hv : a.tmps[t]? with
      | none =>
        have h1 : a.tmps.size ≤ t := by simpa using hv
        have h2 : (S k).fr[t]? = none := by
          rw [List.getElem?_eq_none]
          rw [hr.frl (by omega), ← hI.frl]; exact h1
        simp [h2]
      | some v' =>
        obtain ⟨v, h1, h2⟩ := hI.read hr hs hcl ho hnot hrd ht hv
        rw [h1]
        cases h2 <;> simp

/-- A slot is written by the one that comes up. -/
theorem Inv.slots (hr : Run ops S F) (hs : Sta ops) (hI : Inv ops S m0 H0 w0 L pe m a w) (hcl : Closed ops L) {k : Nat} {o : Oper} (ho : ops[k]? = some o) (hnot : ¬ L k) {m' : Mp} (hle : Le m m') {v v' : Value}
    (hfr : (S (k + 1)).fr = putF (S k).fr o.dst v) (hv : VR (cutAt m' S (k + 1)) v v') :
    ∀ (t : Nat) u', (a.put o.dst v').tmps[t]? = some u' → ∃ j u, j ≤ ops.length ∧ (S j).fr[t]? = some u ∧ VR (cutAt m' S j) u u' ∧ (∀ c o', ops[c]? = some o' → (L c ∨ c = k) → o'.dst = some t → c < j) ∧
      (j = 0 ∨ ∃ c o', j = c + 1 ∧ ops[c]? = some o' ∧ (L c ∨ c = k) ∧ o'.dst = some t) := by
  have hk : k < ops.length := (List.getElem?_eq_some_iff.1 ho).1
  intro t u' hu
  by_cases hd : o.dst = some t
  · have hts : t < a.tmps.size := by
      have := (Array.getElem?_eq_some_iff.1 hu).1
      rw [hd] at this
      simpa [Act.put] using this
    have hu' : u' = v' := by
      rw [hd] at hu
      simp only [Act.put] at hu
      rw [Array.getElem?_setIfInBounds_self_of_lt hts] at hu
      injection hu with hu; exact hu.symm
    subst hu'
    refine ⟨k + 1, v, hk, ?_, hv, fun c o' ho' hc hd' => ?_, .inr ⟨k, o, rfl, ho, .inr rfl, hd⟩⟩
    · rw [hfr, hd]
      simp only [putF]
      rw [List.getElem?_set_self]
      rw [hr.frl (by omega), ← hI.frl]; exact hts
    · rcases hc with hc | hc
      · by_cases hck : c ≤ k
        · omega
        · rcases hs.pair k c o o' (by omega) ho ho' with hb | ⟨_, hap⟩
          · exact absurd (hb.closed hcl hc) hnot
          · exact absurd hd' ((Oper.apart_spec hap).2.1 t hd)
      · omega
  · have hu2 : a.tmps[t]? = some u' := by
      cases hdd : o.dst with
      | none => rw [hdd] at hu; exact hu
      | some d =>
        rw [hdd] at hu hd
        simp only [Act.put] at hu
        rwa [Array.getElem?_setIfInBounds_ne (fun e => hd (by rw [e]))] at hu
    obtain ⟨j, u, h1, h2, h3, h4, h5⟩ := hI.fr t u' hu2
    refine ⟨j, u, h1, h2, h3.mono (hle.cutAt j), fun c o' ho' hc hd' => ?_, ?_⟩
    · rcases hc with hc | hc
      · exact h4 c o' ho' hc hd'
      · subst hc; rw [ho] at ho'; injection ho' with ho'; subst ho'; exact absurd hd' hd
    · rcases h5 with h5 | ⟨c, o', e1, e2, e3, e4⟩
      · exact .inl h5
      · exact .inr ⟨c, o', e1, e2, .inl e3, e4⟩

theorem put_size (a : Act) (d : Option Tmp) (v : Value) : (a.put d v).tmps.size = a.tmps.size := by cases d <;> simp [Act.put]
theorem put_df (a : Act) (d : Option Tmp) (v : Value) : (a.put d v).defers = a.defers := by cases d <;> rfl

/-- One that neither acts nor makes a block comes up. -/
theorem Inv.calm (hr : Run ops S F) (hs : Sta ops) (hI : Inv ops S m0 H0 w0 L pe m a w) (hcl : Closed ops L) {k : Nat} {o : Oper} (ho : ops[k]? = some o) (hnot : ¬ L k) (hq : isEff o = false) {v v' : Value}
    (hfr : (S (k + 1)).fr = putF (S k).fr o.dst v) (hv : VR (cutAt m S (k + 1)) v v') : Inv ops S m0 H0 w0 (fun c => L c ∨ c = k) pe m (a.put o.dst v') w := by
  refine ⟨hI.pel, fun e o' ho' he => ?_, hI.ext, fun i g e => ?_, fun i g e => ?_, hI.flG, hI.flL, fun c hc hn => hI.late c hc (fun h => hn (.inl h)), fun c hc hn => hI.latel c hc (fun h => hn (.inl h)),
    hI.slots hr hs hcl ho hnot (Le.refl m) hfr hv, by rw [put_size]; exact hI.frl, by rw [put_df]; exact hI.df⟩
  · rw [← hI.effs e o' ho' he]
    constructor
    · rintro (h | h)
      · exact h
      · subst h; rw [ho] at ho'; injection ho' with ho'; subst ho'; rw [hq] at he; cases he
    · exact .inl
  · rcases hI.dom i g e with h | ⟨c, h1, h2, h3⟩
    · exact .inl h
    · exact .inr ⟨c, h1, .inl h2, h3⟩
  · rcases hI.doml i g e with h | ⟨c, h1, h2, h3⟩
    · exact .inl h
    · exact .inr ⟨c, h1, .inl h2, h3⟩

end
end Go.Am
end

