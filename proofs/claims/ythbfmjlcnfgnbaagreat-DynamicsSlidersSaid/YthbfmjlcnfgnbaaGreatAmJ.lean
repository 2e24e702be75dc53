/-
  Regions that draw their order; code; bodies: the machine.
-/
import Derived.Test.YthbfmjlcnfgnbaaGreatAmK
namespace Go.Am

/-- What an operation read and wrote: global and local blocks; bd: a loaded value names blocks only that stood there. -/
structure Fp where
  rg : List Nat
  rl : List Nat
  wg : List Nat
  wl : List Nat
  bd : Bool

def isEff (o : Oper) : Bool := match kindOf o.op with
  | .eff => true
  | _ => false
def isLoad (o : Oper) : Bool := match kindOf o.op with
  | .load => true
  | _ => false

def readsOf (o : Oper) (ρ : Operand → Value) : List Nat × List Nat :=
  match o.op with
  | .load _ x => match ρ x with
    | .pointer (some ⟨b, _, none⟩) => ([b], [])
    | .pointer (some ⟨b, _, some _⟩) => ([], [b])
    | _ => ([], [])
  | _ => ([], [])

def boundB (h l : Nat) : Nat → Value → Bool
  | 0, _ => false
  | d + 1, v => match v with
    | .pointer (some a) => bif a.spot.isNone then Nat.blt a.block h else Nat.blt a.block l
    | .slice (some a) _ _ => bif a.spot.isNone then Nat.blt a.block h else Nat.blt a.block l
    | .agg cs => cs.toList.all (boundB h l d)
    | .tuple cs => cs.toList.all (boundB h l d)
    | .iface _ x => boundB h l d x
    | .func _ fs cs => fs.toList.all (boundB h l d) && cs.toList.all (boundB h l d)
    | _ => true

def stepTr (P : Program) (X : Xt) (O : Orc) (esc : Nat → Bool) (ops : List Oper) (o : Oper) (s : St) : Option (St × Fp) :=
  bif wantedA ops s.fr o then
    match evOp P X O esc o (evalO s.fr) s.H s.loc with
    | some out => some (⟨putF s.fr o.dst out.v, out.H, out.loc, s.wg ++ out.wg⟩, ⟨(readsOf o (evalO s.fr)).1, (readsOf o (evalO s.fr)).2, out.wg, out.wl, boundB s.H.length s.loc.length 6 out.v⟩)
    | none => none
  else some ({ s with fr := putF s.fr o.dst undef }, ⟨[], [], [], [], true⟩)

def traceOps (P : Program) (X : Xt) (O : Orc) (esc : Nat → Bool) (ops : List Oper) : List Oper → St → Option (St × List Fp)
  | [], s => some (s, [])
  | o :: rest, s => match stepTr P X O esc ops o s with
    | some (s1, f) => match traceOps P X O esc ops rest s1 with
      | some (s', fps) => some (s', f :: fps)
      | none => none
    | none => none

/-- Whom an operation waits for, as bits; acc: those of the earlier ones, the last first. -/
def bmRow (j : Nat) (acc : List Nat) (es : List Edge) : Nat :=
  match es with
  | [] => 0
  | e :: es => bif Region.binds .any e then (2 ^ e.on ||| (bif Nat.blt e.on j then acc.getD (j - 1 - e.on) 0 else 0)) ||| bmRow j acc es else bmRow j acc es
def bmGo : List Oper → Nat → List Nat → List Nat
  | [], _, acc => acc
  | o :: rest, j, acc => fNat (bmRow j acc o.after.toList) fun v => bmGo rest (j + 1) (v :: acc)
def bms (ops : List Oper) : List Nat := (bmGo ops 0 []).reverse

/-- Two operations, the first earlier in the text, of which the second does not wait for the first, touch different temporaries, and do not both act. -/
def pairOk (ops : Array Oper) (x : Oper × Nat) (y : Oper × Nat) : Bool :=
  y.2.testBit x.2 || (!(isEff x.1 && isEff y.1) && x.1.apart ops y.1)
def pairsFrom (ops : Array Oper) : Nat → List (Oper × Nat) → Bool
  | _, [] => true
  | i, x :: l => l.all (fun y => pairOk ops (x.1, i) y) && pairsFrom ops (i + 1) l

def staticOk (ops : List Oper) : Bool :=
  (ops.zipIdx.all fun (o, i) => o.after.toList.all fun e => !Region.binds .any e || Nat.blt e.on i) &&
  (ops.all fun o => match o.op with | .select _ _ => false | _ => true) &&
  pairsFrom ops.toArray 0 (ops.zip (bms ops))

/-- The pairs of one that acts and one that loads, neither waiting for the other. -/
def confOf (ops : List Oper) : List (Nat × Nat) :=
  (ops.zip (bms ops)).zipIdx.flatMap fun (x, i) => (ops.zip (bms ops)).zipIdx.filterMap fun (y, j) =>
    bif isEff x.1 && isLoad y.1 && !(x.2.testBit j) && !(y.2.testBit i) then some (i, j) else none

def meets (a b : List Nat) : Bool := a.any fun x => b.contains x

def dynOk (conf : List (Nat × Nat)) (fps : List Fp) : Bool :=
  conf.all fun (i, j) => match fps[i]?, fps[j]? with
    | some x, some y => !meets y.rg x.wg && !meets y.rl x.wl && (Nat.blt i j || y.bd)
    | _, _ => false

def drawOps (P : Program) (X : Xt) (O : Orc) (esc : Nat → Bool) (ops : List Oper) (s : St) : Option St :=
  bif staticOk ops then
    match traceOps P X O esc ops ops s with
    | some (s', fps) => bif dynOk (confOf ops) fps then some s' else none
    | none => none
  else none

inductive Ex where
  | normal
  | exit (id : Nat)
  | ret

def loopN (f : St → Option (Ex × St)) : Nat → St → Option (Ex × St)
  | 0, _ => none
  | n + 1, s => match f s with
    | some (.normal, s') => loopN f n s'
    | r => r

def exec (P : Program) (X : Xt) (O : Orc) (esc : Nat → Bool) (fuel : Nat) : Code → St → Option (Ex × St)
  | .skip, s => some (.normal, s)
  | .region _ ops draw, s =>
    bif constsOk ops.toList then
      match (bif draw then drawOps P X O esc ops.toList s else seqOps P X O esc ops.toList ops.toList s) with
      | some s' => some (.normal, s')
      | none => none
    else none
  | .seq a b, s => match exec P X O esc fuel a s with
    | some (.normal, s') => exec P X O esc fuel b s'
    | r => r
  | .cond c t e, s => match evalO s.fr c with
    | .bool b => bif b then exec P X O esc fuel t s else exec P X O esc fuel e s
    | _ => none
  | .block id body, s => match exec P X O esc fuel body s with
    | some (.exit i, s') => bif i == id then some (.normal, s') else some (.exit i, s')
    | r => r
  | .loop body, s => loopN (exec P X O esc fuel body) fuel s
  | .exit id, s => some (.exit id, s)
  | .ret, s => some (.ret, s)
  | _, _ => none

def resultsA (P : Program) (s : St) : List ResultVar → Option (List Value)
  | [] => some []
  | .tmp t :: rest => match resultsA P s rest with
    | some vs => some (s.fr.getD t undef :: vs)
    | none => none
  | .cell a t :: rest => match evLoad P s.H s.loc t (s.fr.getD a undef), resultsA P s rest with
    | some v, some vs => some (v :: vs)
    | _, _ => none

def packV : List Value → Value
  | [v] => v
  | vs => .tuple ⟨vs⟩

def finish (H : Hp) (s : St) (v : Value) : Option (Value × Hp × List Nat) :=
  bif noLoc v then (bif s.wg.isEmpty && plainV v then some (v, H, []) else some (v, s.H, s.wg)) else none

def runBody (P : Program) (X : Xt) (esc : FuncId → Nat → Bool) (fuel : Nat) (O : Orc) : Orc := fun f args H =>
  match P.funcs[f]? with
  | none => none
  | some fn =>
    match fn.body with
    | none => none
    | some c =>
      match exec P X O (esc f) fuel c ⟨args ++ List.replicate (fn.ntmps - args.length) undef, H, [], []⟩ with
      | some (.normal, s) => match resultsA P s fn.results.toList with
        | some vs => finish H s (packV vs)
        | none => none
      | some (.ret, s) => match resultsA P s fn.results.toList with
        | some vs => finish H s (packV vs)
        | none => none
      | _ => none

/-- The machine: n calls deep. -/
def callN (P : Program) (X : Xt) (esc : FuncId → Nat → Bool) (fuel : Nat) : Nat → Orc
  | 0 => fun _ _ _ => none
  | n + 1 => runBody P X esc fuel (callN P X esc fuel n)

end Go.Am
