/-
  The fast machine: whole numbers, frames as trees, small instructions.
-/
import Derived.Test.YthbfmjlcnfgnbaaGreatAmR
namespace Go.Am

def ltI : Int → Int → Bool
  | .ofNat a, .ofNat b => Nat.blt a b
  | .negSucc _, .ofNat _ => true
  | .ofNat _, .negSucc _ => false
  | .negSucc a, .negSucc b => Nat.blt b a
def eqI : Int → Int → Bool
  | .ofNat a, .ofNat b => Nat.beq a b
  | .negSucc a, .negSucc b => Nat.beq a b
  | _, _ => false
def wrapI (k : IntKind) (n : Int) : Int :=
  match k with
  | .i64 => match n with
    | .ofNat a => bif Nat.ble a 9223372036854775807 then .ofNat a else IntKind.wrap .i64 (.ofNat a)
    | .negSucc a => bif Nat.ble a 9223372036854775807 then .negSucc a else IntKind.wrap .i64 (.negSucc a)
  | .u64 => match n with
    | .ofNat a => bif Nat.ble a 18446744073709551615 then .ofNat a else .ofNat (a % 18446744073709551616)
    | .negSucc a => IntKind.wrap .u64 (.negSucc a)
  | k => k.wrap n
def kN : IntKind → Nat
  | .i8 => 0 | .i16 => 1 | .i32 => 2 | .i64 => 3 | .u8 => 4 | .u16 => 5 | .u32 => 6 | .u64 => 7

inductive Pa where
  | z | a (p : Pa) | b (p : Pa)
inductive Tr where
  | e | n (v : Value) (l r : Tr)

def paF : Nat → Nat → Pa
  | 0, _ => .z
  | f + 1, n => match n with
    | 0 => .z
    | n + 1 => bif Nat.beq (n % 2) 0 then .a (paF f (n / 2)) else .b (paF f (n / 2))
def paOf (n : Nat) : Pa := paF n n

section
variable {β : Type}
noncomputable def getK (p : Pa) : Tr → (Value → β) → β :=
  Pa.rec (motive := fun _ => Tr → (Value → β) → β) (fun t k => Tr.casesOn t (k undef) (fun v _ _ => k v))
    (fun _ ih t k => Tr.casesOn t (k undef) (fun _ l _ => ih l k)) (fun _ ih t k => Tr.casesOn t (k undef) (fun _ _ r => ih r k)) p
noncomputable def setK (p : Pa) (x : Value) : Tr → (Tr → β) → β :=
  Pa.rec (motive := fun _ => Tr → (Tr → β) → β)
    (fun t k => Tr.casesOn t (k (.n x .e .e)) (fun _ l r => k (.n x l r)))
    (fun _ ih t k => Tr.casesOn t (ih .e fun l => k (.n undef l .e)) (fun v l r => ih l fun l => k (.n v l r)))
    (fun _ ih t k => Tr.casesOn t (ih .e fun r => k (.n undef .e r)) (fun v l r => ih r fun r => k (.n v l r))) p
end

/-- An operand. -/
inductive RO where
  | t (p : Pa) | c (v : Value)

inductive RP where
  | mov (x : RO) | pick (c a b : RO) | ext (x : RO) (k : Nat) | faddr (x : RO) (off : Nat) | idxS (x i : RO) (sz : Nat) | idxA (x i : RO) (len sz : Nat)
  | fld1 (x : RO) (off : Nat) | fldA (x : RO) (off sz : Nat) | bin (op : BinOp) (x y : RO) | not (x : RO) | cvt (k : IntKind) (x : RO) | lenS (x : RO)
  | ld1 (x : RO) | ldA (x : RO) (sz : Nat) | max (x y : RO) | min (x y : RO) | nck (x : RO) | gen (o : Oper)

inductive RM where
  | st1 (x v : RO) | stA (x v : RO) (sz : Nat) | box (esc : Bool) (elem : TypeId) (x : RO) | alloc (esc : Bool) (elem : TypeId) (cs : List Value) | call (f : FuncId) (xs : List RO) | gmem (o : Oper)

inductive RG where
  | yes | no | when (p : Pa) (want : Bool)

inductive RS where
  | p (dst : Option Pa) (g : RG) (e : RP)
  | m (dst : Option Pa) (g : RG) (e : RM)

inductive RC where
  | skip | reg (l : List RS) | drw (l : List RS) (conf : List (Nat × Nat)) | seq (a b : RC) | cond (c : RO) (a b : RC) | block (id : Nat) (c : RC) | loop (c : RC) | exit (id : Nat) | ret | bad

section
variable {β : Type}
noncomputable def opK (x : RO) (tr : Tr) (k : Value → β) : β := RO.casesOn x (fun p => getK p tr k) k

noncomputable def evT (tr : Tr) (x : Operand) : Value :=
  match x with
  | .tmp t => getK (paOf t) tr id
  | .const v => v
  | .global g => .pointer (some ⟨g, 0, some 1⟩)
  | .func f => .func (.func f) #[] #[]

noncomputable def nthK {α : Type} (l : List α) (n : Nat) (z : β) (k : α → β) : β :=
  List.rec (motive := fun _ => Nat → β) (fun _ => z) (fun x _ ih n => Nat.casesOn n (k x) ih) l n

def binK (op : BinOp) (x y : Value) (z : β) (k : Value → β) : β :=
  match x with
  | .int kx a => match y with
    | .int ky b => bif Nat.beq (kN kx) (kN ky) then
        match op with
        | .add => fInt (wrapI kx (Int.add a b)) fun n => k (.int kx n)
        | .sub => fInt (wrapI kx (Int.sub a b)) fun n => k (.int kx n)
        | .mul => fInt (wrapI kx (Int.mul a b)) fun n => k (.int kx n)
        | .lss => fBool (ltI a b) fun c => k (.bool c)
        | .leq => fBool (!ltI b a) fun c => k (.bool c)
        | .gtr => fBool (ltI b a) fun c => k (.bool c)
        | .geq => fBool (!ltI a b) fun c => k (.bool c)
        | .eql => fBool (eqI a b) fun c => k (.bool c)
        | .neq => fBool (!eqI a b) fun c => k (.bool c)
        | .quo => bif eqI b (.ofNat 0) then z else fInt (wrapI kx (Int.tdiv a b)) fun n => k (.int kx n)
        | .rem => bif eqI b (.ofNat 0) then z else fInt (Int.tmod a b) fun n => k (.int kx n)
        | _ => z
      else z
    | _ => z
  | _ => z

def idxK (a : Addr) (len : Nat) (i : Value) (sz : Nat) (z : β) (k : Value → β) : β :=
  match i with
  | .int _ (.ofNat n) => bif Nat.blt n len then fNat (a.off + n * sz) fun o => k (.pointer (some ⟨a.block, o, a.spot⟩)) else z
  | _ => z

noncomputable def cellK (H loc : Hp) (a : Addr) (z : β) (k : Value → β) : β :=
  match a with
  | ⟨b, o, s⟩ =>
    match s with
    | none => nthK H b z fun blk => match blk with
      | ⟨cs, _, _, _, live⟩ => bif live then nthK cs o z k else z
    | some 0 => nthK loc b z fun blk => match blk with
      | ⟨cs, _, _, _, live⟩ => bif live then nthK cs o z k else z
    | some (_ + 1) => z

/-- A list with one more at its end, and its length before. -/
noncomputable def snocK {α : Type} (l : List α) (x : α) (k : List α → Nat → β) : β :=
  List.rec (motive := fun _ => Nat → (List α → Nat → β) → β) (fun n k => fNat n fun n => k [x] n) (fun y _ ih n k => ih (n + 1) fun l n => k (y :: l) n) l 0 k

noncomputable def cellsK (x : Value) (k : List Value → β) : β := match x with
  | .agg ⟨l⟩ => k l
  | _ => k [x]

def nl1 (v : Value) : Bool := match v with
  | .int _ _ => true
  | .bool _ => true
  | .pointer none => true
  | .pointer (some ⟨_, _, s⟩) => s.isNone
  | .slice none _ _ => true
  | .slice (some ⟨_, _, s⟩) _ _ => s.isNone
  | v => noLocB 5 v
noncomputable def nls (l : List Value) : Bool := List.rec (motive := fun _ => Bool) true (fun v _ ih => bif nl1 v then ih else false) l
noncomputable def nlF (v : Value) : Bool := match v with
  | .agg ⟨l⟩ => nls l
  | .tuple ⟨l⟩ => nls l
  | v => nl1 v
noncomputable def nlFs (l : List Value) : Bool := List.rec (motive := fun _ => Bool) true (fun v _ ih => bif nlF v then ih else false) l
def pl1 (v : Value) : Bool := match v with
  | .int _ _ => true
  | .bool _ => true
  | .pointer (some _) => false
  | .slice (some _) _ _ => false
  | v => plainB 3 v
noncomputable def pls (l : List Value) : Bool := List.rec (motive := fun _ => Bool) true (fun v _ ih => bif pl1 v then ih else false) l
noncomputable def plF (v : Value) : Bool := match v with
  | .agg ⟨l⟩ => pls l
  | .tuple ⟨l⟩ => pls l
  | .int _ _ => true
  | .bool _ => true
  | v => plainV v

/-- A cell is written: the list with the value at its place. -/
noncomputable def setLK {α : Type} (l : List α) (n : Nat) (x : α) (z : β) (k : List α → β) : β :=
  List.rec (motive := fun _ => Nat → (List α → β) → β) (fun _ _ => z) (fun y l ih n k => Nat.casesOn n (k (x :: l)) fun n => ih n fun l => k (y :: l)) l n k

noncomputable def wr1 (H loc : Hp) (a : Addr) (v : Value) (z : β) (k : Hp → Hp → List Nat → List Nat → β) : β :=
  match a with
  | ⟨b, o, s⟩ =>
    match s with
    | none => nthK H b z fun blk => match blk with
      | ⟨cs, t, e, lo, live⟩ => bif live then bif v.oneCell' then bif nl1 v then setLK cs o v z fun cs => setLK H b ⟨cs, t, e, lo, true⟩ z fun H => k H loc [b] [] else z else z else z
    | some 0 => nthK loc b z fun blk => match blk with
      | ⟨cs, t, e, lo, live⟩ => bif live then bif v.oneCell' then setLK cs o v z fun cs => setLK loc b ⟨cs, t, e, lo, true⟩ z fun loc => k H loc [] [b] else z else z
    | some (_ + 1) => z

noncomputable def stepP (P : Program) (e : RP) (tr : Tr) (H loc : Hp) (z : β) (k : Value → β) : β :=
  match e with
  | .mov x => opK x tr k
  | .pick c a b => opK c tr fun c => match c with
    | .bool c => bif c then opK a tr k else opK b tr k
    | _ => z
  | .ext x n => opK x tr fun x => match x with
    | .tuple ⟨vs⟩ => nthK vs n z k
    | _ => z
  | .faddr x off => opK x tr fun x => match x with
    | .pointer (some ⟨b, o, s⟩) => fNat (o + off) fun o => k (.pointer (some ⟨b, o, s⟩))
    | _ => z
  | .idxS x i sz => opK x tr fun x => match x with
    | .slice (some a) len _ => opK i tr fun i => idxK a len i sz z k
    | _ => z
  | .idxA x i len sz => opK x tr fun x => match x with
    | .pointer (some a) => opK i tr fun i => idxK a len i sz z k
    | _ => z
  | .fld1 x off => opK x tr fun x => match x with
    | .agg ⟨vs⟩ => nthK vs off z k
    | _ => z
  | .fldA x off sz => opK x tr fun x => match x with
    | .agg ⟨vs⟩ => fSpine ((vs.drop off).take sz) fun l => k (.agg ⟨l⟩)
    | _ => z
  | .bin op x y => opK x tr fun x => opK y tr fun y => binK op x y z k
  | .not x => opK x tr fun x => match x with
    | .bool b => fBool (!b) fun b => k (.bool b)
    | _ => z
  | .cvt kd x => opK x tr fun x => match x with
    | .int _ n => fInt (wrapI kd n) fun n => k (.int kd n)
    | _ => z
  | .lenS x => opK x tr fun x => match x with
    | .slice _ n _ => k (.int .i64 (.ofNat n))
    | _ => z
  | .ld1 x => opK x tr fun x => match x with
    | .pointer (some a) => cellK H loc a z k
    | _ => z
  | .ldA x sz => opK x tr fun x => match x with
    | .pointer (some a) => match readCells H loc a sz with
      | some vs => k (.agg ⟨vs⟩)
      | none => z
    | _ => z
  | .max x y => opK x tr fun x => opK y tr fun y => match x with
    | .int kx a => match y with
      | .int _ b => bif ltI a b then k (.int kx b) else k (.int kx a)
      | _ => z
    | _ => z
  | .min x y => opK x tr fun x => opK y tr fun y => match x with
    | .int kx a => match y with
      | .int _ b => bif ltI b a then k (.int kx b) else k (.int kx a)
      | _ => z
    | _ => z
  | .nck x => opK x tr fun x => match x with
    | .pointer (some a) => k (.pointer (some a))
    | _ => z
  | .gen o => match evInert P H o (evT tr) with
    | some v => fVal 4 v k
    | none => z

noncomputable def opsK (xs : List RO) (tr : Tr) : (List Value → β) → β :=
  List.rec (motive := fun _ => (List Value → β) → β) (fun k => k []) (fun x _ ih k => opK x tr fun v => ih fun l => k (v :: l)) xs

noncomputable def stepM (P : Program) (X : Xt) (O : Orc) (esc : Nat → Bool) (e : RM) (tr : Tr) (H loc : Hp) (z : β) (k : Value → Hp → Hp → List Nat → List Nat → β) : β :=
  match e with
  | .st1 x v => opK x tr fun x => opK v tr fun v => match x with
    | .pointer (some a) => wr1 H loc a v z (k undef)
    | _ => z
  | .stA x v sz => opK x tr fun x => opK v tr fun v => match x with
    | .pointer (some a) => match v with
      | .agg ⟨cs⟩ => bif Nat.beq cs.length sz then
          match writeCells H loc a cs with
          | some (H', loc', wg, wl) => k undef H' loc' wg wl
          | none => z
        else z
      | _ => z
    | _ => z
  | .box es elem x => opK x tr fun x => cellsK x fun cs =>
    bif es then bif nls cs then snocK H ⟨cs, elem, 0, false, true⟩ fun H' n => k (.pointer (some ⟨n, 0, none⟩)) H' loc [] [] else z
    else snocK loc ⟨cs, elem, 0, false, true⟩ fun loc' n => k (.pointer (some ⟨n, 0, some 0⟩)) H loc' [] []
  | .alloc es elem cs => bif es then snocK H ⟨cs, elem, 0, false, true⟩ fun H' n => k (.pointer (some ⟨n, 0, none⟩)) H' loc [] []
    else snocK loc ⟨cs, elem, 0, false, true⟩ fun loc' n => k (.pointer (some ⟨n, 0, some 0⟩)) H loc' [] []
  | .call f xs => opsK xs tr fun args => bif nlFs args then
      match O f args H with
      | some (v, H', md) => k v H' loc md []
      | none => z
    else z
  | .gmem o => match evOp P X O esc o (evT tr) H loc with
    | some out => fVal 4 out.v fun v => k v out.H out.loc out.wg out.wl
    | none => z
end

def compO : Operand → RO
  | .tmp t => .t (paOf t)
  | .const v => .c v
  | .global g => .c (.pointer (some ⟨g, 0, some 1⟩))
  | .func f => .c (.func (.func f) #[] #[])

def compP (P : Program) (o : Oper) : RP :=
  match o.op with
  | .move x => .mov (compO x)
  | .assign x => .mov (compO x)
  | .pick c a b => .pick (compO c) (compO a) (compO b)
  | .extract x k => .ext (compO x) k
  | .fieldAddr s x f => match P.underlying s with
    | some (.struct fs) => match fs[f]? with
      | some fd => bif P.cellsOf fd.type == 0 then .gen o else fNat fd.offset fun off => .faddr (compO x) off
      | none => .gen o
    | _ => .gen o
  | .indexAddr t x i => match P.underlying t with
    | some (.array len elem) => match P.info? elem with
      | some ti => fNat ti.size fun sz => .idxA (compO x) (compO i) len sz
      | none => .gen o
    | some (.slice elem) => match P.info? elem with
      | some ti => fNat ti.size fun sz => .idxS (compO x) (compO i) sz
      | none => .gen o
    | _ => .gen o
  | .field t x f => match P.underlying t with
    | some (.struct fs) => match fs[f]? with
      | some fd => match isAggT P fd.type with
        | some true => match P.info? fd.type with
          | some i => fNat i.size fun sz => fNat fd.offset fun off => .fldA (compO x) off sz
          | none => .gen o
        | some false => fNat fd.offset fun off => .fld1 (compO x) off
        | none => .gen o
      | none => .gen o
    | _ => .gen o
  | .binOp op t x y _ => match P.underlying t with
    | some (.int _) => match op with
      | .add | .sub | .mul | .lss | .leq | .gtr | .geq | .eql | .neq | .quo | .rem => .bin op (compO x) (compO y)
      | _ => .gen o
    | _ => .gen o
  | .unOp .not _ x => .not (compO x)
  | .convert s t x => match P.underlying s, P.underlying t with
    | some (.int _), some (.int k) => .cvt k (compO x)
    | _, _ => .gen o
  | .call { callee := .builtin .len, args := ⟨[x]⟩, argTypes := ⟨[t]⟩ } => match P.underlying t with
    | some (.slice _) => .lenS (compO x)
    | _ => .gen o
  | .call { callee := .builtin .max, args := ⟨[x, y]⟩, .. } => .max (compO x) (compO y)
  | .call { callee := .builtin .min, args := ⟨[x, y]⟩, .. } => .min (compO x) (compO y)
  | .nilCheck x => .nck (compO x)
  | _ => .gen o

/-- A load. -/
def compL (P : Program) (o : Oper) : Option RP :=
  match o.op with
  | .load t x => match isAggT P t with
    | some true => match P.info? t with
      | some i => fNat i.size fun sz => some (.ldA (compO x) sz)
      | none => none
    | some false => some (.ld1 (compO x))
    | none => none
  | _ => none

def compM (P : Program) (esc : Nat → Bool) (o : Oper) : RM :=
  match o.op with
  | .store t x v => match isAggT P t with
    | some true => match P.info? t with
      | some i => fNat i.size fun sz => .stA (compO x) (compO v) sz
      | none => .gmem o
    | some false => match P.info? t with
      | some i => bif Nat.beq i.size 1 then .st1 (compO x) (compO v) else .gmem o
      | none => .gmem o
    | none => .gmem o
  | .box elem x => fBool (match o.dst with | some d => esc d | none => true) fun es => .box es elem (compO x)
  | .alloc elem => match P.info? elem with
    | some i => match i.zero with
      | some z => bif plainV z && z.cells.toList.all noLoc then fBool (match o.dst with | some d => esc d | none => true) fun es => fVals z.cells.toList fun cs => .alloc es elem cs else .gmem o
      | none => .gmem o
    | none => .gmem o
  | .call { callee := .value (.func f), args := ⟨as⟩, .. } => bif hasBody P f then .call f (as.map compO) else .gmem o
  | _ => .gmem o

def compG (ops : List Oper) (o : Oper) : RG :=
  match o.guard with
  | none => .yes
  | some (j, want) => match (ops[j]?).bind (·.dst) with
    | some t => .when (paOf t) want
    | none => .no

def compS (P : Program) (esc : Nat → Bool) (ops : List Oper) (o : Oper) : RS :=
  match kindOf o.op with
  | .inert => .p (o.dst.map paOf) (compG ops o) (compP P o)
  | .load => match compL P o with
    | some e => .p (o.dst.map paOf) (compG ops o) e
    | none => .m (o.dst.map paOf) (compG ops o) (.gmem o)
  | .alloc => .m (o.dst.map paOf) (compG ops o) (compM P esc o)
  | .eff => .m (o.dst.map paOf) (compG ops o) (compM P esc o)

def dstsOk (nt : Nat) (ops : List Oper) : Bool := ops.all fun o => match o.dst with
  | some d => Nat.blt d nt
  | none => true

def compR (P : Program) (esc : Nat → Bool) (nt : Nat) (ops : List Oper) (draw : Bool) : RC :=
  bif constsOk ops && dstsOk nt ops then
    bif draw then
      bif staticOk ops then
        match confOf ops with
        | [] => .reg (ops.map (compS P esc ops))
        | c :: cs => .drw (ops.map (compS P esc ops)) (c :: cs)
      else .bad
    else .reg (ops.map (compS P esc ops))
  else .bad

def compC (P : Program) (esc : Nat → Bool) (nt : Nat) : Code → RC
  | .skip => .skip
  | .region _ ops draw => compR P esc nt ops.toList draw
  | .seq a b => .seq (compC P esc nt a) (compC P esc nt b)
  | .cond c a b => .cond (compO c) (compC P esc nt a) (compC P esc nt b)
  | .block id c => .block id (compC P esc nt c)
  | .loop c => .loop (compC P esc nt c)
  | .exit id => .exit id
  | .ret => .ret
  | _ => .bad

structure FSt where
  tr : Tr
  H : Hp
  loc : Hp
  wg : List Nat

noncomputable def putK {β : Type} (d : Option Pa) (v : Value) (tr : Tr) (k : Tr → β) : β := Option.casesOn d (k tr) (fun p => setK p v tr k)
noncomputable def wantK {β : Type} (g : RG) (tr : Tr) (yes no : β) : β :=
  match g with
  | .yes => yes
  | .no => no
  | .when p w => getK p tr fun v => match v with
    | .bool b => bif b then (bif w then yes else no) else (bif w then no else yes)
    | _ => no

noncomputable def fseq (P : Program) (X : Xt) (O : Orc) (esc : Nat → Bool) (l : List RS) : Tr → Hp → Hp → List Nat → Option (Ex × FSt) :=
  List.rec (motive := fun _ => Tr → Hp → Hp → List Nat → Option (Ex × FSt)) (fun tr H loc wg => some (.normal, ⟨tr, H, loc, wg⟩))
    (fun s _ ih tr H loc wg => match s with
      | .p d g e => wantK g tr (stepP P e tr H loc none fun v => putK d v tr fun tr => ih tr H loc wg) (putK d undef tr fun tr => ih tr H loc wg)
      | .m d g e => wantK g tr (stepM P X O esc e tr H loc none fun v H loc w _ => putK d v tr fun tr => fSpine (wg ++ w) fun wg => ih tr H loc wg) (putK d undef tr fun tr => ih tr H loc wg)) l

noncomputable def rdsP {β : Type} (e : RP) (tr : Tr) (k : List Nat → List Nat → β) : β :=
  match e with
  | .ld1 x => opK x tr fun v => match v with
    | .pointer (some ⟨b, _, none⟩) => k [b] []
    | .pointer (some ⟨b, _, some _⟩) => k [] [b]
    | _ => k [] []
  | .ldA x _ => opK x tr fun v => match v with
    | .pointer (some ⟨b, _, none⟩) => k [b] []
    | .pointer (some ⟨b, _, some _⟩) => k [] [b]
    | _ => k [] []
  | _ => k [] []
noncomputable def rdsM {β : Type} (e : RM) (tr : Tr) (k : List Nat → List Nat → β) : β :=
  match e with
  | .gmem o => match readsOf o (evT tr) with
    | (a, b) => k a b
  | _ => k [] []

noncomputable def ftr (P : Program) (X : Xt) (O : Orc) (esc : Nat → Bool) (l : List RS) : Tr → Hp → Hp → List Nat → List Fp → (FSt → List Fp → Option (Ex × FSt)) → Option (Ex × FSt) :=
  List.rec (motive := fun _ => Tr → Hp → Hp → List Nat → List Fp → (FSt → List Fp → Option (Ex × FSt)) → Option (Ex × FSt)) (fun tr H loc wg fps k => k ⟨tr, H, loc, wg⟩ fps)
    (fun s _ ih tr H loc wg fps k => match s with
      | .p d g e => wantK g tr (stepP P e tr H loc none fun v => rdsP e tr fun rg rl => putK d v tr fun tr => ih tr H loc wg (⟨rg, rl, [], [], boundB H.length loc.length 6 v⟩ :: fps) k) (putK d undef tr fun tr => ih tr H loc wg (⟨[], [], [], [], true⟩ :: fps) k)
      | .m d g e => wantK g tr (stepM P X O esc e tr H loc none fun v H' loc' w wl => rdsM e tr fun rg rl => putK d v tr fun tr => fSpine (wg ++ w) fun wg => ih tr H' loc' wg (⟨rg, rl, w, wl, boundB H.length loc.length 6 v⟩ :: fps) k) (putK d undef tr fun tr => ih tr H loc wg (⟨[], [], [], [], true⟩ :: fps) k)) l

noncomputable def floop (f : FSt → Option (Ex × FSt)) (n : Nat) : FSt → Option (Ex × FSt) :=
  Nat.rec (motive := fun _ => FSt → Option (Ex × FSt)) (fun _ => none) (fun _ ih s => match f s with
    | some (.normal, s') => ih s'
    | r => r) n

noncomputable def fexec (P : Program) (X : Xt) (O : Orc) (esc : Nat → Bool) (fuel : Nat) (c : RC) : FSt → Option (Ex × FSt) :=
  RC.rec (motive := fun _ => FSt → Option (Ex × FSt))
    (fun s => some (.normal, s))
    (fun l s => match s with | ⟨tr, H, loc, wg⟩ => fseq P X O esc l tr H loc wg)
    (fun l conf s => match s with | ⟨tr, H, loc, wg⟩ => ftr P X O esc l tr H loc wg [] fun s fps => bif dynOk conf fps.reverse then some (.normal, s) else none)
    (fun _ _ f g s => match f s with
      | some (.normal, s') => g s'
      | r => r)
    (fun c _ _ f g s => opK c s.tr fun v => match v with
      | .bool b => bif b then f s else g s
      | _ => none)
    (fun id _ f s => match f s with
      | some (.exit i, s') => bif Nat.beq i id then some (.normal, s') else some (.exit i, s')
      | r => r)
    (fun _ f s => floop f fuel s)
    (fun id s => some (.exit id, s))
    (fun s => some (.ret, s))
    (fun _ => none) c

noncomputable def argTr (args : List Value) : Nat → Tr → (Tr → Option (Value × Hp × List Nat)) → Option (Value × Hp × List Nat) :=
  List.rec (motive := fun _ => Nat → Tr → (Tr → Option (Value × Hp × List Nat)) → Option (Value × Hp × List Nat)) (fun _ tr k => k tr) (fun v _ ih n tr k => setK (paOf n) v tr fun tr => ih (n + 1) tr k) args

noncomputable def fres (P : Program) (s : FSt) : List ResultVar → Option (List Value)
  | [] => some []
  | .tmp t :: rest => match fres P s rest with
    | some vs => getK (paOf t) s.tr fun v => some (v :: vs)
    | none => none
  | .cell a t :: rest => match evLoad P s.H s.loc t (getK (paOf a) s.tr id), fres P s rest with
    | some v, some vs => fVal 4 v fun v => some (v :: vs)
    | _, _ => none

noncomputable def ffin (H : Hp) (s : FSt) (v : Value) : Option (Value × Hp × List Nat) :=
  bif nlF v then (bif s.wg.isEmpty && plF v then some (v, H, []) else some (v, s.H, s.wg)) else none

def fbody (P : Program) (esc : FuncId → Nat → Bool) (f : FuncId) : Option RC :=
  match P.funcs[f]? with
  | some fn => match fn.body with
    | some c => some (compC P (esc f) fn.ntmps c)
    | none => none
  | none => none
def fresv (P : Program) (f : FuncId) : List ResultVar :=
  match P.funcs[f]? with
  | some fn => fn.results.toList
  | none => []

noncomputable def frun (P : Program) (X : Xt) (esc : FuncId → Nat → Bool) (fuel : Nat) (O : Orc) : Orc := fun f args H =>
  match fbody P esc f with
  | none => none
  | some c => argTr args 0 .e fun tr =>
    match fexec P X O (esc f) fuel c ⟨tr, H, [], []⟩ with
    | some (.normal, s) => match fres P s (fresv P f) with
      | some vs => ffin H s (packV vs)
      | none => none
    | some (.ret, s) => match fres P s (fresv P f) with
      | some vs => ffin H s (packV vs)
      | none => none
    | _ => none

noncomputable def fcall (P : Program) (X : Xt) (esc : FuncId → Nat → Bool) (fuel : Nat) (n : Nat) : Orc :=
  Nat.rec (motive := fun _ => Orc) (fun _ _ _ => none) (fun _ O => frun P X esc fuel O) n
end Go.Am
