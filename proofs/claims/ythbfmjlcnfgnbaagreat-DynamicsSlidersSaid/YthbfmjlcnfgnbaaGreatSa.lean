/-
  The symbolic machine.
-/
import Derived.WalkKit

section
/-
  An abstract machine for the model's code: values and heaps up to the numbers of blocks. This text: the notions, the relation of values, the operations that touch no memory.
-/
namespace Go.Sm

/- Strict evaluation, for the kernel's sake: each of these hands on just what it was given. -/
section
variable {α : Type}
def fNat (n : Nat) (k : Nat → α) : α := match n with
  | 0 => k 0
  | p + 1 => k (p + 1)
def fInt (n : Int) (k : Int → α) : α := match n with
  | .ofNat m => fNat m fun m => k (.ofNat m)
  | .negSucc m => fNat m fun m => k (.negSucc m)
def fBool (b : Bool) (k : Bool → α) : α := match b with
  | true => k true
  | false => k false
def fSpot (s : Option Nat) (k : Option Nat → α) : α := match s with
  | none => k none
  | some n => fNat n fun n => k (some n)
def fAddr (a : Addr) (k : Addr → α) : α := fNat a.block fun b => fNat a.off fun o => fSpot a.spot fun s => k ⟨b, o, s⟩
def fEach (f : Value → (Value → α) → α) : List Value → (List Value → α) → α
  | [], k => k []
  | v :: vs, k => f v fun v => fEach f vs fun l => k (v :: l)
def fVal : Nat → Value → (Value → α) → α
  | 0, v, k => k v
  | d + 1, v, k => match v with
    | .bool b => fBool b fun b => k (.bool b)
    | .int kd n => fInt n fun n => k (.int kd n)
    | .pointer (some a) => fAddr a fun a => k (.pointer (some a))
    | .slice none n c => fNat n fun n => fNat c fun c => k (.slice none n c)
    | .slice (some a) n c => fAddr a fun a => fNat n fun n => fNat c fun c => k (.slice (some a) n c)
    | .agg ⟨l⟩ => fEach (fVal d) l fun l => k (.agg ⟨l⟩)
    | .tuple ⟨l⟩ => fEach (fVal d) l fun l => k (.tuple ⟨l⟩)
    | .func fn ⟨l⟩ ⟨l2⟩ => fEach (fVal d) l fun l => fEach (fVal d) l2 fun l2 => k (.func fn ⟨l⟩ ⟨l2⟩)
    | .iface t v => fVal d v fun v => k (.iface t v)
    | v => k v
def fVals (l : List Value) (k : List Value → α) : α := fEach (fVal 4) l k
/-- A list's spine. -/
def fSpine {β : Type} : List β → (List β → α) → α
  | [], k => k []
  | x :: l, k => fSpine l fun l => k (x :: l)
def fSet {β : Type} : List β → Nat → β → (List β → α) → α
  | [], _, _, k => k []
  | x :: l, n, v, k => match n with
    | 0 => k (v :: l)
    | n + 1 => fSet l n v fun l => k (x :: l)

theorem fNat_eq (n : Nat) (k : Nat → α) : fNat n k = k n := by cases n <;> rfl
theorem fInt_eq (n : Int) (k : Int → α) : fInt n k = k n := by cases n <;> simp [fInt, fNat_eq]
theorem fBool_eq (n : Bool) (k : Bool → α) : fBool n k = k n := by cases n <;> rfl
theorem fSpot_eq (n : Option Nat) (k : Option Nat → α) : fSpot n k = k n := by cases n <;> simp [fSpot, fNat_eq]
theorem fAddr_eq (a : Addr) (k : Addr → α) : fAddr a k = k a := by simp [fAddr, fNat_eq, fSpot_eq]
theorem fEach_eq {f : Value → (Value → α) → α} (hf : ∀ v k, f v k = k v) : ∀ (l : List Value) (k : List Value → α), fEach f l k = k l
  | [], k => rfl
  | v :: l, k => by simp [fEach, hf, fEach_eq hf l]
theorem fVal_eq : ∀ (d : Nat) (v : Value) (k : Value → α), fVal d v k = k v
  | 0, _, _ => rfl
  | d + 1, v, k => by
    unfold fVal
    split <;> simp [fBool_eq, fInt_eq, fNat_eq, fAddr_eq, fEach_eq (fVal_eq d), fVal_eq d]
theorem fVals_eq (l : List Value) (k : List Value → α) : fVals l k = k l := fEach_eq (fVal_eq 4) l k
theorem fSpine_eq {β : Type} : ∀ (l : List β) (k : List β → α), fSpine l k = k l
  | [], _ => rfl
  | x :: l, k => by simp [fSpine, fSpine_eq l]
theorem fSet_eq {β : Type} : ∀ (l : List β) (n : Nat) (v : β) (k : List β → α), fSet l n v k = k (l.set n v)
  | [], _, _, _ => rfl
  | x :: l, n, v, k => by
    cases n with
    | zero => rfl
    | succ n => simp [fSet, fSet_eq l n v]
end

/-- A block of the abstract heap. loose: the concrete block may be longer; live: not yet taken over by an append; esz: cells an element. -/
structure Blk where
  cells : List Value
  elem : TypeId
  esz : Nat
  loose : Bool
  live : Bool

abbrev Hp := List Blk

/-! ### Symbolic numbers: closures of functions that no program has. -/
/-- What the symbols stand for. -/
structure Env where
  rho : Nat → Int
  rhoB : Nat → Bool
  fn : Nat → List Int → Int
  fnB : Nat → List Int → Bool

def symF (f : FuncId) : Bool := Nat.ble 1000000 f

def ints : List Value → Option (List Int)
  | [] => some []
  | .int _ n :: l => match ints l with
    | some r => some (n :: r)
    | none => none
  | _ => none

/-- What a symbolic operation answers. The first argument is a tag: the result's kind. -/
def apS (E : Env) (c : Nat) (vs : List Value) : Option Value :=
  match vs with
  | [] => none
  | tag :: xs =>
    match tag with
    | .int k i =>
      match c, xs with
      | 0, [] => some (.int k (E.rho i.toNat))
      | 2, [.int k1 a, .int k2 b] => if k1 = k ∧ k2 = k then some (.int k (k.wrap (a + b))) else none
      | 3, [.int k1 a, .int k2 b] => if k1 = k ∧ k2 = k then some (.int k (k.wrap (a - b))) else none
      | 4, [.int k1 a, .int k2 b] => if k1 = k ∧ k2 = k then some (.int k (k.wrap (a * b))) else none
      | 5, [.int k1 a, .int k2 b] => if k1 = k ∧ k2 = k then some (.int k (k.wrap (a.tdiv b))) else none
      | 6, [.int k1 a, .int k2 b] => if k1 = k ∧ k2 = k then some (.int k (a.tmod b)) else none
      | 7, [.int k1 a, .int k2 b] => if k1 = k ∧ k2 = k then some (.int k (k.wrap (BitVec.ofInt k.bits a &&& BitVec.ofInt k.bits b).toNat)) else none
      | 8, [.int k1 a, .int k2 b] => if k1 = k ∧ k2 = k then some (.int k (k.wrap (BitVec.ofInt k.bits a ||| BitVec.ofInt k.bits b).toNat)) else none
      | 10, [.int k1 a, .int _ y] => if k1 = k then some (.int k (k.wrap (a * 2 ^ (min y.toNat k.bits)))) else none
      | 11, [.int k1 a, .int _ y] => if k1 = k then some (.int k (a.fdiv (2 ^ (min y.toNat k.bits)))) else none
      | 12, [.int k1 a, .int k2 b] => if k1 = k ∧ k2 = k then some (.int k (if b < a then b else a)) else none
      | 13, [.int k1 a, .int k2 b] => if k1 = k ∧ k2 = k then some (.int k (if a < b then b else a)) else none
      | 14, [.int k1 a] => if k1 = k then some (.int k (k.wrap (-a))) else none
      | 15, [.int _ a] => some (.int k (k.wrap a))
      | c, xs => bif Nat.ble 1000 c then (match ints xs with
        | some l => some (.int k (E.fn (c - 1000) l))
        | none => none) else none
    | .bool _ =>
      match c, xs with
      | 1, [.int _ i] => some (.bool (E.rhoB i.toNat))
      | 20, [.int k1 a, .int k2 b] => if k1 = k2 then some (.bool (decide (a < b))) else none
      | 21, [.int k1 a, .int k2 b] => if k1 = k2 then some (.bool (decide (a ≤ b))) else none
      | 22, [.int k1 a, .int k2 b] => if k1 = k2 then some (.bool (decide (b < a))) else none
      | 23, [.int k1 a, .int k2 b] => if k1 = k2 then some (.bool (decide (b ≤ a))) else none
      | 24, [.int k1 a, .int k2 b] => if k1 = k2 then some (.bool (a == b)) else none
      | 25, [.int k1 a, .int k2 b] => if k1 = k2 then some (.bool (a != b)) else none
      | 26, [.bool a] => some (.bool (!a))
      | 27, [.bool a, .bool b] => some (.bool (a || b))
      | c, xs => bif Nat.ble 1000 c then (match ints xs with
        | some l => some (.bool (E.fnB (c - 1000) l))
        | none => none) else none
    | _ => none

def mapS (f : Value → Option Value) : List Value → Option (List Value)
  | [] => some []
  | v :: l => match f v with
    | some x => match mapS f l with
      | some r => some (x :: r)
      | none => none
    | none => none

def evS (E : Env) : Nat → Value → Option Value
  | 0, _ => none
  | d + 1, v => match v with
    | .int k n => some (.int k n)
    | .bool b => some (.bool b)
    | .func (.func f) ⟨xs⟩ ⟨[]⟩ => bif symF f then (match mapS (evS E d) xs with
      | some vs => apS E (f - 1000000) vs
      | none => none) else none
    | _ => none

theorem mapS_mono {f g : Value → Option Value} (h : ∀ v x, f v = some x → g v = some x) : ∀ (l r : List Value), mapS f l = some r → mapS g l = some r
  | [], r, e => e
  | v :: l, r, e => by
    unfold mapS at e ⊢
    split at e
    · rename_i x hx
      split at e
      · rename_i s hs
        rw [h v x hx]
        simp only
        rw [mapS_mono h l s hs]
        exact e
      · cases e
    · cases e
theorem evS_succ (E : Env) : ∀ (d : Nat) (v x : Value), evS E d v = some x → evS E (d + 1) v = some x
  | 0, _, _, h => by cases h
  | d + 1, v, x, h => by
    unfold evS at h ⊢
    split at h
    · exact h
    · exact h
    · rename_i f xs
      cases hf : symF f with
      | false => rw [hf] at h; cases h
      | true =>
        rw [hf] at h
        simp only [cond_true] at h ⊢
        split at h
        · rename_i vs hv
          rw [mapS_mono (evS_succ E d) xs vs hv]
          exact h
        · cases h
    · cases h
theorem evS_le (E : Env) {d d' : Nat} (hd : d ≤ d') {v x : Value} (h : evS E d v = some x) : evS E d' v = some x := by
  induction hd with
  | refl => exact h
  | step _ ih => exact evS_succ E _ v x ih
theorem evS_det (E : Env) {d d' : Nat} {v x y : Value} (h : evS E d v = some x) (h' : evS E d' v = some y) : x = y := by
  have a := evS_le E (Nat.le_max_left d d') h
  have b := evS_le E (Nat.le_max_right d d') h'
  rw [a] at b
  injection b

theorem apS_int {E : Env} {c : Nat} {k : IntKind} {i : Int} {xs : List Value} {v : Value} (h : apS E c (.int k i :: xs) = some v) : ∃ n, v = .int k n := by
  unfold apS at h
  simp only at h
  split at h
  all_goals first
    | (injection h with h; exact ⟨_, h.symm⟩)
    | (split at h
       · injection h with h; exact ⟨_, h.symm⟩
       · cases h)
    | (cases hc : Nat.ble 1000 c with
       | false => rw [hc] at h; cases h
       | true =>
         rw [hc] at h
         simp only [cond_true] at h
         split at h
         · injection h with h; exact ⟨_, h.symm⟩
         · cases h)

theorem apS_bool {E : Env} {c : Nat} {b0 : Bool} {xs : List Value} {v : Value} (h : apS E c (.bool b0 :: xs) = some v) : ∃ b, v = .bool b := by
  unfold apS at h
  simp only at h
  split at h
  all_goals first
    | (injection h with h; exact ⟨_, h.symm⟩)
    | (split at h
       · injection h with h; exact ⟨_, h.symm⟩
       · cases h)
    | (cases hc : Nat.ble 1000 c with
       | false => rw [hc] at h; cases h
       | true =>
         rw [hc] at h
         simp only [cond_true] at h
         split at h
         · injection h with h; exact ⟨_, h.symm⟩
         · cases h)

def mk (c : Nat) (tag : Value) (xs : List Value) : Value := .func (.func (1000000 + c)) ⟨tag :: xs⟩ ⟨[]⟩
theorem symF_mk (c : Nat) : symF (1000000 + c) = true := by simp [symF]
theorem evS_tag {E : Env} {d : Nat} {tag : Value} (ht : (∃ k n, tag = .int k n) ∨ ∃ b, tag = .bool b) : evS E (d + 1) tag = some tag := by
  rcases ht with ⟨k, n, rfl⟩ | ⟨b, rfl⟩ <;> rfl
theorem evS_mk {E : Env} {c d : Nat} {tag : Value} {xs : List Value} : evS E (d + 1) (mk c tag xs) = match mapS (evS E d) (tag :: xs) with
    | some vs => apS E c vs
    | none => none := by
  have e : 1000000 + c - 1000000 = c := by omega
  show (bif symF (1000000 + c) then (match mapS (evS E d) (tag :: xs) with
      | some vs => apS E (1000000 + c - 1000000) vs
      | none => none) else none) = _
  rw [symF_mk, e, cond_true]
theorem evS_mk1 {E : Env} {c d : Nat} {tag x a r : Value} (ht : (∃ k n, tag = .int k n) ∨ ∃ b, tag = .bool b) (hx : evS E d x = some a) (hr : apS E c [tag, a] = some r) : ∃ d, evS E d (mk c tag [x]) = some r := by
  refine ⟨d + 1 + 1, ?_⟩
  have e1 := evS_le E (Nat.le_succ d) hx
  have e0 := evS_tag (E := E) (d := d) ht
  rw [evS_mk]
  simp only [mapS, e0, e1]
  exact hr
theorem evS_mk2 {E : Env} {c d d' : Nat} {tag x y a b r : Value} (ht : (∃ k n, tag = .int k n) ∨ ∃ b, tag = .bool b) (hx : evS E d x = some a) (hy : evS E d' y = some b) (hr : apS E c [tag, a, b] = some r) : ∃ d, evS E d (mk c tag [x, y]) = some r := by
  refine ⟨max d d' + 1 + 1, ?_⟩
  have e1 := evS_le E (Nat.le_succ_of_le (Nat.le_max_left d d')) hx
  have e2 := evS_le E (Nat.le_succ_of_le (Nat.le_max_right d d')) hy
  have e0 := evS_tag (E := E) (d := max d d') ht
  rw [evS_mk]
  simp only [mapS, e0, e1, e2]
  exact hr

/-- The conditions that hold. -/
def Sat (E : Env) (gam : List (Value × Value)) : Prop := ∀ p ∈ gam, ∃ d x, evS E d p.1 = some x ∧ evS E d p.2 = some x

/-- Where the abstract blocks lie: global ones, local ones; of the loose ones their true length. -/
structure Mp where
  gb : Nat → Option Nat
  lb : Nat → Option Nat
  loose : Nat → Bool
  esz : Nat → Nat
  tot : Nat → Nat
  env : Env

inductive VR (m : Mp) : Value → Value → Prop
  | bool (b : Bool) : VR m (.bool b) (.bool b)
  | int (k : IntKind) (n : Int) : VR m (.int k n) (.int k n)
  | float (k : FloatKind) (n : Nat) : VR m (.float k n) (.float k n)
  | string (s : ByteArray) : VR m (.string s) (.string s)
  | ptrN : VR m (.pointer none) (.pointer none)
  | ptrG {i g off : Nat} (h : m.gb i = some g) : VR m (.pointer (some ⟨i, off, none⟩)) (.pointer (some ⟨g, off, none⟩))
  | ptrL {i g off : Nat} (h : m.lb i = some g) : VR m (.pointer (some ⟨i, off, some 0⟩)) (.pointer (some ⟨g, off, none⟩))
  | sliceN (n c : Nat) : VR m (.slice none n c) (.slice none n c)
  | sliceG {i g off n c : Nat} (h : m.gb i = some g) : VR m (.slice (some ⟨i, off, none⟩) n c) (.slice (some ⟨g, off, none⟩) n c)
  | sliceO {i g off n c c' : Nat} (h : m.gb i = some g) (hl : m.loose i = true) (hc : c ≤ c') (ht : off + c' * m.esz i ≤ m.tot i) :
      VR m (.slice (some ⟨i, off, none⟩) n c) (.slice (some ⟨g, off, none⟩) n c')
  | sliceE {i g off c' : Nat} {a : Addr} (h : m.gb i = some g) (hl : m.loose i = true) : VR m (.slice (some ⟨i, off, none⟩) 0 0) (.slice (some a) 0 c')
  | sliceL {i g off n c : Nat} (h : m.lb i = some g) : VR m (.slice (some ⟨i, off, some 0⟩) n c) (.slice (some ⟨g, off, none⟩) n c)
  | mapN : VR m (.map none) (.map none)
  | nilFunc : VR m .nilFunc .nilFunc
  | nilIface : VR m .nilIface .nilIface
  | symI {f : FuncId} {xs : List Value} {k : IntKind} {n : Int} (hf : symF f = true) (h : ∃ d, evS m.env d (.func (.func f) ⟨xs⟩ ⟨[]⟩) = some (.int k n)) : VR m (.func (.func f) ⟨xs⟩ ⟨[]⟩) (.int k n)
  | symB {f : FuncId} {xs : List Value} {b : Bool} (hf : symF f = true) (h : ∃ d, evS m.env d (.func (.func f) ⟨xs⟩ ⟨[]⟩) = some (.bool b)) : VR m (.func (.func f) ⟨xs⟩ ⟨[]⟩) (.bool b)
  | func {f : FuncId} {fs fs' cs cs' : List Value} (hf : symF f = false) (hl : fs.length = fs'.length) (h : ∀ (i : Nat) (v v' : Value), fs[i]? = some v → fs'[i]? = some v' → VR m v v')
      (hl2 : cs.length = cs'.length) (h2 : ∀ (i : Nat) (v v' : Value), cs[i]? = some v → cs'[i]? = some v' → VR m v v') :
      VR m (.func (.func f) ⟨fs⟩ ⟨cs⟩) (.func (.func f) ⟨fs'⟩ ⟨cs'⟩)
  | iface {t : TypeId} {v v' : Value} (h : VR m v v') : VR m (.iface t v) (.iface t v')
  | agg {cs cs' : List Value} (hl : cs.length = cs'.length) (h : ∀ (i : Nat) (v v' : Value), cs[i]? = some v → cs'[i]? = some v' → VR m v v') : VR m (.agg ⟨cs⟩) (.agg ⟨cs'⟩)
  | tuple {cs cs' : List Value} (hl : cs.length = cs'.length) (h : ∀ (i : Nat) (v v' : Value), cs[i]? = some v → cs'[i]? = some v' → VR m v v') : VR m (.tuple ⟨cs⟩) (.tuple ⟨cs'⟩)

/-- Two lists, place by place. -/
def VRs (m : Mp) (l l' : List Value) : Prop := l.length = l'.length ∧ ∀ (i : Nat) (v v' : Value), l[i]? = some v → l'[i]? = some v' → VR m v v'

/-- More is mapped. -/
structure Le (m m' : Mp) : Prop where
  gb : ∀ i g, m.gb i = some g → m'.gb i = some g
  lb : ∀ i g, m.lb i = some g → m'.lb i = some g
  loose : ∀ i g, m.gb i = some g → m'.loose i = m.loose i
  esz : ∀ i g, m.gb i = some g → m'.esz i = m.esz i
  tot : ∀ i g, m.gb i = some g → m'.tot i = m.tot i
  env : m'.env = m.env

theorem Le.refl (m : Mp) : Le m m := ⟨fun _ _ h => h, fun _ _ h => h, fun _ _ _ => rfl, fun _ _ _ => rfl, fun _ _ _ => rfl, rfl⟩
theorem Le.trans {a b c : Mp} (h : Le a b) (k : Le b c) : Le a c :=
  ⟨fun i g e => k.gb i g (h.gb i g e), fun i g e => k.lb i g (h.lb i g e), fun i g e => (k.loose i g (h.gb i g e)).trans (h.loose i g e),
   fun i g e => (k.esz i g (h.gb i g e)).trans (h.esz i g e), fun i g e => (k.tot i g (h.gb i g e)).trans (h.tot i g e), k.env.trans h.env⟩

theorem VR.mono {m m' : Mp} (hm : Le m m') {v v' : Value} (h : VR m v v') : VR m' v v' := by
  induction h with
  | bool b => exact .bool b
  | int k n => exact .int k n
  | float k n => exact .float k n
  | string s => exact .string s
  | ptrN => exact .ptrN
  | ptrG h => exact .ptrG (hm.gb _ _ h)
  | ptrL h => exact .ptrL (hm.lb _ _ h)
  | sliceN n c => exact .sliceN n c
  | sliceG h => exact .sliceG (hm.gb _ _ h)
  | sliceO h hl hc ht => exact .sliceO (hm.gb _ _ h) ((hm.loose _ _ h).trans hl) hc (by rw [hm.esz _ _ h, hm.tot _ _ h]; exact ht)
  | sliceE h hl => exact .sliceE (hm.gb _ _ h) ((hm.loose _ _ h).trans hl)
  | sliceL h => exact .sliceL (hm.lb _ _ h)
  | mapN => exact .mapN
  | nilFunc => exact .nilFunc
  | nilIface => exact .nilIface
  | symI hf h => exact .symI hf (by rw [hm.env]; exact h)
  | symB hf h => exact .symB hf (by rw [hm.env]; exact h)
  | func hf hl _ hl2 _ ih ih2 => exact .func hf hl ih hl2 ih2
  | iface _ ih => exact .iface ih
  | agg hl _ ih => exact .agg hl ih
  | tuple hl _ ih => exact .tuple hl ih

theorem VRs.mono {m m' : Mp} (hm : Le m m') {l l' : List Value} (h : VRs m l l') : VRs m' l l' := ⟨h.1, fun i v v' a b => (h.2 i v v' a b).mono hm⟩
theorem VRs.nil (m : Mp) : VRs m [] [] := ⟨rfl, fun i v v' h => by simp at h⟩
theorem VRs.cons {m : Mp} {v v' : Value} {l l' : List Value} (h : VR m v v') (hs : VRs m l l') : VRs m (v :: l) (v' :: l') := by
  refine ⟨by simp [hs.1], fun i x x' a b => ?_⟩
  cases i with
  | zero => simp at a b; subst a; subst b; exact h
  | succ i => exact hs.2 i x x' (by simpa using a) (by simpa using b)
theorem VRs.cons_inv {m : Mp} {v : Value} {l l'' : List Value} (h : VRs m (v :: l) l'') : ∃ v' l', l'' = v' :: l' ∧ VR m v v' ∧ VRs m l l' := by
  cases l'' with
  | nil => have := h.1; simp at this
  | cons v' l' =>
    refine ⟨v', l', rfl, h.2 0 v v' rfl rfl, by have := h.1; simpa using this, fun i x x' a b => h.2 (i + 1) x x' (by simpa using a) (by simpa using b)⟩
theorem VRs.at {m : Mp} {l l' : List Value} (h : VRs m l l') {i : Nat} {v : Value} (hv : l[i]? = some v) : ∃ v', l'[i]? = some v' ∧ VR m v v' := by
  have hi : i < l.length := by
    rcases Nat.lt_or_ge i l.length with hlt | hge
    · exact hlt
    · rw [List.getElem?_eq_none hge] at hv; cases hv
  have hi' : i < l'.length := h.1 ▸ hi
  exact ⟨l'[i], List.getElem?_eq_getElem hi', h.2 i v _ hv (List.getElem?_eq_getElem hi')⟩
theorem VRs.append {m : Mp} {a a' b b' : List Value} (h : VRs m a a') (k : VRs m b b') : VRs m (a ++ b) (a' ++ b') := by
  refine ⟨by simp [h.1, k.1], fun i v v' e e' => ?_⟩
  by_cases hi : i < a.length
  · rw [List.getElem?_append_left hi] at e
    rw [List.getElem?_append_left (h.1 ▸ hi)] at e'
    exact h.2 i v v' e e'
  · rw [List.getElem?_append_right (by omega)] at e
    rw [List.getElem?_append_right (by have := h.1; omega), ← h.1] at e'
    exact k.2 _ v v' e e'
theorem VRs.take {m : Mp} {l l' : List Value} (h : VRs m l l') (n : Nat) : VRs m (l.take n) (l'.take n) := by
  refine ⟨by simp [h.1], fun i v v' e e' => ?_⟩
  simp only [List.getElem?_take] at e e'
  split at e
  · simp_all; exact h.2 i v v' e e'
  · cases e
theorem VRs.drop {m : Mp} {l l' : List Value} (h : VRs m l l') (n : Nat) : VRs m (l.drop n) (l'.drop n) :=
  ⟨by simp [h.1], fun i v v' e e' => h.2 (n + i) v v' (by simpa using e) (by simpa using e')⟩
theorem VRs.set {m : Mp} {l l' : List Value} (h : VRs m l l') (n : Nat) {x x' : Value} (hx : VR m x x') : VRs m (l.set n x) (l'.set n x') := by
  refine ⟨by simp [h.1], fun i v v' e e' => ?_⟩
  simp only [List.getElem?_set] at e e'
  rw [← h.1] at e'
  by_cases hi : n = i
  · subst hi
    by_cases hl : n < l.length
    · simp [hl] at e e'; subst e; subst e'; exact hx
    · simp [hl] at e
  · simp [hi] at e e'; exact h.2 i v v' e e'
theorem VRs.agg {m : Mp} {l l' : List Value} (h : VRs m l l') : VR m (.agg ⟨l⟩) (.agg ⟨l'⟩) := .agg h.1 h.2
theorem VRs.tuple {m : Mp} {l l' : List Value} (h : VRs m l l') : VR m (.tuple ⟨l⟩) (.tuple ⟨l'⟩) := .tuple h.1 h.2
theorem VR.undef (m : Mp) : VR m undef undef := .tuple rfl (fun i v v' h => by simp at h)

/-- No address in it. -/
def plainB : Nat → Value → Bool
  | 0, _ => false
  | d + 1, v => match v with
    | .bool _ | .int _ _ | .float _ _ | .string _ | .pointer none | .slice none _ _ | .map none | .nilFunc | .nilIface => true
    | .agg cs => cs.toList.all (plainB d)
    | .tuple cs => cs.toList.all (plainB d)
    | .iface _ x => plainB d x
    | .func (.func f) fs cs => !symF f && (fs.toList.all (plainB d) && cs.toList.all (plainB d))
    | _ => false

/-- No local address in it. -/
def noLocB : Nat → Value → Bool
  | 0, _ => false
  | d + 1, v => match v with
    | .pointer (some a) => a.spot.isNone
    | .slice (some a) _ _ => a.spot.isNone
    | .agg cs => cs.toList.all (noLocB d)
    | .tuple cs => cs.toList.all (noLocB d)
    | .iface _ x => noLocB d x
    | .func (.func f) fs cs => bif symF f then true else fs.toList.all (noLocB d) && cs.toList.all (noLocB d)
    | .func _ fs cs => fs.toList.all (noLocB d) && cs.toList.all (noLocB d)
    | _ => true

theorem list_eq_of {l l' : List Value} (hl : l.length = l'.length) (h : ∀ (i : Nat) (v v' : Value), l[i]? = some v → l'[i]? = some v' → v = v') : l = l' := by
  apply List.ext_getElem? 
  intro i
  by_cases hi : i < l.length
  · have hi' : i < l'.length := hl ▸ hi
    rw [List.getElem?_eq_getElem hi, List.getElem?_eq_getElem hi', h i _ _ (List.getElem?_eq_getElem hi) (List.getElem?_eq_getElem hi')]
  · rw [List.getElem?_eq_none (by omega), List.getElem?_eq_none (by omega)]

theorem plain_eq {m : Mp} : ∀ (d : Nat) (v v' : Value), plainB d v = true → VR m v v' → v = v'
  | 0, _, _, h, _ => by simp [plainB] at h
  | d + 1, v, v', h, hv => by
    cases hv with
    | agg hl hh =>
      simp only [plainB, List.all_eq_true] at h
      rw [list_eq_of hl fun i a b ha hb => plain_eq d a b (h a (List.mem_of_getElem? ha)) (hh i a b ha hb)]
    | tuple hl hh =>
      simp only [plainB, List.all_eq_true] at h
      rw [list_eq_of hl fun i a b ha hb => plain_eq d a b (h a (List.mem_of_getElem? ha)) (hh i a b ha hb)]
    | iface hh => simp only [plainB] at h; rw [plain_eq d _ _ h hh]
    | symI hf _ => simp [plainB, hf] at h
    | symB hf _ => simp [plainB, hf] at h
    | func hf hl hh hl2 hh2 =>
      simp only [plainB, Bool.and_eq_true, List.all_eq_true] at h
      replace h := h.2
      rw [list_eq_of hl fun i a b ha hb => plain_eq d a b (h.1 a (List.mem_of_getElem? ha)) (hh i a b ha hb), list_eq_of hl2 fun i a b ha hb => plain_eq d a b (h.2 a (List.mem_of_getElem? ha)) (hh2 i a b ha hb)]
    | _ => first | rfl | (simp [plainB] at h)

theorem plain_vr (m : Mp) : ∀ (d : Nat) (v : Value), plainB d v = true → VR m v v
  | 0, _, h => by simp [plainB] at h
  | d + 1, v, h => by
    unfold plainB at h
    split at h
    · exact .bool _
    · exact .int _ _
    · exact .float _ _
    · exact .string _
    · exact .ptrN
    · exact .sliceN _ _
    · exact .mapN
    · exact .nilFunc
    · exact .nilIface
    · rename_i cs
      obtain ⟨l⟩ := cs
      simp only [List.all_eq_true] at h
      exact .agg rfl fun i a b ha hb => by rw [ha] at hb; injection hb with hb; subst hb; exact plain_vr m d a (h a (List.mem_of_getElem? ha))
    · rename_i cs
      obtain ⟨l⟩ := cs
      simp only [List.all_eq_true] at h
      exact .tuple rfl fun i a b ha hb => by rw [ha] at hb; injection hb with hb; subst hb; exact plain_vr m d a (h a (List.mem_of_getElem? ha))
    · exact .iface (plain_vr m d _ h)
    · rename_i f fs cs
      obtain ⟨l⟩ := fs
      obtain ⟨l2⟩ := cs
      simp only [Bool.and_eq_true, List.all_eq_true] at h
      have hf : symF f = false := by simpa using h.1
      replace h := h.2
      exact .func hf rfl (fun i a b ha hb => by rw [ha] at hb; injection hb with hb; subst hb; exact plain_vr m d a (h.1 a (List.mem_of_getElem? ha))) rfl
        (fun i a b ha hb => by rw [ha] at hb; injection hb with hb; subst hb; exact plain_vr m d a (h.2 a (List.mem_of_getElem? ha)))
    · cases h

/-- The local map is nothing to a value without local addresses. -/
theorem noLoc_vr {m m' : Mp} (hg : m'.gb = m.gb) (h1 : m'.loose = m.loose) (h2 : m'.esz = m.esz) (h3 : m'.tot = m.tot) (h4 : m'.env = m.env) :
    ∀ (d : Nat) (v v' : Value), noLocB d v = true → VR m v v' → VR m' v v'
  | 0, _, _, h, _ => by simp [noLocB] at h
  | d + 1, v, v', h, hv => by
    cases hv with
    | bool b => exact .bool b
    | int k n => exact .int k n
    | float k n => exact .float k n
    | string s => exact .string s
    | ptrN => exact .ptrN
    | ptrG e => exact .ptrG (hg ▸ e)
    | ptrL _ => simp [noLocB] at h
    | sliceN n c => exact .sliceN n c
    | sliceG e => exact .sliceG (hg ▸ e)
    | sliceO e hl hc ht => exact .sliceO (hg ▸ e) (h1 ▸ hl) hc (by rw [h2, h3]; exact ht)
    | sliceE e hl => exact .sliceE (hg ▸ e) (h1 ▸ hl)
    | sliceL _ => simp [noLocB] at h
    | mapN => exact .mapN
    | nilFunc => exact .nilFunc
    | nilIface => exact .nilIface
    | symI hf hh => exact .symI hf (by rw [h4]; exact hh)
    | symB hf hh => exact .symB hf (by rw [h4]; exact hh)
    | func hf hl hh hl2 hh2 =>
      simp only [noLocB, hf, cond_false, Bool.and_eq_true, List.all_eq_true] at h
      exact .func hf hl (fun i a b ha hb => noLoc_vr hg h1 h2 h3 h4 d a b (h.1 a (List.mem_of_getElem? ha)) (hh i a b ha hb)) hl2
        (fun i a b ha hb => noLoc_vr hg h1 h2 h3 h4 d a b (h.2 a (List.mem_of_getElem? ha)) (hh2 i a b ha hb))
    | iface hh => simp only [noLocB] at h; exact .iface (noLoc_vr hg h1 h2 h3 h4 d _ _ h hh)
    | agg hl hh =>
      simp only [noLocB, List.all_eq_true] at h
      exact .agg hl (fun i a b ha hb => noLoc_vr hg h1 h2 h3 h4 d a b (h a (List.mem_of_getElem? ha)) (hh i a b ha hb))
    | tuple hl hh =>
      simp only [noLocB, List.all_eq_true] at h
      exact .tuple hl (fun i a b ha hb => noLoc_vr hg h1 h2 h3 h4 d a b (h a (List.mem_of_getElem? ha)) (hh i a b ha hb))

/-- No address in it; symbols may be. -/
def plainSB : Nat → Value → Bool
  | 0, _ => false
  | d + 1, v => match v with
    | .bool _ | .int _ _ | .float _ _ | .string _ | .pointer none | .slice none _ _ | .map none | .nilFunc | .nilIface => true
    | .agg cs => cs.toList.all (plainSB d)
    | .tuple cs => cs.toList.all (plainSB d)
    | .func (.func f) _ _ => symF f
    | _ => false
theorem plainS_vr {m m' : Mp} (h4 : m'.env = m.env) : ∀ (d : Nat) (v v' : Value), plainSB d v = true → VR m v v' → VR m' v v'
  | 0, _, _, h, _ => by simp [plainSB] at h
  | d + 1, v, v', h, hv => by
    cases hv with
    | bool b => exact .bool b
    | int k n => exact .int k n
    | float k n => exact .float k n
    | string s => exact .string s
    | ptrN => exact .ptrN
    | sliceN n c => exact .sliceN n c
    | mapN => exact .mapN
    | nilFunc => exact .nilFunc
    | nilIface => exact .nilIface
    | symI hf hh => exact .symI hf (by rw [h4]; exact hh)
    | symB hf hh => exact .symB hf (by rw [h4]; exact hh)
    | func hf _ _ _ _ => simp [plainSB, hf] at h
    | agg hl hh =>
      simp only [plainSB, List.all_eq_true] at h
      exact .agg hl (fun i a b ha hb => plainS_vr h4 d a b (h a (List.mem_of_getElem? ha)) (hh i a b ha hb))
    | tuple hl hh =>
      simp only [plainSB, List.all_eq_true] at h
      exact .tuple hl (fun i a b ha hb => plainS_vr h4 d a b (h a (List.mem_of_getElem? ha)) (hh i a b ha hb))
    | _ => simp [plainSB] at h

/-- A run that asks nothing of the world. -/
def runPure {α : Type} (P : Program) : Sem α → Option α
  | .pure a => some a
  | .program k => runPure P (k P)
  | .mark _ k => runPure P k
  | _ => none

theorem runPure_run {α : Type} {P : Program} : ∀ (s : Sem α) (a : α) (w : World), runPure P s = some a → s.run P w = .ok a w
  | .pure x, a, w, h => by simp only [runPure, Option.some.injEq] at h; subst h; rfl
  | .program k, a, w, h => by simp only [runPure] at h; exact runPure_run (k P) a w h
  | .mark _ k, a, w, h => by simp only [runPure] at h; exact runPure_run k a w h
  | .load .., _, _, h | .store .., _, _, h | .new .., _, _, h | .shape .., _, _, h | .freeze .., _, _, h | .frozen .., _, _, h | .getObj .., _, _, h | .setObj .., _, _, h
  | .choose .., _, _, h | .sys .., _, _, h | .halt .., _, _, h => by simp [runPure] at h

end Go.Sm
end

section
/-
  The abstract heap and the world: the relation, and what a new block and a write do to it.
-/
namespace Go.Sm

/-- Without the local blocks. -/
def Mp.noL (m : Mp) : Mp := { m with lb := fun _ => none }
theorem noL_le (m : Mp) : Le m.noL m := ⟨fun _ _ e => e, fun _ _ e => (by cases e), fun _ _ _ => rfl, fun _ _ _ => rfl, fun _ _ _ => rfl, rfl⟩
theorem Le.noL {m m' : Mp} (h : Le m m') : Le m.noL m'.noL := ⟨h.gb, fun _ _ e => (by cases e), h.loose, h.esz, h.tot, h.env⟩

/-- A global block as it lies. -/
structure GR (m : Mp) (i g : Nat) (b : Blk) (w : World) : Prop where
  lo : m.loose i = b.loose
  ez : m.esz i = b.esz
  blk : b.live = true → ∃ cs : Array Value, w.heap[g]? = some (.cells cs b.elem (0, 0)) ∧ b.cells.length ≤ cs.size ∧ VRs m.noL b.cells (cs.toList.take b.cells.length) ∧
    (b.loose = false → cs.size = b.cells.length) ∧ (b.loose = true → m.tot i = cs.size)

/-- A local block as it lies. One that is not live is an iterator over a string. -/
structure LR (m : Mp) (g : Nat) (b : Blk) (w : World) : Prop where
  blk : b.live = true → ∃ cs : Array Value, w.heap[g]? = some (.cells cs b.elem (0, 0)) ∧ VRs m b.cells cs.toList
  it : b.live = false → ∃ (s : ByteArray) (pos : Nat), b.cells = [.string s, .int .i64 (pos : Int)] ∧ w.heap[g]? = some (.stringIter s pos)

structure Rel (m : Mp) (H loc : Hp) (w : World) : Prop where
  glob : ∀ i g, m.gb i = some g → g < w.heap.size ∧ ∃ b, H[i]? = some b ∧ GR m i g b w
  locs : ∀ i g, m.lb i = some g → g < w.heap.size ∧ ∃ b, loc[i]? = some b ∧ LR m g b w
  ginj : ∀ i j g bi bj, m.gb i = some g → m.gb j = some g → H[i]? = some bi → H[j]? = some bj → bi.live = true → bj.live = true → i = j
  linj : ∀ i j g, m.lb i = some g → m.lb j = some g → i = j
  disj : ∀ i j g, m.gb i = some g → m.lb j = some g → False

/-- What a step may do. wg, wl: the blocks that it may have written. -/
structure Ext (m : Mp) (H loc : Hp) (w : World) (m' : Mp) (H' loc' : Hp) (w' : World) (wg wl : List Nat) : Prop where
  le : Le m m'
  rel : Rel m' H' loc' w'
  img : ∀ i g, m'.gb i = some g → (∃ j, m.gb j = some g) ∨ w.heap.size ≤ g
  imgl : ∀ i g, m'.lb i = some g → m.lb i = some g ∨ w.heap.size ≤ g
  dom : ∀ i g, m'.gb i = some g → m.gb i = some g ∨ (H.length ≤ i ∧ i < H'.length)
  doml : ∀ i g, m'.lb i = some g → m.lb i = some g ∨ (loc.length ≤ i ∧ i < loc'.length)
  os : w'.os = w.os
  tape : w'.tape = w.tape
  output : w'.output = w.output
  size : w.heap.size ≤ w'.heap.size
  frame : ∀ g, g < w.heap.size → (∀ i, m.gb i ≠ some g) → (∀ i, m.lb i ≠ some g) → w'.heap[g]? = w.heap[g]?
  un : ∀ i, i < H.length → m.gb i = none → H'[i]? = H[i]?
  unl : ∀ i, i < loc.length → m.lb i = none → loc'[i]? = loc[i]?
  mod : ∀ i, i < H.length → i ∉ wg → H'[i]? = H[i]?
  modl : ∀ i, i < loc.length → i ∉ wl → loc'[i]? = loc[i]?
  len : H.length ≤ H'.length
  lenl : loc.length ≤ loc'.length
  kp : ∀ (i : Nat) (b : Blk), H[i]? = some b → ∃ b', H'[i]? = some b' ∧ b'.esz = b.esz ∧ b'.loose = b.loose
  cmod : ∀ (i g : Nat) (b : Blk), m.gb i = some g → H[i]? = some b → b.live = true → i ∉ wg → w'.heap[g]? = w.heap[g]?

theorem Ext.refl {m : Mp} {H loc : Hp} {w : World} (h : Rel m H loc w) : Ext m H loc w m H loc w [] [] :=
  ⟨Le.refl m, h, fun i _ e => .inl ⟨i, e⟩, fun _ _ e => .inl e, fun _ _ e => .inl e, fun _ _ e => .inl e, rfl, rfl, rfl, Nat.le_refl _, fun _ _ _ _ => rfl, fun _ _ _ => rfl, fun _ _ _ => rfl,
   fun _ _ _ => rfl, fun _ _ _ => rfl, Nat.le_refl _, Nat.le_refl _, fun _ b e => ⟨b, e, rfl, rfl⟩, fun _ _ _ _ _ _ _ => rfl⟩

theorem Ext.trans {m m' m'' : Mp} {H H' H'' loc loc' loc'' : Hp} {w w' w'' : World} {a b c d : List Nat}
    (h : Ext m H loc w m' H' loc' w' a b) (k : Ext m' H' loc' w' m'' H'' loc'' w'' c d) : Ext m H loc w m'' H'' loc'' w'' (a ++ c) (b ++ d) where
  le := h.le.trans k.le
  rel := k.rel
  img := fun i g e => by
    rcases k.img i g e with ⟨j, e'⟩ | e'
    · exact h.img j g e'
    · exact .inr (Nat.le_trans h.size e')
  imgl := fun i g e => by
    rcases k.imgl i g e with e' | e'
    · exact h.imgl i g e'
    · exact .inr (Nat.le_trans h.size e')
  dom := fun i g e => by
    rcases k.dom i g e with e' | ⟨e1, e2⟩
    · rcases h.dom i g e' with e'' | ⟨e1, e2⟩
      · exact .inl e''
      · exact .inr ⟨e1, Nat.lt_of_lt_of_le e2 k.len⟩
    · exact .inr ⟨Nat.le_trans h.len e1, e2⟩
  doml := fun i g e => by
    rcases k.doml i g e with e' | ⟨e1, e2⟩
    · rcases h.doml i g e' with e'' | ⟨e1, e2⟩
      · exact .inl e''
      · exact .inr ⟨e1, Nat.lt_of_lt_of_le e2 k.lenl⟩
    · exact .inr ⟨Nat.le_trans h.lenl e1, e2⟩
  os := k.os.trans h.os
  tape := k.tape.trans h.tape
  output := k.output.trans h.output
  size := Nat.le_trans h.size k.size
  frame := fun g hg hn hl => by
    have hn' : ∀ i, m'.gb i ≠ some g := fun i e => by
      rcases h.img i g e with ⟨j, e'⟩ | e'
      · exact hn j e'
      · omega
    have hl' : ∀ i, m'.lb i ≠ some g := fun i e => by
      rcases h.imgl i g e with e' | e'
      · exact hl i e'
      · omega
    exact (k.frame g (Nat.lt_of_lt_of_le hg h.size) hn' hl').trans (h.frame g hg hn hl)
  un := fun i hi hn => by
    have hn' : m'.gb i = none := by
      cases e : m'.gb i with
      | none => rfl
      | some g =>
        rcases h.dom i g e with e' | ⟨e1, _⟩
        · rw [hn] at e'; cases e'
        · omega
    exact (k.un i (Nat.lt_of_lt_of_le hi h.len) hn').trans (h.un i hi hn)
  unl := fun i hi hn => by
    have hn' : m'.lb i = none := by
      cases e : m'.lb i with
      | none => rfl
      | some g =>
        rcases h.doml i g e with e' | ⟨e1, _⟩
        · rw [hn] at e'; cases e'
        · omega
    exact (k.unl i (Nat.lt_of_lt_of_le hi h.lenl) hn').trans (h.unl i hi hn)
  mod := fun i hi hn => by
    simp only [List.mem_append, not_or] at hn
    exact (k.mod i (Nat.lt_of_lt_of_le hi h.len) hn.2).trans (h.mod i hi hn.1)
  modl := fun i hi hn => by
    simp only [List.mem_append, not_or] at hn
    exact (k.modl i (Nat.lt_of_lt_of_le hi h.lenl) hn.2).trans (h.modl i hi hn.1)
  len := Nat.le_trans h.len k.len
  lenl := Nat.le_trans h.lenl k.lenl
  kp := fun i x e => by
    obtain ⟨y, e1, e2, e3⟩ := h.kp i x e
    obtain ⟨z, f1, f2, f3⟩ := k.kp i y e1
    exact ⟨z, f1, f2.trans e2, f3.trans e3⟩
  cmod := fun i g x e hx hl hn => by
    simp only [List.mem_append, not_or] at hn
    have hlt : i < H.length := (List.getElem?_eq_some_iff.1 hx).1
    exact (k.cmod i g x (h.le.gb i g e) ((h.mod i hlt hn.1).trans hx) hl hn.2).trans (h.cmod i g x e hx hl hn.1)

theorem Rel.unG {m : Mp} {H loc : Hp} {w : World} (h : Rel m H loc w) {i : Nat} (hi : H.length ≤ i) : m.gb i = none := by
  cases e : m.gb i with
  | none => rfl
  | some g =>
    obtain ⟨_, b, hb, _⟩ := h.glob i g e
    rw [List.getElem?_eq_none hi] at hb; cases hb
theorem Rel.unL {m : Mp} {H loc : Hp} {w : World} (h : Rel m H loc w) {i : Nat} (hi : loc.length ≤ i) : m.lb i = none := by
  cases e : m.lb i with
  | none => rfl
  | some g =>
    obtain ⟨_, b, hb, _⟩ := h.locs i g e
    rw [List.getElem?_eq_none hi] at hb; cases hb

/-- One global block more. -/
def Mp.addG (m : Mp) (i g : Nat) (lo : Bool) (ez tt : Nat) : Mp :=
  { m with gb := fun j => if j = i then some g else m.gb j, loose := fun j => if j = i then lo else m.loose j, esz := fun j => if j = i then ez else m.esz j, tot := fun j => if j = i then tt else m.tot j }
def Mp.addL (m : Mp) (i g : Nat) : Mp := { m with lb := fun j => if j = i then some g else m.lb j }

theorem le_addG {m : Mp} {i g : Nat} {lo : Bool} {ez tt : Nat} (h : m.gb i = none) : Le m (m.addG i g lo ez tt) := by
  have hne : ∀ j g', m.gb j = some g' → j ≠ i := fun j g' e hh => by subst hh; rw [h] at e; cases e
  exact ⟨fun j g' e => by simp [Mp.addG, hne j g' e, e], fun _ _ e => e, fun j g' e => by simp [Mp.addG, hne j g' e], fun j g' e => by simp [Mp.addG, hne j g' e], fun j g' e => by simp [Mp.addG, hne j g' e], rfl⟩
theorem le_addL {m : Mp} {i g : Nat} (h : m.lb i = none) : Le m (m.addL i g) := by
  have hne : ∀ j g', m.lb j = some g' → j ≠ i := fun j g' e hh => by subst hh; rw [h] at e; cases e
  exact ⟨fun _ _ e => e, fun j g' e => by simp [Mp.addL, hne j g' e, e], fun _ _ _ => rfl, fun _ _ _ => rfl, fun _ _ _ => rfl, rfl⟩

theorem GR.mono {m m' : Mp} {i g : Nat} {b : Blk} {w w' : World} (h : GR m i g b w) (hm : Le m m') (hi : m.gb i = some g) (hw : b.live = true → w'.heap[g]? = w.heap[g]?) : GR m' i g b w' := by
  refine ⟨(hm.loose i g hi).trans h.lo, (hm.esz i g hi).trans h.ez, fun hl => ?_⟩
  obtain ⟨cs, h1, h2, h3, h4, h5⟩ := h.blk hl
  exact ⟨cs, (hw hl).trans h1, h2, h3.mono hm.noL, h4, fun e => (hm.tot i g hi).trans (h5 e)⟩
theorem LR.mono {m m' : Mp} {g : Nat} {b : Blk} {w w' : World} (h : LR m g b w) (hm : Le m m') (hw : w'.heap[g]? = w.heap[g]?) : LR m' g b w' := by
  refine ⟨fun hl => ?_, fun hl => ?_⟩
  · obtain ⟨cs, h1, h2⟩ := h.blk hl
    exact ⟨cs, hw.trans h1, h2.mono hm⟩
  · obtain ⟨s, pos, h1, h2⟩ := h.it hl
    exact ⟨s, pos, h1, hw.trans h2⟩

theorem heap_alloc_lt (w : World) (o : Obj) {k : Nat} (h : k < w.heap.size) : (w.alloc o).heap[k]? = w.heap[k]? := Go.RowKit.Below.heap_alloc w o k h

theorem ext_newG {m : Mp} {H loc : Hp} {w : World} (h : Rel m H loc w) (b : Blk) (cs : Array Value)
    (h1 : b.cells.length ≤ cs.size) (h2 : VRs m.noL b.cells (cs.toList.take b.cells.length)) (h3 : b.loose = false → cs.size = b.cells.length) :
    Ext m H loc w (m.addG H.length w.heap.size b.loose b.esz cs.size) (H ++ [b]) loc (w.alloc (.cells cs b.elem)) [] [] := by
  have hun := h.unG (Nat.le_refl H.length)
  have hle : Le m (m.addG H.length w.heap.size b.loose b.esz cs.size) := le_addG hun
  have hlt : ∀ i g, m.gb i = some g → i < H.length := fun i g e => by
    rcases Nat.lt_or_ge i H.length with hh | hh
    · exact hh
    · rw [h.unG hh] at e; cases e
  have hcase : ∀ i g, (m.addG H.length w.heap.size b.loose b.esz cs.size).gb i = some g → (i = H.length ∧ g = w.heap.size) ∨ (i ≠ H.length ∧ m.gb i = some g) := fun i g e => by
    simp only [Mp.addG] at e
    split at e
    · rename_i hi; injection e with e; exact .inl ⟨hi, e.symm⟩
    · rename_i hi; exact .inr ⟨hi, e⟩
  refine ⟨hle, ⟨fun i g e => ?_, fun i g e => ?_, ?_, fun i j g e e' => h.linj i j g e e', ?_⟩, ?_, fun i g e => .inl e, ?_, fun i g e => .inl e, rfl, rfl, rfl, by simp, fun g hg _ _ => heap_alloc_lt w _ hg,
    fun i hi _ => by rw [List.getElem?_append_left hi], fun _ _ _ => rfl, fun i hi _ => by rw [List.getElem?_append_left hi], fun _ _ _ => rfl, by simp, Nat.le_refl _, fun i x e => ⟨x, by rw [List.getElem?_append_left (List.getElem?_eq_some_iff.1 e).1]; exact e, rfl, rfl⟩, fun i g x e _ _ _ => heap_alloc_lt w _ (h.glob i g e).1⟩
  · rcases hcase i g e with ⟨rfl, rfl⟩ | ⟨hi, e'⟩
    · refine ⟨by simp, b, by simp, ⟨by simp [Mp.addG], by simp [Mp.addG], fun _ => ⟨cs, heap_alloc_new w _, h1, h2.mono hle.noL, h3, fun _ => by simp [Mp.addG]⟩⟩⟩
    · obtain ⟨hg, b', hb', hG⟩ := h.glob i g e'
      exact ⟨by simp; omega, b', by rw [List.getElem?_append_left (hlt i g e')]; exact hb', hG.mono hle e' (fun _ => heap_alloc_lt w _ hg)⟩
  · obtain ⟨hg, b', hb', hL⟩ := h.locs i g e
    exact ⟨by simp; omega, b', hb', hL.mono hle (heap_alloc_lt w _ hg)⟩
  · intro i j g bi bj e e' hi hj li lj
    rcases hcase i g e with ⟨rfl, rfl⟩ | ⟨ni, ei⟩ <;> rcases hcase j _ e' with ⟨rfl, hh⟩ | ⟨nj, ej⟩
    · rfl
    · have := (h.glob j _ ej).1; omega
    · have := (h.glob i g ei).1; omega
    · rw [List.getElem?_append_left (hlt i g ei)] at hi
      rw [List.getElem?_append_left (hlt j g ej)] at hj
      exact h.ginj i j g bi bj ei ej hi hj li lj
  · intro i j g e e'
    rcases hcase i g e with ⟨rfl, rfl⟩ | ⟨_, ei⟩
    · have := (h.locs j _ e').1; omega
    · exact h.disj i j g ei e'
  · intro i g e
    rcases hcase i g e with ⟨_, rfl⟩ | ⟨_, ei⟩
    · exact .inr (Nat.le_refl _)
    · exact .inl ⟨i, ei⟩
  · intro i g e
    rcases hcase i g e with ⟨rfl, _⟩ | ⟨_, ei⟩
    · exact .inr ⟨Nat.le_refl _, by simp⟩
    · exact .inl ei

theorem ext_newLO {m : Mp} {H loc : Hp} {w : World} (h : Rel m H loc w) (b : Blk) (obj : Obj) (h2 : LR (m.addL loc.length w.heap.size) w.heap.size b (w.alloc obj)) :
    Ext m H loc w (m.addL loc.length w.heap.size) H (loc ++ [b]) (w.alloc obj) [] [] := by
  have hun := h.unL (Nat.le_refl loc.length)
  have hle : Le m (m.addL loc.length w.heap.size) := le_addL hun
  have hlt : ∀ i g, m.lb i = some g → i < loc.length := fun i g e => by
    rcases Nat.lt_or_ge i loc.length with hh | hh
    · exact hh
    · rw [h.unL hh] at e; cases e
  have hcase : ∀ i g, (m.addL loc.length w.heap.size).lb i = some g → (i = loc.length ∧ g = w.heap.size) ∨ (i ≠ loc.length ∧ m.lb i = some g) := fun i g e => by
    simp only [Mp.addL] at e
    split at e
    · rename_i hi; injection e with e; exact .inl ⟨hi, e.symm⟩
    · rename_i hi; exact .inr ⟨hi, e⟩
  refine ⟨hle, ⟨fun i g e => ?_, fun i g e => ?_, fun i j g bi bj e e' hi hj li lj => h.ginj i j g bi bj e e' hi hj li lj, ?_, ?_⟩, fun i g e => .inl ⟨i, e⟩, ?_, fun i g e => .inl e, ?_, rfl, rfl, rfl, by simp,
    fun g hg _ _ => heap_alloc_lt w _ hg, fun _ _ _ => rfl, fun i hi _ => by rw [List.getElem?_append_left hi], fun _ _ _ => rfl, fun i hi _ => by rw [List.getElem?_append_left hi], Nat.le_refl _, by simp, fun _ x e => ⟨x, e, rfl, rfl⟩, fun i g x e _ _ _ => heap_alloc_lt w _ (h.glob i g e).1⟩
  · obtain ⟨hg, b', hb', hG⟩ := h.glob i g e
    exact ⟨by simp; omega, b', hb', hG.mono hle e (fun _ => heap_alloc_lt w _ hg)⟩
  · rcases hcase i g e with ⟨rfl, rfl⟩ | ⟨hi, e'⟩
    · exact ⟨by simp, b, by simp, h2⟩
    · obtain ⟨hg, b', hb', hL⟩ := h.locs i g e'
      exact ⟨by simp; omega, b', by rw [List.getElem?_append_left (hlt i g e')]; exact hb', hL.mono hle (heap_alloc_lt w _ hg)⟩
  · intro i j g e e'
    rcases hcase i g e with ⟨rfl, rfl⟩ | ⟨ni, ei⟩ <;> rcases hcase j _ e' with ⟨rfl, hh⟩ | ⟨nj, ej⟩
    · rfl
    · have := (h.locs j _ ej).1; omega
    · have := (h.locs i g ei).1; omega
    · exact h.linj i j g ei ej
  · intro i j g e e'
    rcases hcase j g e' with ⟨rfl, rfl⟩ | ⟨_, ej⟩
    · have := (h.glob i _ e).1; omega
    · exact h.disj i j g e ej
  · intro i g e
    rcases hcase i g e with ⟨_, rfl⟩ | ⟨_, ei⟩
    · exact .inr (Nat.le_refl _)
    · exact .inl ei
  · intro i g e
    rcases hcase i g e with ⟨rfl, _⟩ | ⟨_, ei⟩
    · exact .inr ⟨Nat.le_refl _, by simp⟩
    · exact .inl ei

theorem ext_newL {m : Mp} {H loc : Hp} {w : World} (h : Rel m H loc w) (b : Blk) (cs : Array Value) (hl : b.live = true) (h2 : VRs m b.cells cs.toList) :
    Ext m H loc w (m.addL loc.length w.heap.size) H (loc ++ [b]) (w.alloc (.cells cs b.elem)) [] [] :=
  ext_newLO h b _ ⟨fun _ => ⟨cs, heap_alloc_new w _, h2.mono (le_addL (h.unL (Nat.le_refl _)))⟩, fun e => by rw [hl] at e; cases e⟩

/-- Cells written over a list's. -/
def splice (l : List Value) (o : Nat) (vs : List Value) : List Value := l.take o ++ vs ++ l.drop (o + vs.length)

theorem splice_length {l : List Value} {o : Nat} {vs : List Value} (h : o + vs.length ≤ l.length) : (splice l o vs).length = l.length := by
  simp [splice]; omega
theorem VRs.splice {m : Mp} {l l' vs vs' : List Value} (h : VRs m l l') (o : Nat) (hv : VRs m vs vs') : VRs m (splice l o vs) (splice l' o vs') := by
  unfold Sm.splice
  rw [← hv.1]
  exact ((h.take o).append hv).append (h.drop _)
theorem splice_take {l vs : List Value} {o n : Nat} (h : o + vs.length ≤ n) (hn : n ≤ l.length) : (splice l o vs).take n = splice (l.take n) o vs := by
  unfold splice
  have e1 : (l.take o ++ vs).length = o + vs.length := by simp; omega
  rw [List.take_append, e1, List.take_of_length_le (by rw [e1]; exact h), List.take_take, List.drop_take, Nat.min_eq_left (by omega : o ≤ n)]

theorem size_setRow' (w : World) (g : Nat) (cs : Array Value) : (w.setRow g cs).heap.size = w.heap.size := size_setRow w g cs

theorem getElem?_set_self' {H : Hp} {i : Nat} {b x : Blk} (h : H[i]? = some b) : (H.set i x)[i]? = some x := by
  have : i < H.length := by
    rcases Nat.lt_or_ge i H.length with hh | hh
    · exact hh
    · rw [List.getElem?_eq_none hh] at h; cases h
  simp [this]

/-- A write into a live global block, within its cells. -/
theorem ext_writeG {m : Mp} {H loc : Hp} {w : World} (h : Rel m H loc w) {i g : Nat} {b : Blk} (hi : m.gb i = some g) (hb : H[i]? = some b) (hlive : b.live = true)
    {cs : Array Value} (hcs : w.heap[g]? = some (.cells cs b.elem (0, 0))) (o : Nat) {vs vs' : List Value} (ho : o + vs.length ≤ b.cells.length) (hv : VRs m.noL vs vs') :
    Ext m H loc w m (H.set i { b with cells := splice b.cells o vs }) loc (w.setRow g (splice cs.toList o vs').toArray) [i] [] := by
  obtain ⟨hg, b0, hb0, hG⟩ := h.glob i g hi
  rw [hb] at hb0; injection hb0 with hb0; subst hb0
  obtain ⟨cs0, e1, e2, e3, e4, e5⟩ := hG.blk hlive
  rw [hcs] at e1; injection e1 with e1; injection e1 with e1; subst e1
  have hother : ∀ k, k ≠ g → (w.setRow g (splice cs.toList o vs').toArray).heap[k]? = w.heap[k]? := fun k hk => setRow_other w g k _ hk
  refine ⟨Le.refl m, ⟨fun j g' e => ?_, fun j g' e => ?_, ?_, h.linj, h.disj⟩, fun j g' e => .inl ⟨j, e⟩, fun _ _ e => .inl e, fun _ _ e => .inl e, fun _ _ e => .inl e, rfl, rfl, rfl, by simp,
    fun g' hg' hn _ => hother g' (fun e => hn i (e ▸ hi)), fun j hj hn => ?_, fun _ _ _ => rfl, fun j hj hn => ?_, fun _ _ _ => rfl, by simp, Nat.le_refl _, fun j x e => ?_, fun j g' x e hx hl hn => hother g' (fun he => by subst he; exact hn (by simp [h.ginj j i _ x b e hi hx hb hl hlive]))⟩
  · by_cases hj : j = i
    · subst hj
      rw [hi] at e; injection e with e; subst e
      refine ⟨by simpa using hg, _, getElem?_set_self' hb, ⟨hG.lo, hG.ez, fun _ => ⟨_, setRow_heap w g cs _ _ _ hcs, ?_, ?_, ?_, ?_⟩⟩⟩
      · have := hv.1
        simp only [List.size_toArray]
        rw [splice_length ho, splice_length (by simp; omega)]
        simpa using e2
      · simp only [splice_length ho]
        rw [splice_take (by rw [← hv.1]; exact ho) (by simpa using e2)]
        exact e3.splice o hv
      · intro hl
        have := hv.1
        simp only [List.size_toArray]
        rw [splice_length ho, splice_length (by simp; omega)]
        simpa using e4 hl
      · intro hl
        have := hv.1
        simp only [List.size_toArray]
        rw [splice_length (by simp; omega)]
        simpa using e5 hl
    · obtain ⟨hg', b', hb', hG'⟩ := h.glob j g' e
      refine ⟨by simpa using hg', b', by rw [List.getElem?_set_ne (Ne.symm hj)]; exact hb', hG'.mono (Le.refl m) e (fun hl => hother g' (fun he => ?_))⟩
      subst he
      exact hj (h.ginj j i _ b' b e hi hb' hb hl hlive)
  · obtain ⟨hg', b', hb', hL⟩ := h.locs j g' e
    exact ⟨by simpa using hg', b', hb', hL.mono (Le.refl m) (hother g' (fun he => h.disj i j g hi (he ▸ e)))⟩
  · intro a c g' ba bc ea ec ha hc la lc
    have hn : ∀ (x : Nat) (bx : Blk), (H.set i { b with cells := splice b.cells o vs })[x]? = some bx → bx.live = true → ∃ bx' : Blk, H[x]? = some bx' ∧ bx'.live = true := by
      intro x bx hx lx
      by_cases hxi : x = i
      · subst hxi; exact ⟨b, hb, hlive⟩
      · rw [List.getElem?_set_ne (Ne.symm hxi)] at hx; exact ⟨bx, hx, lx⟩
    obtain ⟨ba', ha', la'⟩ := hn a ba ha la
    obtain ⟨bc', hc', lc'⟩ := hn c bc hc lc
    exact h.ginj a c g' ba' bc' ea ec ha' hc' la' lc'
  · rw [List.getElem?_set_ne]
    intro e; subst e; rw [hi] at hn; cases hn
  · rw [List.getElem?_set_ne]
    intro e; subst e; simp at hn
  · by_cases hj : j = i
    · subst hj
      rw [hb] at e; injection e with e; subst e
      exact ⟨_, getElem?_set_self' hb, rfl, rfl⟩
    · exact ⟨x, by rw [List.getElem?_set_ne (Ne.symm hj)]; exact e, rfl, rfl⟩

/-- A local block turned. -/
theorem ext_turnL {m : Mp} {H loc : Hp} {w w' : World} (h : Rel m H loc w) {i g : Nat} {b b' : Blk} (hi : m.lb i = some g) (hb : loc[i]? = some b)
    (hother : ∀ k, k ≠ g → w'.heap[k]? = w.heap[k]?) (hsz : w'.heap.size = w.heap.size) (hos : w'.os = w.os) (htp : w'.tape = w.tape) (hou : w'.output = w.output) (hL' : LR m g b' w') :
    Ext m H loc w m H (loc.set i b') w' [] [i] := by
  refine ⟨Le.refl m, ⟨fun j g' e => ?_, fun j g' e => ?_, h.ginj, h.linj, h.disj⟩, fun j g' e => .inl ⟨j, e⟩, fun _ _ e => .inl e, fun _ _ e => .inl e, fun _ _ e => .inl e, hos, htp, hou, by rw [hsz]; exact Nat.le_refl _,
    fun g' hg' _ hn => hother g' (fun e => hn i (e ▸ hi)), fun _ _ _ => rfl, fun j hj hn => ?_, fun _ _ _ => rfl, fun j hj hn => ?_, Nat.le_refl _, by simp, fun _ x e => ⟨x, e, rfl, rfl⟩, fun j g' x e _ _ _ => hother g' (fun he => h.disj j i g (he ▸ e) hi)⟩
  · obtain ⟨hg', b0, hb', hG'⟩ := h.glob j g' e
    exact ⟨by rw [hsz]; exact hg', b0, hb', hG'.mono (Le.refl m) e (fun _ => hother g' (fun he => h.disj j i g (he ▸ e) hi))⟩
  · by_cases hj : j = i
    · subst hj
      rw [hi] at e; injection e with e; subst e
      exact ⟨by rw [hsz]; exact (h.locs j g hi).1, _, getElem?_set_self' hb, hL'⟩
    · obtain ⟨hg', b0, hb', hL⟩ := h.locs j g' e
      exact ⟨by rw [hsz]; exact hg', b0, by rw [List.getElem?_set_ne (Ne.symm hj)]; exact hb', hL.mono (Le.refl m) (hother g' (fun he => hj (h.linj j i g (he ▸ e) hi)))⟩
  · rw [List.getElem?_set_ne]
    intro e; subst e; rw [hi] at hn; cases hn
  · rw [List.getElem?_set_ne]
    intro e; subst e; simp at hn

/-- A write into a local block. -/
theorem ext_writeL {m : Mp} {H loc : Hp} {w : World} (h : Rel m H loc w) {i g : Nat} {b : Blk} (hi : m.lb i = some g) (hb : loc[i]? = some b) (hlive : b.live = true)
    {cs : Array Value} (hcs : w.heap[g]? = some (.cells cs b.elem (0, 0))) (o : Nat) {vs vs' : List Value} (hv : VRs m vs vs') :
    Ext m H loc w m H (loc.set i { b with cells := splice b.cells o vs }) (w.setRow g (splice cs.toList o vs').toArray) [] [i] := by
  obtain ⟨hg, b0, hb0, hL⟩ := h.locs i g hi
  rw [hb] at hb0; injection hb0 with hb0; subst hb0
  obtain ⟨cs0, e1, e2⟩ := hL.blk hlive
  rw [hcs] at e1; injection e1 with e1; injection e1 with e1; subst e1
  exact ext_turnL h hi hb (fun k hk => setRow_other w g k _ hk) (by simp) rfl rfl rfl
    ⟨fun _ => ⟨_, setRow_heap w g cs _ _ _ hcs, by simpa using e2.splice o hv⟩, fun e => by simp [hlive] at e⟩

end Go.Sm
end

section
/-
  The operations that touch no memory, on abstract values; each does on the concrete ones what it does on these.
-/
namespace Go.Sm

def addA (a : Addr) (n : Nat) : Addr := { a with off := a.off + n }

/-- Two addresses. -/
def AR (m : Mp) (a a' : Addr) : Prop :=
  (a.spot = none ∧ m.gb a.block = some a'.block ∧ a'.off = a.off ∧ a'.spot = none) ∨ (a.spot = some 0 ∧ m.lb a.block = some a'.block ∧ a'.off = a.off ∧ a'.spot = none)

theorem AR.spot {m : Mp} {a a' : Addr} (h : AR m a a') : a'.spot = none := by rcases h with h | h <;> exact h.2.2.2
theorem AR.add {m : Mp} {a a' : Addr} (h : AR m a a') (n : Nat) : AR m (addA a n) (a'.add n) := by
  have e : a'.add n = { a' with off := a'.off + n } := by
    have := h.spot
    obtain ⟨b, o, s⟩ := a'
    simp only at this
    subst this
    unfold Addr.add
    split <;> simp_all
  rw [e]
  rcases h with ⟨h1, h2, h3, h4⟩ | ⟨h1, h2, h3, h4⟩
  · exact .inl ⟨h1, h2, by simp [addA, h3], h4⟩
  · exact .inr ⟨h1, h2, by simp [addA, h3], h4⟩
theorem AR.vr {m : Mp} {a a' : Addr} (h : AR m a a') : VR m (.pointer (some a)) (.pointer (some a')) := by
  obtain ⟨b, o, s⟩ := a
  obtain ⟨b', o', s'⟩ := a'
  rcases h with ⟨h1, h2, h3, h4⟩ | ⟨h1, h2, h3, h4⟩ <;> simp only at h1 h2 h3 h4 <;> subst h1 h3 h4
  · exact .ptrG h2
  · exact .ptrL h2
theorem vr_ptr {m : Mp} {a : Addr} {v' : Value} (h : VR m (.pointer (some a)) v') : ∃ a', v' = .pointer (some a') ∧ AR m a a' := by
  cases h with
  | ptrG e => exact ⟨_, rfl, .inl ⟨rfl, e, rfl, rfl⟩⟩
  | ptrL e => exact ⟨_, rfl, .inr ⟨rfl, e, rfl, rfl⟩⟩

/-- Two slices' places. -/
def SR (m : Mp) (a : Addr) (n c : Nat) (a' : Addr) (c' : Nat) : Prop :=
  (AR m a a' ∧ (c' = c ∨ (a.spot = none ∧ m.loose a.block = true ∧ c ≤ c' ∧ a.off + c' * m.esz a.block ≤ m.tot a.block))) ∨
  (n = 0 ∧ c = 0 ∧ a.spot = none ∧ m.loose a.block = true ∧ ∃ g, m.gb a.block = some g)

theorem vr_slice {m : Mp} {a : Addr} {n c : Nat} {v' : Value} (h : VR m (.slice (some a) n c) v') : ∃ a' c', v' = .slice (some a') n c' ∧ SR m a n c a' c' := by
  cases h with
  | sliceG e => exact ⟨_, _, rfl, .inl ⟨.inl ⟨rfl, e, rfl, rfl⟩, .inl rfl⟩⟩
  | sliceO e hl hc ht => exact ⟨_, _, rfl, .inl ⟨.inl ⟨rfl, e, rfl, rfl⟩, .inr ⟨rfl, hl, hc, ht⟩⟩⟩
  | sliceE e hl => exact ⟨_, _, rfl, .inr ⟨rfl, rfl, rfl, hl, _, e⟩⟩
  | sliceL e => exact ⟨_, _, rfl, .inl ⟨.inr ⟨rfl, e, rfl, rfl⟩, .inl rfl⟩⟩
theorem SR.vr {m : Mp} {a : Addr} {n c : Nat} {a' : Addr} {c' : Nat} (h : SR m a n c a' c') : VR m (.slice (some a) n c) (.slice (some a') n c') := by
  obtain ⟨b, o, s⟩ := a
  rcases h with ⟨har, hc⟩ | ⟨h1, h2, h3, h4, g, h5⟩
  · obtain ⟨b', o', s'⟩ := a'
    rcases har with ⟨h1, h2, h3, h4⟩ | ⟨h1, h2, h3, h4⟩ <;> simp only at h1 h2 h3 h4 <;> subst h1 h3 h4
    · rcases hc with rfl | ⟨_, hl, hc, ht⟩
      · exact .sliceG h2
      · exact .sliceO h2 hl hc ht
    · rcases hc with rfl | ⟨hn, _⟩
      · exact .sliceL h2
      · cases hn
  · simp only at h1 h2 h3 h4 h5
    subst h1 h2 h3
    exact .sliceE h5 h4
theorem vr_int {m : Mp} {k : IntKind} {n : Int} {v' : Value} (h : VR m (.int k n) v') : v' = .int k n := by cases h; rfl
theorem vr_bool {m : Mp} {b : Bool} {v' : Value} (h : VR m (.bool b) v') : v' = .bool b := by cases h; rfl
theorem vr_agg {m : Mp} {cs : Array Value} {v' : Value} (h : VR m (.agg cs) v') : ∃ cs' : Array Value, v' = .agg cs' ∧ VRs m cs.toList cs'.toList := by
  cases h with
  | agg hl hh => exact ⟨_, rfl, hl, hh⟩
theorem vr_tuple {m : Mp} {cs : Array Value} {v' : Value} (h : VR m (.tuple cs) v') : ∃ cs' : Array Value, v' = .tuple cs' ∧ VRs m cs.toList cs'.toList := by
  cases h with
  | tuple hl hh => exact ⟨_, rfl, hl, hh⟩
theorem VRs.agg' {m : Mp} {a a' : Array Value} (h : VRs m a.toList a'.toList) : VR m (.agg a) (.agg a') := by
  obtain ⟨l⟩ := a; obtain ⟨l'⟩ := a'; exact h.agg
theorem vr_cells {m : Mp} {v v' : Value} (h : VR m v v') : VRs m v.cells.toList v'.cells.toList := by
  cases h <;> first | (rename_i hl hh; exact ⟨hl, hh⟩) | exact VRs.cons (by first | exact .bool _ | exact .int _ _ | exact .float _ _ | exact .string _ | exact .ptrN | (exact .ptrG ‹_›) | (exact .ptrL ‹_›) | exact .sliceN _ _ | exact .sliceG ‹_› | exact .sliceO ‹_› ‹_› ‹_› ‹_› | exact .sliceE ‹_› ‹_› | exact .sliceL ‹_› | exact .mapN | exact .nilFunc | exact .nilIface | exact .symI ‹_› ‹_› | exact .symB ‹_› ‹_› | exact .func ‹_› ‹_› ‹_› ‹_› ‹_› | exact .iface ‹_› | exact .tuple ‹_› ‹_›) (VRs.nil m)
theorem vr_oneCell {m : Mp} {v v' : Value} (h : VR m v v') : v'.oneCell' = v.oneCell' := by cases h <;> rfl

/-- The operands of an operation, one by one. -/
def OpR (m : Mp) (ρ ρ' : Operand → Value) (o : Oper) : Prop := ∀ x ∈ o.op.operands, VR m (ρ x) (ρ' x)

def plainV (v : Value) : Bool := plainB 4 v
def noLoc (v : Value) : Bool := noLocB 6 v

def evPlain (P : Program) (o : Oper) (ρ : Operand → Value) : Option Value :=
  bif o.op.operands.toList.all (fun x => plainV (ρ x)) then
    match runPure P (execOp ρ o) with
    | some (.value v) => bif plainV v then some v else none
    | _ => none
  else none

def isAggT (P : Program) (t : TypeId) : Option Bool :=
  match P.underlying t with
  | some (.struct _) => some true
  | some (.array _ _) => some true
  | some _ => some false
  | none => none

def evPart (P : Program) (t : TypeId) (cs : List Value) (off : Nat) : Option Value :=
  match isAggT P t with
  | some true => match P.info? t with
    | some i => some (.agg ⟨(cs.drop off).take i.size⟩)
    | none => none
  | some false => cs[off]?
  | none => none

def bnd (x : Value) (y : Nat) : Option Nat :=
  match x with
  | .int _ i => bif decide (0 ≤ i) && decide (i ≤ (y : Int)) then some i.toNat else none
  | _ => none

def sbounds (len cap : Nat) (lo hi mx : Option Value) : Option (Nat × Nat × Nat) :=
  match (match mx with | some v => bnd v cap | none => some cap) with
  | none => none
  | some m =>
    match (match hi, mx with | some v, _ => bnd v m | none, none => some len | none, some _ => none) with
    | none => none
    | some h =>
      match (match lo with | some v => bnd v h | none => some 0) with
      | none => none
      | some l => bif decide (h ≤ m) then some (l, h, m) else none

def evIndexAddr (P : Program) (t : TypeId) (x i : Value) : Option Value :=
  match P.underlying t, x, i with
  | some (.array len elem), .pointer (some a), .int _ n =>
    match P.info? elem with
    | some ti => bif decide (0 ≤ n) && decide (n < (len : Int)) then some (.pointer (some (addA a (n.toNat * ti.size)))) else none
    | none => none
  | some (.slice elem), .slice (some a) len _, .int _ n =>
    match P.info? elem with
    | some ti => bif decide (0 ≤ n) && decide (n < (len : Int)) then some (.pointer (some (addA a (n.toNat * ti.size)))) else none
    | none => none
  | _, _, _ => none

/-- The elements of a block that may be longer than it seems have the size that the slice's type says. -/
def sizeFits (H : Hp) (a : Addr) (size : Nat) : Bool :=
  match a.spot with
  | none => match H[a.block]? with
    | some b => !b.loose || b.esz == size
    | none => false
  | some _ => true

def evSlice (P : Program) (H : Hp) (t : TypeId) (x : Value) (lo hi mx : Option Value) : Option Value :=
  match P.underlying t, x with
  | some (.slice elem), .slice (some a) len cap =>
    match P.info? elem, sbounds len cap lo hi mx with
    | some ti, some (l, h, m) => bif sizeFits H a ti.size then some (.slice (some (bif m == l then a else addA a (l * ti.size))) (h - l) (m - l)) else none
    | _, _ => none
  | some (.array n elem), .pointer (some a) =>
    match P.info? elem, sbounds n n lo hi mx with
    | some ti, some (l, h, m) => some (.slice (some (bif m == l then a else addA a (l * ti.size))) (h - l) (m - l))
    | _, _ => none
  | _, _ => none

def evBuild (P : Program) (t : TypeId) (parts : List (Nat × Value)) : Option Value :=
  match P.info? t with
  | none => none
  | some ti =>
    match ti.zero with
    | none => none
    | some z =>
      bif !plainV z then none else
      match P.underlying t with
      | some (.struct fields) =>
        bif fields.toList.all (fun f => (P.info? f.type).isSome) then
          match Instr.fill (fun i => (fields[i]?).map fun f => (f.offset, P.cellsOf f.type)) z.cells parts with
          | some cells => some (.agg cells)
          | none => none
        else none
      | some (.array _ elem) =>
        match P.info? elem with
        | some ei =>
          match Instr.fill (fun i => some (i * ei.size, ei.size)) z.cells parts with
          | some cells => some (.agg cells)
          | none => none
        | none => none
      | _ => none

def evInert (P : Program) (H : Hp) (o : Oper) (ρ : Operand → Value) : Option Value :=
  match o.op with
  | .move x => some (ρ x)
  | .assign x => some (ρ x)
  | .pick c a b => match ρ c with
    | .bool t => some (bif t then ρ a else ρ b)
    | _ => none
  | .nilCheck x => match ρ x with
    | .pointer (some a) => some (.pointer (some a))
    | .func (.func f) fs cs => bif symF f then none else some (.func (.func f) fs cs)
    | _ => none
  | .extract x k => match ρ x with
    | .tuple vs => vs.toList[k]?
    | _ => none
  | .makeFunc (.func f) first captured => bif symF f then none else some (.func (.func f) ⟨first.toList.map ρ⟩ ⟨captured.toList.map ρ⟩)
  | .fieldAddr s x f => match P.underlying s, ρ x with
    | some (.struct fs), .pointer (some a) => match fs[f]? with
      | some fd => bif P.cellsOf fd.type == 0 then none else some (.pointer (some (addA a fd.offset)))
      | none => none
    | _, _ => none
  | .indexAddr t x i => evIndexAddr P t (ρ x) (ρ i)
  | .field t x f => match P.underlying t, ρ x with
    | some (.struct fs), .agg cs => match fs[f]? with
      | some fd => evPart P fd.type cs.toList fd.offset
      | none => none
    | _, _ => none
  | .index t x i => match P.underlying t, ρ x, ρ i with
    | some (.array len elem), .agg cs, .int _ n => match P.info? elem with
      | some ei => bif decide (0 ≤ n) && decide (n < (len : Int)) then evPart P elem cs.toList (n.toNat * ei.size) else none
      | none => none
    | _, _, _ => evPlain P o ρ
  | .slice t x lo hi mx => match ρ x with
    | .slice (some _) _ _ => evSlice P H t (ρ x) (lo.map ρ) (hi.map ρ) (mx.map ρ)
    | .pointer (some _) => evSlice P H t (ρ x) (lo.map ρ) (hi.map ρ) (mx.map ρ)
    | _ => evPlain P o ρ
  | .build t ps => evBuild P t (ps.toList.map fun (i, x) => (i, ρ x))
  | .call { callee := .builtin .len, args := ⟨[x]⟩, argTypes := ⟨[t]⟩ } => match P.underlying t, ρ x with
    | some (.slice _), .slice _ n _ => some (.int .i64 n)
    | _, _ => evPlain P o ρ
  | .select _ _ => none
  | _ => evPlain P o ρ

/-- The functions outside the program; what the symbols stand for; which conditions hold. -/
structure Xt where
  ext : FuncId → Option (Array Value → Sem Value)
  env : Env
  gam : List (Value × Value)
  eqs : List TypeId

def eqVs (f : Value → Value → Bool) : List Value → List Value → Bool
  | [], [] => true
  | x :: xs, y :: ys => bif f x y then eqVs f xs ys else false
  | _, _ => false
def eqV : Nat → Value → Value → Bool
  | 0, _, _ => false
  | d + 1, x, y => match x, y with
    | .int k a, .int k' b => decide (k = k') && decide (a = b)
    | .bool a, .bool b => a == b
    | .func (.func f) ⟨xs⟩ ⟨[]⟩, .func (.func g) ⟨ys⟩ ⟨[]⟩ => Nat.beq f g && eqVs (eqV d) xs ys
    | _, _ => false
theorem eqVs_eq {f : Value → Value → Bool} (hf : ∀ x y, f x y = true → x = y) : ∀ (l r : List Value), eqVs f l r = true → l = r
  | [], [], _ => rfl
  | x :: xs, y :: ys, h => by
    unfold eqVs at h
    cases hx : f x y with
    | false => rw [hx] at h; cases h
    | true => rw [hx] at h; rw [hf x y hx, eqVs_eq hf xs ys h]
  | [], _ :: _, h => by cases h
  | _ :: _, [], h => by cases h
theorem eqV_eq : ∀ (d : Nat) (x y : Value), eqV d x y = true → x = y
  | 0, _, _, h => by cases h
  | d + 1, x, y, h => by
    unfold eqV at h
    split at h
    · simp at h; obtain ⟨rfl, rfl⟩ := h; rfl
    · simp at h; subst h; rfl
    · simp only [Bool.and_eq_true] at h
      have h1 := Nat.eq_of_beq_eq_true h.1
      have h2 := eqVs_eq (eqV_eq d) _ _ h.2
      subst h1 h2; rfl
    · cases h

def look (g : List (Value × Value)) (v : Value) : Option Value :=
  match g with
  | [] => none
  | p :: l => bif eqV 100 p.1 v then some p.2 else look l v
/-- A value in the form in which it is known. -/
def decG (X : Xt) (v : Value) : Value := match look X.gam v with
  | some r => r
  | none => v
theorem look_some : ∀ (g : List (Value × Value)) (v b : Value), look g v = some b → (v, b) ∈ g
  | [], _, _, h => by cases h
  | p :: l, v, b, h => by
    unfold look at h
    cases he : eqV 100 p.1 v with
    | false => rw [he] at h; exact List.mem_cons_of_mem _ (look_some l v b h)
    | true =>
      rw [he] at h
      simp only [cond_true, Option.some.injEq] at h
      have := eqV_eq 100 _ _ he
      subst this
      subst h
      exact List.mem_cons_self

def isSym (v : Value) : Bool := match v with
  | .func (.func f) _ _ => symF f
  | _ => false
def kindV (v : Value) : Option IntKind := match v with
  | .int k _ => some k
  | .func (.func f) ⟨.int k _ :: _⟩ ⟨[]⟩ => bif symF f then some k else none
  | _ => none
def isBoolV (v : Value) : Bool := match v with
  | .func (.func f) ⟨.bool _ :: _⟩ ⟨[]⟩ => symF f
  | _ => false

/-- It is known to be positive. -/
def isPos (X : Xt) (y : Value) : Bool := match look X.gam (mk 21 (.bool true) [.int .i64 1, y]) with
  | some (.bool b) => b
  | _ => false

def symBin (X : Xt) (op : BinOp) (k : IntKind) (x y : Value) : Option Value :=
  match op with
  | .add => some (decG X (mk 2 (.int k 0) [x, y]))
  | .sub => some (decG X (mk 3 (.int k 0) [x, y]))
  | .mul => some (decG X (mk 4 (.int k 0) [x, y]))
  | .quo => match y with
    | .int _ n => bif decide (n = 0) then none else some (decG X (mk 5 (.int k 0) [x, y]))
    | y => bif isPos X y then some (decG X (mk 5 (.int k 0) [x, y])) else none
  | .rem => match y with
    | .int _ n => bif decide (n = 0) then none else some (decG X (mk 6 (.int k 0) [x, y]))
    | y => bif isPos X y then some (decG X (mk 6 (.int k 0) [x, y])) else none
  | .and => some (decG X (mk 7 (.int k 0) [x, y]))
  | .or => some (decG X (mk 8 (.int k 0) [x, y]))
  | .lss => some (decG X (mk 20 (.bool true) [x, y]))
  | .leq => some (decG X (mk 21 (.bool true) [x, y]))
  | .gtr => some (decG X (mk 22 (.bool true) [x, y]))
  | .geq => some (decG X (mk 23 (.bool true) [x, y]))
  | .eql => some (decG X (mk 24 (.bool true) [x, y]))
  | .neq => some (decG X (mk 25 (.bool true) [x, y]))
  | _ => none

/-- It is known not to be negative. -/
def notNeg (X : Xt) (y : Value) : Bool := match look X.gam (mk 20 (.bool true) [y, .int .i64 0]) with
  | some (.bool b) => !b
  | _ => false

def eqD (X : Xt) (x y : Value) : Option Bool :=
  match x, y with
  | .int _ a, .int _ b => some (a == b)
  | x, y => match look X.gam (mk 24 (.bool true) [x, y]) with
    | some (.bool b) => some b
    | _ => none
def okI (v : Value) : Bool := match kindV v with
  | some .i64 => true
  | _ => false
/-- Two pairs of numbers are compared. -/
def eqPair (X : Xt) (t : TypeId) (x y : Value) : Option Value :=
  match x, y with
  | .agg ⟨[x0, x1]⟩, .agg ⟨[y0, y1]⟩ =>
    bif X.eqs.any (Nat.beq t) && (okI x0 && okI x1 && okI y0 && okI y1) then
      match eqD X x0 y0, eqD X x1 y1 with
      | some a, some b => some (.bool (a && b))
      | _, _ => none
    else none
  | _, _ => none

def evSym (P : Program) (X : Xt) (o : Oper) (ρ : Operand → Value) : Option Value :=
  match o.op with
  | .binOp op t x y _ => match kindV (ρ x), kindV (ρ y) with
    | some k, some k' =>
      match op, ρ y with
      | .shl, .int _ n => bif decide (0 ≤ n) then some (decG X (mk 10 (.int k 0) [ρ x, ρ y])) else none
      | .shr, .int _ n => bif decide (0 ≤ n) then some (decG X (mk 11 (.int k 0) [ρ x, ρ y])) else none
      | .shl, _ => bif notNeg X (ρ y) then some (decG X (mk 10 (.int k 0) [ρ x, ρ y])) else none
      | .shr, _ => bif notNeg X (ρ y) then some (decG X (mk 11 (.int k 0) [ρ x, ρ y])) else none
      | op, _ => bif decide (k = k') then symBin X op k (ρ x) (ρ y) else none
    | _, _ => match op with
      | .eql => eqPair X t (ρ x) (ρ y)
      | _ => none
  | .unOp .neg _ x => match kindV (ρ x) with
    | some k => some (decG X (mk 14 (.int k 0) [ρ x]))
    | none => none
  | .unOp .not _ x => bif isBoolV (ρ x) then some (decG X (mk 26 (.bool true) [ρ x])) else none
  | .convert s t x => match P.underlying s, P.underlying t, kindV (ρ x) with
    | some (.int _), some (.int k), some _ => some (decG X (mk 15 (.int k 0) [ρ x]))
    | _, _, _ => none
  | .call { callee := .builtin .min, args := ⟨[x, y]⟩, .. } => match kindV (ρ x), kindV (ρ y) with
    | some k, some k' => bif decide (k = k') then some (decG X (mk 12 (.int k 0) [ρ x, ρ y])) else none
    | _, _ => none
  | .call { callee := .builtin .max, args := ⟨[x, y]⟩, .. } => match kindV (ρ x), kindV (ρ y) with
    | some k, some k' => bif decide (k = k') then some (decG X (mk 13 (.int k 0) [ρ x, ρ y])) else none
    | _, _ => none
  | _ => none

def evInertS (P : Program) (X : Xt) (H : Hp) (o : Oper) (ρ : Operand → Value) : Option Value :=
  match evInert P H o ρ with
  | some v => some v
  | none => evSym P X o ρ

/-- The comparison of pairs, as the model has it. -/
def EqOk (P : Program) (X : Xt) : Prop := ∀ t ∈ X.eqs, ∀ (o : Oper) (x y : Operand) (z : TypeId) (ρ : Operand → Value) (a b c d : Int) (w : World), o.op = .binOp .eql t x y z → ρ x = .agg #[.int .i64 a, .int .i64 b] → ρ y = .agg #[.int .i64 c, .int .i64 d] → (execOp ρ o).run P w = .ok (.value (.bool (a == c && b == d))) w

section
variable {P : Program} {m : Mp} {o : Oper} {ρ ρ' : Operand → Value} {v : Value}

theorem evPlain_sound (hρ : OpR m ρ ρ' o) (hs : ∀ cs b, o.op ≠ .select cs b) (h : evPlain P o ρ = some v) (w : World) : (execOp ρ' o).run P w = .ok (.value v) w ∧ VR m v v := by
  unfold evPlain at h
  cases hall : o.op.operands.toList.all (fun x => plainV (ρ x)) with
  | false => rw [hall] at h; cases h
  | true =>
    rw [hall] at h
    simp only [cond_true] at h
    have heq : execOp ρ' o = execOp ρ o := execOp_congr o hs fun x hx => by
      simp only [List.all_eq_true] at hall
      exact (plain_eq 4 _ _ (hall x (by simpa using hx)) (hρ x hx)).symm
    rw [heq]
    split at h
    · rename_i v0 hv0
      cases hp : plainV v0 with
      | false => rw [hp] at h; cases h
      | true =>
        rw [hp] at h
        simp only [cond_true, Option.some.injEq] at h
        subst h
        exact ⟨runPure_run _ _ w hv0, plain_vr m 4 _ hp⟩
    · cases h

end
end Go.Sm
end

section
/-
  evInert: what it yields the model yields, place for place.
-/
namespace Go.Sm
section
variable {P : Program} {m : Mp}

theorem run_typeInfo {t : TypeId} {i : TypeInfo} (h : P.info? t = some i) (w : World) : (typeInfo t).run P w = .ok i w := by simp [typeInfo, h]
theorem run_sizeOf' {t : TypeId} {i : TypeInfo} (h : P.info? t = some i) (w : World) : (sizeOf t).run P w = .ok i.size w := by simp [sizeOf, typeInfo, h]
theorem info_of_cells {t : TypeId} (h : P.cellsOf t ≠ 0) : ∃ i, P.info? t = some i ∧ i.size = P.cellsOf t := by
  unfold Program.cellsOf at h ⊢
  cases hi : P.info? t with
  | none => simp [hi] at h
  | some i => exact ⟨i, rfl, by simp⟩
theorem run_isAgg {t : TypeId} {b : Bool} (h : isAggT P t = some b) (w : World) : (isAgg t).run P w = .ok b w := by
  unfold isAggT at h
  split at h
  · rename_i hu; injection h with h; subst h; simp [isAgg, run_underlying hu]
  · rename_i hu; injection h with h; subst h; simp [isAgg, run_underlying hu]
  · rename_i d h1 h2 hu
    injection h with h; subst h
    cases d <;> first | (exact absurd rfl (h1 _)) | (exact absurd rfl (h2 _ _)) | simp [isAgg, run_underlying hu]
  · cases h

theorem part_sound {t : TypeId} {cs cs' : Array Value} {off : Nat} {v : Value} (hc : VRs m cs.toList cs'.toList) (h : evPart P t cs.toList off = some v) (w : World) :
    ∃ v', (part t cs' off).run P w = .ok v' w ∧ VR m v v' := by
  unfold evPart at h
  cases ha : isAggT P t with
  | none => rw [ha] at h; cases h
  | some b =>
    rw [ha] at h
    cases b with
    | true =>
      simp only at h
      cases hi : P.info? t with
      | none => rw [hi] at h; cases h
      | some i =>
        rw [hi] at h
        simp only [Option.some.injEq] at h
        subst h
        refine ⟨.agg (cs'.extract off (off + i.size)), by simp [part, run_isAgg ha, run_sizeOf' hi], ?_⟩
        have e : (cs'.extract off (off + i.size)).toList = (cs'.toList.drop off).take i.size := by
          simp [List.extract_eq_take_drop]
        exact VRs.agg' (by rw [e]; exact (hc.drop off).take _)
    | false =>
      simp only at h
      obtain ⟨v', hv', hr⟩ := hc.at h
      exact ⟨v', by simp [part, run_isAgg ha, show cs'[off]? = some v' by simpa using hv'], hr⟩

theorem bnd_sound {x x' : Value} {y : Nat} {n : Nat} (hx : VR m x x') (h : bnd x y = some n) {y' : Nat} (hy : y ≤ y') (code : BoundsCode) (w : World) :
    (Instr.sliceBound x' y' code).run P w = .ok n w := by
  unfold bnd at h
  split at h
  · rename_i k i
    rw [vr_int hx]
    cases hc : (decide (0 ≤ i) && decide (i ≤ (y : Int))) with
    | false => rw [hc] at h; cases h
    | true =>
      rw [hc] at h
      simp only [cond_true, Option.some.injEq] at h
      subst h
      simp only [Bool.and_eq_true, decide_eq_true_eq] at hc
      simp only [Instr.sliceBound, asIntOf, Sem.run_bind, Sem.run_pure, Result.andThen_ok]
      rw [if_pos ⟨hc.1, by omega⟩]
      rfl
  · cases h

theorem bnd_le {x : Value} {y n : Nat} (h : bnd x y = some n) : n ≤ y := by
  unfold bnd at h
  split at h
  · rename_i k i
    cases hc : (decide (0 ≤ i) && decide (i ≤ (y : Int))) with
    | false => rw [hc] at h; cases h
    | true =>
      rw [hc] at h
      simp only [cond_true, Option.some.injEq] at h
      simp only [Bool.and_eq_true, decide_eq_true_eq] at hc
      omega
  · cases h

theorem sbounds_sound {b : Bool} {len cap cap' l h mm : Nat} {lo hi mx lo' hi' mx' : Option Value} (hlo : Option.Rel (VR m) lo lo') (hhi : Option.Rel (VR m) hi hi') (hmx : Option.Rel (VR m) mx mx')
    (hs : sbounds len cap lo hi mx = some (l, h, mm)) (hc : cap ≤ cap') (w : World) :
    (Instr.sliceBounds b len cap' lo' hi' mx').run P w = .ok (l, h, if mx = none then cap' else mm) w ∧ l ≤ h ∧ h ≤ mm ∧ (mx = none → mm = cap) ∧ mm ≤ cap := by
  have fin : ∀ {l0 h0 m0 : Nat}, (bif decide (h0 ≤ m0) then some (l0, h0, m0) else none) = some (l, h, mm) → l0 = l ∧ h0 = h ∧ m0 = mm ∧ h0 ≤ m0 := by
    intro l0 h0 m0 e
    cases hd : decide (h0 ≤ m0) with
    | false => rw [hd] at e; cases e
    | true =>
      rw [hd] at e
      simp only [cond_true, Option.some.injEq, Prod.mk.injEq] at e
      exact ⟨e.1, e.2.1, e.2.2, by simpa using hd⟩
  unfold sbounds at hs
  cases hmx with
  | none =>
    simp only at hs
    cases hhi with
    | none =>
      simp only at hs
      cases hlo with
      | none =>
        obtain ⟨rfl, rfl, rfl, hle⟩ := fin hs
        exact ⟨by simp [Instr.sliceBounds], by omega, hle, fun _ => rfl, Nat.le_refl _⟩
      | some hx =>
        simp only at hs
        split at hs
        · cases hs
        · rename_i l0 hl0
          obtain ⟨rfl, rfl, rfl, hle⟩ := fin hs
          exact ⟨by simp [Instr.sliceBounds, bnd_sound (P := P) hx hl0 (Nat.le_refl _)], bnd_le hl0, hle, fun _ => rfl, Nat.le_refl _⟩
    | some hy =>
      simp only at hs
      split at hs
      · cases hs
      · rename_i h0 hh0
        cases hlo with
        | none =>
          obtain ⟨rfl, rfl, rfl, hle⟩ := fin hs
          exact ⟨by simp [Instr.sliceBounds, bnd_sound (P := P) hy hh0 hc], by omega, hle, fun _ => rfl, Nat.le_refl _⟩
        | some hx =>
          simp only at hs
          split at hs
          · cases hs
          · rename_i l0 hl0
            obtain ⟨rfl, rfl, rfl, hle⟩ := fin hs
            exact ⟨by simp [Instr.sliceBounds, bnd_sound (P := P) hy hh0 hc, bnd_sound (P := P) hx hl0 (Nat.le_refl _)], bnd_le hl0, hle, fun _ => rfl, Nat.le_refl _⟩
  | some hz =>
    simp only at hs
    split at hs
    · cases hs
    · rename_i m0 hm0
      cases hhi with
      | none => simp only at hs; cases hs
      | some hy =>
        simp only at hs
        split at hs
        · cases hs
        · rename_i h0 hh0
          cases hlo with
          | none =>
            obtain ⟨rfl, rfl, rfl, hle⟩ := fin hs
            exact ⟨by simp [Instr.sliceBounds, bnd_sound (P := P) hz hm0 hc, bnd_sound (P := P) hy hh0 (Nat.le_refl _)], by omega, hle, (fun e => by cases e), bnd_le hm0⟩
          | some hx =>
            simp only at hs
            split at hs
            · cases hs
            · rename_i l0 hl0
              obtain ⟨rfl, rfl, rfl, hle⟩ := fin hs
              exact ⟨by simp [Instr.sliceBounds, bnd_sound (P := P) hz hm0 hc, bnd_sound (P := P) hy hh0 (Nat.le_refl _), bnd_sound (P := P) hx hl0 (Nat.le_refl _)], bnd_le hl0, hle, (fun e => by cases e), bnd_le hm0⟩

/-- The parts of a literal. -/
def PartsR (m : Mp) (ps ps' : List (Nat × Value)) : Prop := ps.length = ps'.length ∧ ∀ (i : Nat) (p p' : Nat × Value), ps[i]? = some p → ps'[i]? = some p' → p.1 = p'.1 ∧ VR m p.2 p'.2

theorem foldl_sound (off : Nat) : ∀ (vs vs' : List Value) (k : Nat) (cs cs' : Array Value), VRs m vs vs' → VRs m cs.toList cs'.toList →
    VRs m ((vs.zipIdx k).foldl (fun (a : Array Value) (p : Value × Nat) => a.setIfInBounds (off + p.2) p.1) cs).toList
      ((vs'.zipIdx k).foldl (fun (a : Array Value) (p : Value × Nat) => a.setIfInBounds (off + p.2) p.1) cs').toList
  | [], vs', k, cs, cs', hv, hc => by
    have : vs' = [] := List.eq_nil_of_length_eq_zero hv.1.symm
    subst this
    simpa using hc
  | v :: vs, vs'', k, cs, cs', hv, hc => by
    obtain ⟨v', vs', rfl, h1, h2⟩ := hv.cons_inv
    simp only [List.zipIdx_cons, List.foldl_cons]
    refine foldl_sound off vs vs' (k + 1) _ _ h2 ?_
    simp only [Array.toList_setIfInBounds]
    exact hc.set _ h1

theorem fill_sound {place : Nat → Option (Nat × Nat)} : ∀ (ps ps' : List (Nat × Value)) (cs cs' r : Array Value), PartsR m ps ps' → VRs m cs.toList cs'.toList → Instr.fill place cs ps = some r →
    ∃ r', Instr.fill place cs' ps' = some r' ∧ VRs m r.toList r'.toList
  | [], ps', cs, cs', r, hp, hc, h => by
    have : ps' = [] := List.eq_nil_of_length_eq_zero hp.1.symm
    subst this
    simp only [Instr.fill, Option.some.injEq] at h
    subst h
    exact ⟨cs', rfl, hc⟩
  | (i, v) :: ps, [], cs, cs', r, hp, hc, h => by have := hp.1; simp at this
  | (i, v) :: ps, (i', v') :: ps', cs, cs', r, hp, hc, h => by
    obtain ⟨e, hv⟩ := hp.2 0 (i, v) (i', v') rfl rfl
    simp only at e hv
    subst e
    have hv2 := vr_cells hv
    have hlen : v'.cells.size = v.cells.size := by simpa using hv2.1.symm
    have hcl : cs'.size = cs.size := by simpa using hc.1.symm
    simp only [Instr.fill] at h ⊢
    cases hpl : place i with
    | none => rw [hpl] at h; cases h
    | some os =>
      obtain ⟨off, size⟩ := os
      rw [hpl] at h
      simp only at h ⊢
      rw [hlen, hcl]
      split at h
      · cases h
      · rename_i hn
        rw [if_neg hn]
        refine fill_sound ps ps' _ _ r ⟨by have := hp.1; simpa using this, fun j p p' a b => hp.2 (j + 1) p p' (by simpa using a) (by simpa using b)⟩ ?_ h
        have := foldl_sound (m := m) off v.cells.toList v'.cells.toList 0 cs cs' hv2 hc
        have e : ∀ (x c : Array Value), Array.foldl (fun (a : Array Value) (p : Value × Nat) => a.setIfInBounds (off + p.2) p.1) c x.zipIdx = List.foldl (fun (a : Array Value) (p : Value × Nat) => a.setIfInBounds (off + p.2) p.1) c x.toList.zipIdx :=
          fun x c => by rw [← Array.foldl_toList, Array.toList_zipIdx]
        rw [← e, ← e] at this
        exact this

theorem parts_of {ρ ρ' : Operand → Value} {ps : List (Nat × Operand)} (h : ∀ p ∈ ps, VR m (ρ p.2) (ρ' p.2)) :
    PartsR m (ps.map fun p => (p.1, ρ p.2)) (ps.map fun p => (p.1, ρ' p.2)) := by
  refine ⟨by simp, fun i p p' a b => ?_⟩
  simp only [List.getElem?_map, Option.map_eq_some_iff] at a b
  obtain ⟨q, hq, rfl⟩ := a
  obtain ⟨q', hq', rfl⟩ := b
  rw [hq] at hq'; injection hq' with hq'; subst hq'
  exact ⟨rfl, h q (List.mem_of_getElem? hq)⟩

theorem mapM_places (w : World) : ∀ (fs : List Field), (∀ f ∈ fs, (P.info? f.type).isSome = true) →
    (fs.mapM (m := Sem) fun f => do pure (f.offset, ← sizeOf f.type)).run P w = .ok (fs.map fun f => (f.offset, P.cellsOf f.type)) w
  | [], _ => by simp
  | f :: fs, h => by
    have hf := h f (by simp)
    cases hi : P.info? f.type with
    | none => rw [hi] at hf; cases hf
    | some i =>
      simp only [List.mapM_cons, Sem.run_bind, run_sizeOf' hi, Result.andThen_ok, Sem.run_pure, mapM_places w fs (fun f' hf' => h f' (by simp [hf'])), List.map_cons]
      simp [Program.cellsOf, hi]

theorem build_sound {t : TypeId} {ps ps' : List (Nat × Value)} {v : Value} (hp : PartsR m ps ps') (h : evBuild P t ps = some v) (w : World) :
    ∃ v', (Instr.build t ps'.toArray).run P w = .ok v' w ∧ VR m v v' := by
  unfold evBuild at h
  cases hi : P.info? t with
  | none => rw [hi] at h; cases h
  | some ti =>
    rw [hi] at h
    simp only at h
    cases hz : ti.zero with
    | none => rw [hz] at h; cases h
    | some z =>
      rw [hz] at h
      simp only at h
      cases hpl : plainV z with
      | false => rw [hpl] at h; cases h
      | true =>
        rw [hpl] at h
        simp only [Bool.not_true, cond_false] at h
        have hzr : VRs m z.cells.toList z.cells.toList := vr_cells (plain_vr m 4 z hpl)
        have hzero : (zeroValue t).run P w = .ok z w := by simp [zeroValue, run_typeInfo hi, hz]
        split at h
        · rename_i fields hu
          cases hall : fields.toList.all (fun f => (P.info? f.type).isSome) with
          | false => rw [hall] at h; cases h
          | true =>
            rw [hall] at h
            simp only [cond_true] at h
            split at h
            · rename_i cells hf
              injection h with h; subst h
              obtain ⟨r', hr', hrr⟩ := fill_sound ps ps' _ _ _ hp hzr hf
              refine ⟨.agg r', ?_, hrr.agg'⟩
              have hmap : (fields.mapM (m := Sem) fun f => do pure (f.offset, ← sizeOf f.type)).run P w = .ok (fields.map fun f => (f.offset, P.cellsOf f.type)) w := by
                simp only [List.all_eq_true] at hall
                rw [Array.mapM_eq_mapM_toList, Sem.run_map, mapM_places w fields.toList (fun f hf => hall f hf)]
                simp only [Result.andThen_ok, Result.ok.injEq, and_true]
                apply Array.ext'
                simp
              have hr2 : Instr.fill (fun x => (fields.map fun f => (f.offset, P.cellsOf f.type))[x]?) z.cells ps' = some r' := by
                simpa [Array.getElem?_map] using hr'
              simp only [Instr.build, Sem.run_bind, hzero, Result.andThen_ok, run_underlying hu, hmap, hr2]
              rfl
            · cases h
        · rename_i n elem hu
          split at h
          · rename_i ei hei
            split at h
            · rename_i cells hf
              injection h with h; subst h
              obtain ⟨r', hr', hrr⟩ := fill_sound ps ps' _ _ _ hp hzr hf
              refine ⟨.agg r', ?_, hrr.agg'⟩
              simp only [Instr.build, Sem.run_bind, hzero, Result.andThen_ok, run_underlying hu, run_sizeOf' hei, hr']
              rfl
            · cases h
          · cases h
        · cases h

theorem optR {ρ ρ' : Operand → Value} {x : Option Operand} (h : ∀ y ∈ x.toArray, VR m (ρ y) (ρ' y)) : Option.Rel (VR m) (x.map ρ) (x.map ρ') := by
  cases x with
  | none => exact .none
  | some y => exact .some (h y (by simp))

/-- What is known of the blocks' elements. -/
def EszR (m : Mp) (H : Hp) : Prop := ∀ i g b, m.gb i = some g → H[i]? = some b → m.esz i = b.esz ∧ m.loose i = b.loose

theorem slice_core {H : Hp} (hE : EszR m H) {a : Addr} {len cap size l h mm c' : Nat} {a' : Addr} (hsr : SR m a len cap a' c') (hfit : sizeFits H a size = true) (h1 : l ≤ h) (h2 : h ≤ mm) {nomax : Bool} (h4 : nomax = true → mm = cap) (h5 : mm ≤ cap) :
    VR m (.slice (some (bif mm == l then a else addA a (l * size))) (h - l) (mm - l))
      (.slice (if (if nomax then c' else mm) = l then some a' else some (a'.add (l * size))) (h - l) ((if nomax then c' else mm) - l)) := by
  have hsplit : ∀ (q : Prop) [Decidable q] (x y : Addr), (if q then some x else some y) = some (if q then x else y) := fun q _ x y => by split <;> rfl
  rw [hsplit]
  refine SR.vr ?_
  rcases hsr with ⟨har, hc⟩ | ⟨rfl, rfl, hsp, hl, g, hg⟩
  · cases nomax with
    | true =>
      simp only [if_true]
      have e4 := h4 rfl
      subst e4
      rcases hc with rfl | ⟨hsp, hlo, hcc, htt⟩
      · by_cases hml : c' = l
        · subst hml
          simp only [BEq.rfl, cond_true, if_true]
          exact .inl ⟨har, .inl rfl⟩
        · simp only [beq_eq_false_iff_ne.2 hml, cond_false, if_neg hml]
          exact .inl ⟨har.add _, .inl rfl⟩
      · obtain ⟨g, hg⟩ : ∃ g, m.gb a.block = some g := by
          rcases har with ⟨_, e, _⟩ | ⟨e, _⟩
          · exact ⟨_, e⟩
          · rw [hsp] at e; cases e
        by_cases hml : mm = l
        · subst hml
          have hhl : h = mm := by omega
          subst hhl
          simp only [BEq.rfl, cond_true, Nat.sub_self]
          exact .inr ⟨rfl, rfl, hsp, hlo, g, hg⟩
        · simp only [beq_eq_false_iff_ne.2 hml, cond_false, if_neg (show ¬ c' = l by omega)]
          refine .inl ⟨har.add _, .inr ⟨hsp, hlo, by omega, ?_⟩⟩
          have hez : m.esz a.block = size := by
            unfold sizeFits at hfit
            rw [hsp] at hfit
            simp only at hfit
            split at hfit
            · rename_i b hb
              obtain ⟨e1, e2⟩ := hE _ _ b hg hb
              rw [hlo] at e2
              simp [← e2] at hfit
              omega
            · cases hfit
          simp only [addA, hez]
          rw [hez] at htt
          have : l * size + (c' - l) * size = c' * size := by rw [← Nat.add_mul]; congr 1; omega
          omega
    | false =>
      simp only [Bool.false_eq_true, if_false]
      by_cases hml : mm = l
      · subst hml
        simp only [BEq.rfl, cond_true, if_true]
        exact .inl ⟨har, .inl rfl⟩
      · simp only [beq_eq_false_iff_ne.2 hml, cond_false, if_neg hml]
        exact .inl ⟨har.add _, .inl rfl⟩
  · have e1 : mm = 0 := by omega
    have e2 : h = 0 := by omega
    have e3 : l = 0 := by omega
    subst e1; subst e2; subst e3
    simp only [BEq.rfl, cond_true, Nat.sub_self]
    exact .inr ⟨rfl, rfl, hsp, hl, g, hg⟩

theorem slice_sound {H : Hp} (hE : EszR m H) {t : TypeId} {x x' v : Value} {lo hi mx lo' hi' mx' : Option Value} (hx : VR m x x') (hlo : Option.Rel (VR m) lo lo') (hhi : Option.Rel (VR m) hi hi') (hmx : Option.Rel (VR m) mx mx')
    (h : evSlice P H t x lo hi mx = some v) (w : World) : ∃ v', (Instr.sliceAt t x' lo' hi' mx').run P w = .ok v' w ∧ VR m v v' := by
  unfold evSlice at h
  split at h
  · rename_i elem a len cap hu
    split at h
    · rename_i ti l hh mm hti hs
      cases hfit : sizeFits H a ti.size with
      | false => rw [hfit] at h; cases h
      | true =>
        rw [hfit] at h
        simp only [cond_true, Option.some.injEq] at h
        subst h
        obtain ⟨a', c', rfl, hsr⟩ := vr_slice hx
        have hcap : cap ≤ c' := by
          rcases hsr with ⟨_, rfl | ⟨_, _, h3, _⟩⟩ | ⟨_, h2, _⟩
          · exact Nat.le_refl _
          · exact h3
          · omega
        obtain ⟨hrun, h1, h2, h4, h5⟩ := sbounds_sound (P := P) (b := true) hlo hhi hmx hs hcap w
        refine ⟨_, by simp only [Instr.sliceAt, Sem.run_bind, run_underlying hu, Result.andThen_ok, Instr.slice, hrun, run_sizeOf' hti, Sem.run_pure]; rfl, ?_⟩
        have hres := slice_core hE hsr hfit h1 h2 (nomax := decide (mx = none)) (by simpa using h4) h5
        simpa using hres
    · cases h
  · rename_i n elem a hu
    split at h
    · rename_i ti l hh mm hti hs
      injection h with h; subst h
      obtain ⟨a', rfl, har⟩ := vr_ptr hx
      obtain ⟨hrun, h1, h2, h4, h5⟩ := sbounds_sound (P := P) (b := false) hlo hhi hmx hs (Nat.le_refl n) w
      have hm : (if mx = none then n else mm) = mm := by
        split
        · rename_i e; exact (h4 e).symm
        · rfl
      rw [hm] at hrun
      refine ⟨_, by simp only [Instr.sliceAt, Sem.run_bind, run_underlying hu, Result.andThen_ok, Instr.sureAddr, Sem.run_pure, hrun, run_sizeOf' hti]; rfl, ?_⟩
      refine SR.vr ?_
      by_cases hml : mm = l
      · subst hml
        simp only [BEq.rfl, cond_true, if_true]
        exact .inl ⟨har, .inl rfl⟩
      · simp only [beq_eq_false_iff_ne.2 hml, cond_false, if_neg hml]
        exact .inl ⟨har.add _, .inl rfl⟩
    · cases h
  · cases h

theorem addr_add_spot {a : Addr} (h : a.spot = none) (n : Nat) : a.add n = { a with off := a.off + n } := by
  obtain ⟨b, o, s⟩ := a
  simp only at h
  subst h
  unfold Addr.add
  split <;> simp_all

theorem indexAddr_sound {t : TypeId} {x i x' i' v : Value} (hx : VR m x x') (hi : VR m i i') (h : evIndexAddr P t x i = some v) (w : World) :
    ∃ v', (Instr.indexAt t x' i').run P w = .ok v' w ∧ VR m v v' := by
  unfold evIndexAddr at h
  split at h
  · rename_i len elem a k n hu
    rw [vr_int hi]
    split at h
    · rename_i ti hti
      cases hc : (decide (0 ≤ n) && decide (n < (len : Int))) with
      | false => rw [hc] at h; cases h
      | true =>
        rw [hc] at h
        simp only [cond_true, Option.some.injEq] at h
        subst h
        simp only [Bool.and_eq_true, decide_eq_true_eq] at hc
        obtain ⟨a', rfl, har⟩ := vr_ptr hx
        refine ⟨.pointer (some (a'.add (n.toNat * ti.size))), ?_, (har.add _).vr⟩
        simp only [Instr.indexAt, asIntOf, Sem.run_bind, Sem.run_pure, Result.andThen_ok, run_underlying hu, Instr.sureAddr]
        rw [if_pos hc]
        simp [run_sizeOf' hti]
    · cases h
  · rename_i elem a len cap k n hu
    rw [vr_int hi]
    split at h
    · rename_i ti hti
      cases hc : (decide (0 ≤ n) && decide (n < (len : Int))) with
      | false => rw [hc] at h; cases h
      | true =>
        rw [hc] at h
        simp only [cond_true, Option.some.injEq] at h
        subst h
        simp only [Bool.and_eq_true, decide_eq_true_eq] at hc
        obtain ⟨a', c', rfl, hsr⟩ := vr_slice hx
        rcases hsr with ⟨har, _⟩ | ⟨rfl, _⟩
        · refine ⟨.pointer (some (a'.add (n.toNat * ti.size))), ?_, (har.add _).vr⟩
          simp only [Instr.indexAt, asIntOf, Sem.run_bind, Sem.run_pure, Result.andThen_ok, run_underlying hu]
          rw [if_pos hc]
          simp [run_sizeOf' hti]
        · omega
    · cases h
  · cases h

theorem evInert_sound {H : Hp} (hE : EszR m H) {o : Oper} {ρ ρ' : Operand → Value} {v : Value} (hρ : OpR m ρ ρ' o) (h : evInert P H o ρ = some v) (w : World) :
    ∃ v', (execOp ρ' o).run P w = .ok (.value v') w ∧ VR m v v' := by
  obtain ⟨dst, op, type, pos, after, guard⟩ := o
  unfold evInert at h
  unfold OpR at hρ
  have pl : ∀ (hs : ∀ cs b, op ≠ .select cs b), evPlain P ⟨dst, op, type, pos, after, guard⟩ ρ = some v → ∃ v', (execOp ρ' ⟨dst, op, type, pos, after, guard⟩).run P w = .ok (.value v') w ∧ VR m v v' :=
    fun hs hh => ⟨v, evPlain_sound hρ hs hh w⟩
  split at h
  · rename_i x ho; simp only at ho; subst ho
    injection h with h; subst h
    exact ⟨ρ' x, by simp [execOp], hρ x (by simp [Op.operands])⟩
  · rename_i x ho; simp only at ho; subst ho
    injection h with h; subst h
    exact ⟨ρ' x, by simp [execOp], hρ x (by simp [Op.operands])⟩
  · rename_i c a b ho; simp only at ho; subst ho
    have hc := hρ c (by simp [Op.operands])
    split at h
    · rename_i t ht
      injection h with h; subst h
      rw [ht] at hc
      have hc' := vr_bool hc
      refine ⟨bif t then ρ' a else ρ' b, ?_, ?_⟩
      · cases t <;> simp [execOp, asBool, hc']
      · cases t
        · exact hρ b (by simp [Op.operands])
        · exact hρ a (by simp [Op.operands])
    · cases h
  · rename_i x ho; simp only at ho; subst ho
    have hx := hρ x (by simp [Op.operands])
    split at h
    · rename_i a ha
      injection h with h; subst h
      rw [ha] at hx
      obtain ⟨a', e, har⟩ := vr_ptr hx
      exact ⟨_, by simp [execOp, e], har.vr⟩
    · rename_i f fs cs hf
      cases hsf : symF f with
      | true => rw [hsf] at h; cases h
      | false =>
      rw [hsf] at h
      injection h with h; subst h
      rw [hf] at hx
      cases hx' : ρ' x with
      | func fn fs' cs' =>
        rw [hx'] at hx
        cases hx with
        | func h0 h1 h2 h3 h4 => exact ⟨_, by simp [execOp, hx'], .func h0 h1 h2 h3 h4⟩
      | int k n => rw [hx'] at hx; cases hx with | symI h0 _ => rw [hsf] at h0; cases h0
      | bool b => rw [hx'] at hx; cases hx with | symB h0 _ => rw [hsf] at h0; cases h0
      | _ => rw [hx'] at hx; cases hx
    · cases h
  · rename_i x k ho; simp only at ho; subst ho
    have hx := hρ x (by simp [Op.operands])
    split at h
    · rename_i vs hvs
      rw [hvs] at hx
      obtain ⟨vs', e, hr⟩ := vr_tuple hx
      obtain ⟨v', hv', hvv⟩ := hr.at h
      exact ⟨v', by simp [execOp, Instr.extract, e, show vs'[k]? = some v' by simpa using hv'], hvv⟩
    · cases h
  · rename_i f first captured ho; simp only at ho; subst ho
    cases hsf : symF f with
    | true => rw [hsf] at h; cases h
    | false =>
    rw [hsf] at h
    injection h with h; subst h
    have key : ∀ (l : List Operand), (∀ x ∈ l, VR m (ρ x) (ρ' x)) → VRs m (l.map ρ) (l.map ρ') := by
      intro l hl
      induction l with
      | nil => exact VRs.nil m
      | cons x l ih => exact VRs.cons (hl x (by simp)) (ih fun y hy => hl y (by simp [hy]))
    have h1 := key first.toList (fun x hx => hρ x (by simp [Op.operands]; exact .inl (by simpa using hx)))
    have h2 := key captured.toList (fun x hx => hρ x (by simp [Op.operands]; exact .inr (by simpa using hx)))
    refine ⟨.func (.func f) ⟨first.toList.map ρ'⟩ ⟨captured.toList.map ρ'⟩, ?_, .func hsf h1.1 h1.2 h2.1 h2.2⟩
    have e : ∀ (l : Array Operand), l.map ρ' = ⟨l.toList.map ρ'⟩ := fun l => by apply Array.ext'; simp
    simp [execOp, Instr.makeFunc, e]
  · rename_i s x f ho; simp only at ho; subst ho
    have hx := hρ x (by simp [Op.operands])
    split at h
    · rename_i fs a hu ha
      split at h
      · rename_i fd hfd
        cases hz : (P.cellsOf fd.type == 0) with
        | true => rw [hz] at h; cases h
        | false =>
          rw [hz] at h
          simp only [cond_false, Option.some.injEq] at h
          subst h
          rw [ha] at hx
          obtain ⟨a', e, har⟩ := vr_ptr hx
          obtain ⟨i, hi, hsz⟩ := info_of_cells (P := P) (t := fd.type) (by simpa using hz)
          refine ⟨_, ?_, (har.add fd.offset).vr⟩
          have hne : ¬ i.size = 0 := by rw [hsz]; simpa using hz
          simp [execOp, Instr.fieldAt, run_underlying hu, hfd, Instr.sureAddr, e, fieldPlace, run_sizeOf' hi, hne]
      · cases h
    · cases h
  · rename_i t x i ho; simp only at ho; subst ho
    obtain ⟨v', hv', hr⟩ := indexAddr_sound (hρ x (by simp [Op.operands])) (hρ i (by simp [Op.operands])) h w
    exact ⟨v', by simp [execOp, hv'], hr⟩
  · rename_i t x f ho; simp only at ho; subst ho
    have hx := hρ x (by simp [Op.operands])
    split at h
    · rename_i fs cs hu hcs
      split at h
      · rename_i fd hfd
        rw [hcs] at hx
        obtain ⟨cs', e, hr⟩ := vr_agg hx
        obtain ⟨v', hv', hvv⟩ := part_sound hr h w
        exact ⟨v', by simp [execOp, Instr.field, run_underlying hu, hfd, asAgg, e, hv'], hvv⟩
      · cases h
    · cases h
  · rename_i t x i ho; simp only at ho; subst ho
    split at h
    · rename_i len elem cs k n hu hcs hn
      have hx := hρ x (by simp [Op.operands])
      have hi := hρ i (by simp [Op.operands])
      rw [hcs] at hx
      rw [hn] at hi
      have hi' := vr_int hi
      obtain ⟨cs', e, hr⟩ := vr_agg hx
      split at h
      · rename_i ei hei
        cases hc : (decide (0 ≤ n) && decide (n < (len : Int))) with
        | false => rw [hc] at h; cases h
        | true =>
          rw [hc] at h
          simp only [cond_true] at h
          simp only [Bool.and_eq_true, decide_eq_true_eq] at hc
          obtain ⟨v', hv', hvv⟩ := part_sound hr h w
          refine ⟨v', ?_, hvv⟩
          simp only [execOp, Sem.run_bind, Instr.index, hi', asIntOf, Sem.run_pure, Result.andThen_ok, run_underlying hu, e]
          rw [if_pos hc]
          simp [run_sizeOf' hei, hv']
      · cases h
    · exact pl (by simp) h
  · rename_i t x lo hi mx ho; simp only at ho; subst ho
    have hx := hρ x (by simp [Op.operands])
    have hlo : Option.Rel (VR m) (lo.map ρ) (lo.map ρ') := optR fun y hy => hρ y (by simp [Op.operands]; cases lo <;> simp_all)
    have hhi : Option.Rel (VR m) (hi.map ρ) (hi.map ρ') := optR fun y hy => hρ y (by simp [Op.operands]; cases hi <;> simp_all)
    have hmx : Option.Rel (VR m) (mx.map ρ) (mx.map ρ') := optR fun y hy => hρ y (by simp [Op.operands]; cases mx <;> simp_all)
    split at h
    · obtain ⟨v', hv', hr⟩ := slice_sound hE hx hlo hhi hmx h w
      exact ⟨v', by simp [execOp, hv'], hr⟩
    · obtain ⟨v', hv', hr⟩ := slice_sound hE hx hlo hhi hmx h w
      exact ⟨v', by simp [execOp, hv'], hr⟩
    · exact pl (by simp) h
  · rename_i t ps ho; simp only at ho; subst ho
    have hp : PartsR m (ps.toList.map fun p => (p.1, ρ p.2)) (ps.toList.map fun p => (p.1, ρ' p.2)) := parts_of fun p hp => hρ p.2 (by simp [Op.operands]; exact ⟨p.1, by simpa using hp⟩)
    obtain ⟨v', hv', hr⟩ := build_sound hp h w
    refine ⟨v', ?_, hr⟩
    have e : (ps.map fun (i, x) => (i, ρ' x)) = (ps.toList.map fun p => (p.1, ρ' p.2)).toArray := by apply Array.ext'; simp
    simp only [execOp, Sem.run_bind, e, hv', Result.andThen_ok, Sem.run_pure]
  · rename_i x t ho; simp only at ho; subst ho
    have hx := hρ x (by simp [Op.operands, Call.operands])
    split at h
    · rename_i e1 a n c hu hs
      injection h with h; subst h
      rw [hs] at hx
      have : ∃ a' c', ρ' x = .slice a' n c' := by
        cases a with
        | none => generalize ρ' x = y at hx; cases hx with | sliceN => exact ⟨_, _, rfl⟩
        | some a => obtain ⟨a', c', e, _⟩ := vr_slice hx; exact ⟨_, _, e⟩
      obtain ⟨a', c', e⟩ := this
      exact ⟨.int .i64 n, by simp [execOp, resolve, invoke, builtin, Builtin.len_, run_underlying hu, e, goInt], .int _ _⟩
    · exact pl (by simp) h
  · cases h
  · rename_i hs
    exact pl (fun cs b e => hs cs b e) h

/-! ### The symbolic operations -/
theorem runPure_bind {α β : Type} : ∀ (s : Sem α) (f : α → Sem β), runPure P (s.bind f) = (runPure P s).bind fun a => runPure P (f a)
  | .pure _, _ => rfl
  | .program k, f => by simp only [Sem.bind, runPure]; exact runPure_bind (k P) f
  | .mark _ k, f => by simp only [Sem.bind, runPure]; exact runPure_bind k f
  | .load .., _ | .store .., _ | .new .., _ | .shape .., _ | .freeze .., _ | .frozen .., _ | .getObj .., _ | .setObj .., _
  | .choose .., _ | .sys .., _ | .halt .., _ => rfl
theorem runPure_bind' {α β : Type} (s : Sem α) (f : α → Sem β) : runPure P (s >>= f) = (runPure P s).bind fun a => runPure P (f a) := runPure_bind s f
theorem runPure_pure {α : Type} (a : α) : runPure P (pure a : Sem α) = some a := rfl

theorem kindV_func {f : FuncId} {fs cs : Array Value} (hf : symF f = false) : kindV (.func (.func f) fs cs) = none := by
  unfold kindV
  split
  · rename_i h; cases h
  · rename_i h; injection h with h1 h2 h3; injection h1 with h1; subst h1; rw [hf]; rfl
  · rfl
theorem num_vr {x x' : Value} {k : IntKind} (h : VR m x x') (hk : kindV x = some k) : ∃ n d, x' = .int k n ∧ evS m.env d x = some (.int k n) := by
  cases h with
  | int k' n => simp only [kindV, Option.some.injEq] at hk; subst hk; exact ⟨n, 1, rfl, rfl⟩
  | symI hf hh =>
    rename_i f xs k' n
    obtain ⟨d, hd⟩ := hh
    cases xs with
    | nil => simp [kindV] at hk
    | cons tag rest =>
      cases tag with
      | int kt i =>
        simp only [kindV, hf, cond_true, Option.some.injEq] at hk
        subst hk
        cases d with
        | zero => cases hd
        | succ d =>
          have hd' := hd
          simp only [evS, hf, cond_true] at hd
          split at hd
          · rename_i vs hvs
            cases d with
            | zero => simp [mapS, evS] at hvs
            | succ d =>
              simp only [mapS] at hvs
              have e : evS m.env (d + 1) (.int kt i) = some (.int kt i) := rfl
              rw [e] at hvs
              simp only at hvs
              split at hvs
              · injection hvs with hvs
                subst hvs
                obtain ⟨n', e'⟩ := apS_int hd
                injection e' with e1 e2
                subst e1
                exact ⟨n, _, rfl, hd'⟩
              · cases hvs
          · cases hd
      | _ => simp [kindV] at hk
  | symB hf hh =>
    rename_i f xs b
    exfalso
    obtain ⟨d, hd⟩ := hh
    cases xs with
    | nil => simp [kindV] at hk
    | cons tag rest =>
      cases tag with
      | int kt i =>
        cases d with
        | zero => cases hd
        | succ d =>
          simp only [evS, hf, cond_true] at hd
          split at hd
          · rename_i vs hvs
            cases d with
            | zero => simp [mapS, evS] at hvs
            | succ d =>
              simp only [mapS] at hvs
              have e : evS m.env (d + 1) (.int kt i) = some (.int kt i) := rfl
              rw [e] at hvs
              simp only at hvs
              split at hvs
              · injection hvs with hvs
                subst hvs
                obtain ⟨n', e'⟩ := apS_int hd
                cases e'
              · cases hvs
          · cases hd
      | _ => simp [kindV] at hk
  | func hf _ _ _ _ => rw [kindV_func hf] at hk; cases hk
  | _ => simp [kindV] at hk

theorem vr_mkI {c : Nat} {k : IntKind} {i n : Int} {xs : List Value} (h : ∃ d, evS m.env d (mk c (.int k i) xs) = some (.int k n)) : VR m (mk c (.int k i) xs) (.int k n) := .symI (symF_mk c) h
theorem vr_mkB {c : Nat} {b0 b : Bool} {xs : List Value} (h : ∃ d, evS m.env d (mk c (.bool b0) xs) = some (.bool b)) : VR m (mk c (.bool b0) xs) (.bool b) := .symB (symF_mk c) h

theorem evS_vr {d : Nat} {r x : Value} (h : evS m.env d r = some x) : VR m r x := by
  cases d with
  | zero => cases h
  | succ d =>
    have h0 := h
    unfold evS at h
    split at h
    · injection h with h; subst h; exact .int _ _
    · injection h with h; subst h; exact .bool _
    · rename_i f xs
      cases hf : symF f with
      | false => rw [hf] at h; cases h
      | true =>
        rw [hf] at h
        simp only [cond_true] at h
        split at h
        · rename_i vs hvs
          cases vs with
          | nil => simp [apS] at h
          | cons tag rest =>
            cases tag with
            | int k i => obtain ⟨n, e⟩ := apS_int h; subst e; exact .symI hf ⟨_, h0⟩
            | bool b => obtain ⟨n, e⟩ := apS_bool h; subst e; exact .symB hf ⟨_, h0⟩
            | _ => simp [apS] at h
        · cases h
    · cases h
theorem vr_decV {X : Xt} (hS : Sat m.env X.gam) {v x : Value} (h : ∃ d, evS m.env d v = some x) : VR m (decG X v) x := by
  unfold decG
  split
  · rename_i r hl
    obtain ⟨d, y, h1, h2⟩ := hS _ (look_some _ _ _ hl)
    obtain ⟨d', hd'⟩ := h
    have := evS_det m.env h1 hd'
    subst this
    exact evS_vr h2
  · obtain ⟨d, hd⟩ := h
    exact evS_vr hd
theorem vr_dec {X : Xt} (hS : Sat m.env X.gam) {c : Nat} {b0 b : Bool} {xs : List Value} (h : ∃ d, evS m.env d (mk c (.bool b0) xs) = some (.bool b)) : VR m (decG X (mk c (.bool b0) xs)) (.bool b) := vr_decV hS h
theorem look_bool {X : Xt} (hS : Sat m.env X.gam) {v : Value} {b : Bool} (h : look X.gam v = some (.bool b)) : ∃ d, evS m.env d v = some (.bool b) := by
  obtain ⟨d, x, h1, h2⟩ := hS _ (look_some _ _ _ h)
  cases d with
  | zero => cases h2
  | succ d =>
    simp only [evS, Option.some.injEq] at h2
    subst h2
    exact ⟨_, h1⟩

def cmpV (op : BinOp) (a b : Int) : Bool := match op with
  | .lss => decide (a < b)
  | .leq => decide (a ≤ b)
  | .gtr => decide (b < a)
  | .geq => decide (b ≤ a)
  | .eql => a == b
  | _ => a != b

theorem bin_run {op : BinOp} {t z : TypeId} {x y : Operand} {ρ' : Operand → Value} {o : Oper} {kd : IntKind} {a b : Int} (ho : o.op = .binOp op t x y z) (hx : ρ' x = .int kd a) (hy : ρ' y = .int kd b) {v : Value} (hop : op ≠ .shl ∧ op ≠ .shr) (hr : runPure P (binOp op t (.int kd a) (.int kd b)) = some v) (w : World) :
    (execOp ρ' o).run P w = .ok (.value v) w := by
  refine runPure_run _ _ w ?_
  unfold execOp
  rw [ho]
  simp only [hx, hy, runPure_bind']
  have hg : runPure P (eqGuard op t x y (.int kd a) (.int kd b)) = some () := by
    cases op <;> rfl
  rw [hg]
  simp only [Option.bind_some, hr]
  rfl

theorem intTag (k : IntKind) (i : Int) : (∃ k' n, (Value.int k i) = .int k' n) ∨ ∃ b, (Value.int k i) = .bool b := .inl ⟨k, i, rfl⟩
theorem boolTag (b : Bool) : (∃ k' n, (Value.bool b) = .int k' n) ∨ ∃ b', (Value.bool b) = .bool b' := .inr ⟨b, rfl⟩

theorem isPos_sound {X : Xt} (hS : Sat m.env X.gam) {y : Value} {k : IntKind} {b : Int} {d : Nat} (h : isPos X y = true) (hy : evS m.env d y = some (.int k b)) : 1 ≤ b := by
  unfold isPos at h
  split at h
  · rename_i b0 hl
    obtain ⟨d', hd'⟩ := look_bool hS hl
    have hb0 : b0 = true := h
    subst hb0
    cases d' with
    | zero => cases hd'
    | succ d' =>
      rw [evS_mk] at hd'
      split at hd'
      · rename_i vs hvs
        simp only [mapS] at hvs
        cases d' with
        | zero => simp [evS] at hvs
        | succ d' =>
          have e0 : evS m.env (d' + 1) (.bool true) = some (.bool true) := rfl
          have e1 : evS m.env (d' + 1) (.int .i64 1) = some (.int .i64 1) := rfl
          rw [e0, e1] at hvs
          cases hyy : evS m.env (d' + 1) y with
          | none => rw [hyy] at hvs; cases hvs
          | some u =>
            have := evS_det m.env hyy hy
            subst this
            rw [hyy] at hvs
            simp only [Option.some.injEq] at hvs
            subst hvs
            simp only [apS] at hd'
            split at hd'
            · simp only [Option.some.injEq, Value.bool.injEq, decide_eq_true_eq] at hd'
              omega
            · cases hd'
      · cases hd'
  · cases h

theorem symBin_sound {X : Xt} (hS : Sat m.env X.gam) {op : BinOp} {t z : TypeId} {x y : Operand} {ρ ρ' : Operand → Value} {o : Oper} (ho : o.op = .binOp op t x y z) {k : IntKind} {a b : Int} {d d' : Nat} {v : Value}
    (hx : ρ' x = .int k a) (hy : ρ' y = .int k b) (ex : evS m.env d (ρ x) = some (.int k a)) (ey : evS m.env d' (ρ y) = some (.int k b)) (h : symBin X op k (ρ x) (ρ y) = some v) (w : World) :
    ∃ v', (execOp ρ' o).run P w = .ok (.value v') w ∧ VR m v v' := by
  have I : ∀ (c : Nat) (n : Int), op ≠ .shl ∧ op ≠ .shr → apS m.env c [.int k 0, .int k a, .int k b] = some (.int k n) → runPure P (binOp op t (.int k a) (.int k b)) = some (.int k n) → some (decG X (mk c (.int k 0) [ρ x, ρ y])) = some v → ∃ v', (execOp ρ' o).run P w = .ok (.value v') w ∧ VR m v v' := by
    intro c n hop ha hr hv
    injection hv with hv
    subst hv
    exact ⟨_, bin_run ho hx hy hop hr w, vr_decV hS (evS_mk2 (intTag k 0) ex ey ha)⟩
  have B : ∀ (c : Nat) (n : Bool), op ≠ .shl ∧ op ≠ .shr → apS m.env c [.bool true, .int k a, .int k b] = some (.bool n) → runPure P (binOp op t (.int k a) (.int k b)) = some (.bool n) → some (decG X (mk c (.bool true) [ρ x, ρ y])) = some v → ∃ v', (execOp ρ' o).run P w = .ok (.value v') w ∧ VR m v v' := by
    intro c n hop ha hr hv
    injection hv with hv
    subst hv
    exact ⟨_, bin_run ho hx hy hop hr w, vr_dec hS (evS_mk2 (boolTag true) ex ey ha)⟩
  unfold symBin at h
  split at h
  · exact I 2 (k.wrap (a + b)) (by simp) (by simp [apS]) (by simp [binOp, Op.intArith, runPure_pure]) h
  · exact I 3 (k.wrap (a - b)) (by simp) (by simp [apS]) (by simp [binOp, Op.intArith, runPure_pure]) h
  · exact I 4 (k.wrap (a * b)) (by simp) (by simp [apS]) (by simp [binOp, Op.intArith, runPure_pure]) h
  · split at h
    · rename_i k' n hn
      rw [hn] at ey
      have : n = b := by
        cases d' with
        | zero => cases ey
        | succ d' => simp [evS] at ey; exact ey.2
      subst this
      cases hz : decide (n = 0) with
      | true => rw [hz] at h; cases h
      | false =>
        rw [hz] at h
        have hz' : ¬ n = 0 := by simpa using hz
        exact I 5 (k.wrap (a.tdiv n)) (by simp) (by simp [apS]) (by simp [binOp, Op.intDiv, hz', runPure_pure]) h
    · cases hp : isPos X (ρ y) with
      | false => rw [hp] at h; cases h
      | true =>
        rw [hp] at h
        have hz' : ¬ b = 0 := by have := isPos_sound hS hp ey; omega
        exact I 5 (k.wrap (a.tdiv b)) (by simp) (by simp [apS]) (by simp [binOp, Op.intDiv, hz', runPure_pure]) h
  · split at h
    · rename_i k' n hn
      rw [hn] at ey
      have : n = b := by
        cases d' with
        | zero => cases ey
        | succ d' => simp [evS] at ey; exact ey.2
      subst this
      cases hz : decide (n = 0) with
      | true => rw [hz] at h; cases h
      | false =>
        rw [hz] at h
        have hz' : ¬ n = 0 := by simpa using hz
        exact I 6 (a.tmod n) (by simp) (by simp [apS]) (by simp [binOp, Op.intDiv, hz', runPure_pure]) h
    · cases hp : isPos X (ρ y) with
      | false => rw [hp] at h; cases h
      | true =>
        rw [hp] at h
        have hz' : ¬ b = 0 := by have := isPos_sound hS hp ey; omega
        exact I 6 (a.tmod b) (by simp) (by simp [apS]) (by simp [binOp, Op.intDiv, hz', runPure_pure]) h
  · exact I 7 (k.wrap (BitVec.ofInt k.bits a &&& BitVec.ofInt k.bits b).toNat) (by simp) (by simp [apS]) (by simp [binOp, Op.intBits, runPure_pure]) h
  · exact I 8 (k.wrap (BitVec.ofInt k.bits a ||| BitVec.ofInt k.bits b).toNat) (by simp) (by simp [apS]) (by simp [binOp, Op.intBits, runPure_pure]) h
  · exact B 20 (decide (a < b)) (by simp) (by simp [apS]) (by simp [binOp, Op.intCmp, runPure_pure]) h
  · exact B 21 (decide (a ≤ b)) (by simp) (by simp [apS]) (by simp [binOp, Op.intCmp, runPure_pure]) h
  · exact B 22 (decide (b < a)) (by simp) (by simp [apS]) (by simp [binOp, Op.intCmp, runPure_pure]) h
  · exact B 23 (decide (b ≤ a)) (by simp) (by simp [apS]) (by simp [binOp, Op.intCmp, runPure_pure]) h
  · exact B 24 (a == b) (by simp) (by simp [apS]) (by simp [binOp, Op.intCmp, runPure_pure]) h
  · exact B 25 (a != b) (by simp) (by simp [apS]) (by simp [binOp, Op.intCmp, runPure_pure]) h
  · cases h

theorem boolV_vr {x x' : Value} (h : VR m x x') (hk : isBoolV x = true) : ∃ b d, x' = .bool b ∧ evS m.env d x = some (.bool b) := by
  cases h with
  | symB hf hh => obtain ⟨d, hd⟩ := hh; exact ⟨_, d, rfl, hd⟩
  | symI hf hh =>
    rename_i f xs k' n
    exfalso
    obtain ⟨d, hd⟩ := hh
    cases xs with
    | nil => simp [isBoolV] at hk
    | cons tag rest =>
      cases tag with
      | bool b0 =>
        cases d with
        | zero => cases hd
        | succ d =>
          simp only [evS, hf, cond_true] at hd
          split at hd
          · rename_i vs hvs
            cases d with
            | zero => simp [mapS, evS] at hvs
            | succ d =>
              simp only [mapS] at hvs
              have e : evS m.env (d + 1) (.bool b0) = some (.bool b0) := rfl
              rw [e] at hvs
              simp only at hvs
              split at hvs
              · injection hvs with hvs
                subst hvs
                obtain ⟨b', e'⟩ := apS_bool hd
                cases e'
              · cases hvs
          · cases hd
      | _ => simp [isBoolV] at hk
  | func hf _ _ _ _ =>
    exfalso
    revert hk
    unfold isBoolV
    split
    · rename_i h; injection h with h1 h2 h3; injection h1 with h1; subst h1; rw [hf]; intro h; cases h
    · intro h; cases h
  | _ => simp [isBoolV] at hk

theorem notNeg_sound {X : Xt} (hS : Sat m.env X.gam) {y : Value} {k : IntKind} {b : Int} {d : Nat} (h : notNeg X y = true) (hy : evS m.env d y = some (.int k b)) : 0 ≤ b := by
  unfold notNeg at h
  split at h
  · rename_i b0 hl
    obtain ⟨d', hd'⟩ := look_bool hS hl
    have hb0 : b0 = false := by simpa using h
    subst hb0
    cases d' with
    | zero => cases hd'
    | succ d' =>
      rw [evS_mk] at hd'
      split at hd'
      · rename_i vs hvs
        simp only [mapS] at hvs
        cases d' with
        | zero => simp [evS] at hvs
        | succ d' =>
          have e0 : evS m.env (d' + 1) (.bool true) = some (.bool true) := rfl
          have e1 : evS m.env (d' + 1) (.int .i64 0) = some (.int .i64 0) := rfl
          rw [e0, e1] at hvs
          cases hyy : evS m.env (d' + 1) y with
          | none => rw [hyy] at hvs; cases hvs
          | some u =>
            have := evS_det m.env hyy hy
            subst this
            rw [hyy] at hvs
            simp only [Option.some.injEq] at hvs
            subst hvs
            simp only [apS] at hd'
            split at hd'
            · simp only [Option.some.injEq, Value.bool.injEq, decide_eq_false_iff_not] at hd'
              omega
            · cases hd'
      · cases hd'
  · cases h

theorem okI_vr {v v' : Value} (hk : okI v = true) (h : VR m v v') : ∃ n d, v' = (.int .i64 n) ∧ evS m.env d v = some (.int .i64 n) := by
  unfold okI at hk
  split at hk
  · rename_i hkv; exact num_vr h hkv
  · cases hk

theorem eqD_sound {X : Xt} (hS : Sat m.env X.gam) {x y : Value} {a b : Int} {d d' : Nat} {r : Bool} (hx : evS m.env d x = some (.int .i64 a)) (hy : evS m.env d' y = some (.int .i64 b)) (h : eqD X x y = some r) : (a == b) = r := by
  unfold eqD at h
  split at h
  · simp only [Option.some.injEq] at h
    cases d with
    | zero => cases hx
    | succ d =>
      cases d' with
      | zero => cases hy
      | succ d' => simp [evS] at hx hy; rw [← h, hx.2, hy.2]
  · split at h
    case h_2 => cases h
    rename_i b0 hl
    injection h with h
    subst h
    obtain ⟨d0, hd0⟩ := look_bool hS hl
    obtain ⟨d1, hd1⟩ := evS_mk2 (E := m.env) (c := 24) (r := .bool (a == b)) (boolTag true) hx hy (by simp [apS])
    have := evS_det m.env hd1 hd0
    injection this

theorem evSym_sound {X : Xt} (hS : Sat m.env X.gam) (hQ : EqOk P X) {o : Oper} {ρ ρ' : Operand → Value} {v : Value} (hρ : OpR m ρ ρ' o) (h : evSym P X o ρ = some v) (w : World) :
    ∃ v', (execOp ρ' o).run P w = .ok (.value v') w ∧ VR m v v' := by
  obtain ⟨dst, op, type, pos, after, guard⟩ := o
  unfold evSym at h
  unfold OpR at hρ
  simp only at h
  split at h
  · rename_i op t x y z
    have hx := hρ x (by simp [Op.operands])
    have hy := hρ y (by simp [Op.operands])
    split at h
    · rename_i k k' hkx hky
      obtain ⟨a, d, ea, da⟩ := num_vr hx hkx
      obtain ⟨b, d', eb, db⟩ := num_vr hy hky
      split at h
      · rename_i k2 n hn
        cases hz : decide (0 ≤ n) with
        | false => rw [hz] at h; cases h
        | true =>
          rw [hz] at h
          simp only [cond_true, Option.some.injEq] at h
          have hz' : 0 ≤ n := by simpa using hz
          have hb : b = n := by
            rw [hn] at db
            cases d' with
            | zero => cases db
            | succ d' => simp [evS] at db; exact db.2.symm
          subst hb
          subst h
          refine ⟨.int k (k.wrap (a * 2 ^ (min b.toNat k.bits))), ?_, vr_decV hS (evS_mk2 (intTag k 0) da db (by simp [apS]))⟩
          have hlt : ¬ b < 0 := by omega
          simp [execOp, ea, eb, eqGuard, binOp, Op.shift, hlt]
      · rename_i k2 n hn
        cases hz : decide (0 ≤ n) with
        | false => rw [hz] at h; cases h
        | true =>
          rw [hz] at h
          simp only [cond_true, Option.some.injEq] at h
          have hz' : 0 ≤ n := by simpa using hz
          have hb : b = n := by
            rw [hn] at db
            cases d' with
            | zero => cases db
            | succ d' => simp [evS] at db; exact db.2.symm
          subst hb
          subst h
          refine ⟨.int k (a.fdiv (2 ^ (min b.toNat k.bits))), ?_, vr_decV hS (evS_mk2 (intTag k 0) da db (by simp [apS]))⟩
          have hlt : ¬ b < 0 := by omega
          simp [execOp, ea, eb, eqGuard, binOp, Op.shift, hlt]
      · cases hn : notNeg X (ρ y) with
        | false => rw [hn] at h; cases h
        | true =>
          rw [hn] at h
          simp only [cond_true, Option.some.injEq] at h
          have hz' := notNeg_sound hS hn db
          subst h
          refine ⟨.int k (k.wrap (a * 2 ^ (min b.toNat k.bits))), ?_, vr_decV hS (evS_mk2 (intTag k 0) da db (by simp [apS]))⟩
          have hlt : ¬ b < 0 := by omega
          simp [execOp, ea, eb, eqGuard, binOp, Op.shift, hlt]
      · cases hn : notNeg X (ρ y) with
        | false => rw [hn] at h; cases h
        | true =>
          rw [hn] at h
          simp only [cond_true, Option.some.injEq] at h
          have hz' := notNeg_sound hS hn db
          subst h
          refine ⟨.int k (a.fdiv (2 ^ (min b.toNat k.bits))), ?_, vr_decV hS (evS_mk2 (intTag k 0) da db (by simp [apS]))⟩
          have hlt : ¬ b < 0 := by omega
          simp [execOp, ea, eb, eqGuard, binOp, Op.shift, hlt]
      · cases hk : decide (k = k') with
        | false => rw [hk] at h; cases h
        | true =>
          rw [hk] at h
          simp only [cond_true] at h
          have hk' : k = k' := by simpa using hk
          subst hk'
          exact symBin_sound hS rfl ea eb da db h w
    · split at h
      · unfold eqPair at h
        split at h
        · rename_i x0 x1 y0 y1 hxe hye
          cases hc : (X.eqs.any (Nat.beq t) && (okI x0 && okI x1 && okI y0 && okI y1)) with
          | false => rw [hc] at h; cases h
          | true =>
            rw [hc] at h
            simp only [cond_true] at h
            simp only [Bool.and_eq_true, List.any_eq_true] at hc
            obtain ⟨⟨t', ht', htt⟩, ⟨⟨o1, o2⟩, o3⟩, o4⟩ := hc
            have htt' := Nat.eq_of_beq_eq_true htt
            subst htt'
            split at h
            · rename_i ra rb ha hb
              simp only [Option.some.injEq] at h
              subst h
              rw [hxe] at hx
              rw [hye] at hy
              obtain ⟨cx, ex, vx⟩ := vr_agg hx
              obtain ⟨cy, ey, vy⟩ := vr_agg hy
              obtain ⟨cx⟩ := cx
              obtain ⟨cy⟩ := cy
              obtain ⟨p0, l0, rfl, q0, m0⟩ := vx.cons_inv
              obtain ⟨p1, l1, rfl, q1, m1⟩ := m0.cons_inv
              obtain ⟨p2, l2, rfl, q2, m2⟩ := vy.cons_inv
              obtain ⟨p3, l3, rfl, q3, m3⟩ := m2.cons_inv
              have e1 : l1 = [] := List.eq_nil_of_length_eq_zero (by rw [← m1.1]; rfl)
              have e3 : l3 = [] := List.eq_nil_of_length_eq_zero (by rw [← m3.1]; rfl)
              subst e1 e3
              obtain ⟨n0, d0, rfl, g0⟩ := okI_vr o1 q0
              obtain ⟨n1, d1, rfl, g1⟩ := okI_vr o2 q1
              obtain ⟨n2, d2, rfl, g2⟩ := okI_vr o3 q2
              obtain ⟨n3, d3, rfl, g3⟩ := okI_vr o4 q3
              refine ⟨.bool (n0 == n2 && n1 == n3), hQ _ ht' _ x y _ ρ' n0 n1 n2 n3 w rfl ex ey, ?_⟩
              rw [eqD_sound hS g0 g2 ha, eqD_sound hS g1 g3 hb]
              exact .bool _
            · cases h
        · cases h
      · cases h
  · rename_i t x
    have hx := hρ x (by simp [Op.operands])
    split at h
    · rename_i k hkx
      obtain ⟨a, d, ea, da⟩ := num_vr hx hkx
      simp only [Option.some.injEq] at h
      subst h
      refine ⟨.int k (k.wrap (-a)), ?_, vr_decV hS (evS_mk1 (intTag k 0) da (by simp [apS]))⟩
      simp [execOp, ea, Op.unary, Op.intArith, Int.zero_sub]
    · cases h
  · rename_i t x
    have hx := hρ x (by simp [Op.operands])
    cases hb : isBoolV (ρ x) with
    | false => rw [hb] at h; cases h
    | true =>
      rw [hb] at h
      simp only [cond_true, Option.some.injEq] at h
      obtain ⟨b, d, eb, db⟩ := boolV_vr hx hb
      subst h
      refine ⟨.bool (!b), ?_, vr_dec hS (evS_mk1 (boolTag true) db (by simp [apS]))⟩
      simp [execOp, eb, Op.unary]
  · rename_i s t x
    have hx := hρ x (by simp [Op.operands])
    split at h
    · rename_i k0 k k1 hs ht hkx
      obtain ⟨a, d, ea, da⟩ := num_vr hx hkx
      simp only [Option.some.injEq] at h
      subst h
      refine ⟨.int k (k.wrap a), ?_, vr_decV hS (evS_mk1 (intTag k 0) da (by simp [apS]))⟩
      simp [execOp, ea, convert, run_underlying hs, run_underlying ht, Conv.intToInt]
    · cases h
  · rename_i x y ts
    have hx := hρ x (by simp [Op.operands, Call.operands])
    have hy := hρ y (by simp [Op.operands, Call.operands])
    split at h
    · rename_i k k' hkx hky
      obtain ⟨a, d, ea, da⟩ := num_vr hx hkx
      obtain ⟨b, d', eb, db⟩ := num_vr hy hky
      cases hk : decide (k = k') with
      | false => rw [hk] at h; cases h
      | true =>
        rw [hk] at h
        simp only [cond_true, Option.some.injEq] at h
        have hk' : k = k' := by simpa using hk
        subst hk' h
        refine ⟨.int k (if b < a then b else a), ?_, vr_decV hS (evS_mk2 (intTag k 0) da db (by simp [apS]))⟩
        simp [execOp, resolve, invoke, builtin, Builtin.min_, Builtin.min2, ea, eb]
    · cases h
  · rename_i x y ts
    have hx := hρ x (by simp [Op.operands, Call.operands])
    have hy := hρ y (by simp [Op.operands, Call.operands])
    split at h
    · rename_i k k' hkx hky
      obtain ⟨a, d, ea, da⟩ := num_vr hx hkx
      obtain ⟨b, d', eb, db⟩ := num_vr hy hky
      cases hk : decide (k = k') with
      | false => rw [hk] at h; cases h
      | true =>
        rw [hk] at h
        simp only [cond_true, Option.some.injEq] at h
        have hk' : k = k' := by simpa using hk
        subst hk' h
        refine ⟨.int k (if a < b then b else a), ?_, vr_decV hS (evS_mk2 (intTag k 0) da db (by simp [apS]))⟩
        simp [execOp, resolve, invoke, builtin, Builtin.max_, Builtin.max2, ea, eb]
    · cases h
  · cases h

theorem evInertS_sound {X : Xt} (hS : Sat m.env X.gam) (hQ : EqOk P X) {H : Hp} (hE : EszR m H) {o : Oper} {ρ ρ' : Operand → Value} {v : Value} (hρ : OpR m ρ ρ' o) (h : evInertS P X H o ρ = some v) (w : World) :
    ∃ v', (execOp ρ' o).run P w = .ok (.value v') w ∧ VR m v v' := by
  unfold evInertS at h
  split at h
  · rename_i v0 hv
    injection h with h; subst h
    exact evInert_sound hE hρ hv w
  · exact evSym_sound hS hQ hρ h w
end
end Go.Sm
end

section
/-
  The operations that read, write or make memory.
-/
namespace Go.Sm

def readCells (H loc : Hp) (a : Addr) (n : Nat) : Option (List Value) :=
  match a.spot with
  | none => match H[a.block]? with
    | some b => bif b.live && decide (a.off + n ≤ b.cells.length) then fSpine ((b.cells.drop a.off).take n) some else none
    | none => none
  | some 0 => match loc[a.block]? with
    | some b => bif b.live && decide (a.off + n ≤ b.cells.length) then fSpine ((b.cells.drop a.off).take n) some else none
    | none => none
  | some (_ + 1) => none

def cellOk (v : Value) : Bool := v.oneCell' && noLoc v

def writeCells (H loc : Hp) (a : Addr) (vs : List Value) : Option (Hp × Hp × List Nat × List Nat) :=
  match a.spot with
  | none => match H[a.block]? with
    | some b => bif b.live && decide (a.off + vs.length ≤ b.cells.length) && vs.all cellOk then fSpine (splice b.cells a.off vs) (fun cs => fSet H a.block { b with cells := cs } fun H' => some (H', loc, [a.block], [])) else none
    | none => none
  | some 0 => match loc[a.block]? with
    | some b => bif b.live && decide (a.off + vs.length ≤ b.cells.length) && vs.all (·.oneCell') then fSpine (splice b.cells a.off vs) (fun cs => fSet loc a.block { b with cells := cs } fun loc' => some (H, loc', [], [a.block])) else none
    | none => none
  | some (_ + 1) => none

section
variable {P : Program} {m : Mp} {H loc : Hp} {w : World}

theorem cell_of_block {w : World} {g : Nat} {cs : Array Value} {t : TypeId} {fr : Nat × Nat} (h : w.heap[g]? = some (.cells cs t fr)) (o : Nat) : w.cell? ⟨g, o, none⟩ = cs[o]? := cell_of_row w g o cs t fr h

theorem read_sound (hR : Rel m H loc w) {a a' : Addr} (har : AR m a a') {n : Nat} {vs : List Value} (h : readCells H loc a n = some vs) :
    ∃ vs', VRs m vs vs' ∧ vs.length = n ∧ ∀ j v, vs'[j]? = some v → w.cell? (a'.add j) = some v := by
  obtain ⟨b', o', s'⟩ := a'
  have hs := har.spot
  simp only at hs
  subst hs
  have hadd : ∀ j, (⟨b', o', none⟩ : Addr).add j = ⟨b', o' + j, none⟩ := fun j => addr_add_spot rfl j
  unfold readCells at h
  simp only [fSpine_eq] at h
  rcases har with ⟨h1, h2, h3, _⟩ | ⟨h1, h2, h3, _⟩
  · rw [h1] at h
    simp only at h h2 h3
    split at h
    · rename_i b hb
      cases hc : (b.live && decide (a.off + n ≤ b.cells.length)) with
      | false => rw [hc] at h; cases h
      | true =>
        rw [hc] at h
        simp only [cond_true, Option.some.injEq] at h
        subst h
        simp only [Bool.and_eq_true, decide_eq_true_eq] at hc
        obtain ⟨_, b0, hb0, hG⟩ := hR.glob _ _ h2
        rw [hb] at hb0; injection hb0 with hb0; subst hb0
        obtain ⟨cs, e1, e2, e3, _⟩ := hG.blk hc.1
        refine ⟨(((cs.toList.take b.cells.length)).drop a.off).take n, ((e3.mono (noL_le m)).drop _).take _, by simp; omega, fun j v hv => ?_⟩
        rw [hadd, cell_of_block e1]
        simp only [List.getElem?_take, List.getElem?_drop] at hv
        split at hv
        · split at hv
          · rw [h3]; simpa using hv
          · cases hv
        · cases hv
    · cases h
  · rw [h1] at h
    simp only at h h2 h3
    split at h
    · rename_i b hb
      cases hc : (b.live && decide (a.off + n ≤ b.cells.length)) with
      | false => rw [hc] at h; cases h
      | true =>
        rw [hc] at h
        simp only [cond_true, Option.some.injEq] at h
        subst h
        simp only [Bool.and_eq_true, decide_eq_true_eq] at hc
        obtain ⟨_, b0, hb0, hL⟩ := hR.locs _ _ h2
        rw [hb] at hb0; injection hb0 with hb0; subst hb0
        obtain ⟨cs, e1, e3⟩ := hL.blk hc.1
        refine ⟨((cs.toList).drop a.off).take n, (e3.drop _).take _, by simp; omega, fun j v hv => ?_⟩
        rw [hadd, cell_of_block e1]
        simp only [List.getElem?_take, List.getElem?_drop] at hv
        split at hv
        · rw [h3]; simpa using hv
        · cases hv
    · cases h

theorem vr_noLoc {v v' : Value} (hn : noLoc v = true) (h : VR m v v') : VR m.noL v v' := noLoc_vr (m := m) (m' := m.noL) rfl rfl rfl rfl rfl 6 v v' hn h
theorem vrs_noLoc {vs vs' : List Value} (hn : vs.all noLoc = true) (h : VRs m vs vs') : VRs m.noL vs vs' :=
  ⟨h.1, fun i v v' a b => vr_noLoc (List.all_eq_true.1 hn v (List.mem_of_getElem? a)) (h.2 i v v' a b)⟩
theorem vrs_one {vs vs' : List Value} (hn : vs.all (·.oneCell') = true) (h : VRs m vs vs') : ∀ v ∈ vs', v.oneCell' = true := by
  intro v' hv'
  obtain ⟨i, hi⟩ := List.getElem?_of_mem hv'
  have hlt : i < vs.length := by
    have := (List.getElem?_eq_some_iff.1 hi).1
    have := h.1
    omega
  have := h.2 i vs[i] v' (List.getElem?_eq_getElem hlt) hi
  rw [vr_oneCell this]
  exact List.all_eq_true.1 hn _ (List.getElem_mem hlt)
theorem all_cellOk {vs : List Value} (h : vs.all cellOk = true) : vs.all (·.oneCell') = true ∧ vs.all noLoc = true := by
  simp only [List.all_eq_true, cellOk, Bool.and_eq_true] at h ⊢
  exact ⟨fun v hv => (h v hv).1, fun v hv => (h v hv).2⟩

theorem write_sound (hR : Rel m H loc w) {a a' : Addr} (har : AR m a a') {vs vs' : List Value} (hv : VRs m vs vs') {H' loc' : Hp} {wg wl : List Nat} (h : writeCells H loc a vs = some (H', loc', wg, wl)) :
    ∃ w', (storeCells a' vs').run P w = .ok () w' ∧ Ext m H loc w m H' loc' w' wg wl := by
  obtain ⟨b', o', s'⟩ := a'
  have hs := har.spot
  simp only at hs
  subst hs
  unfold writeCells at h
  simp only [fSpine_eq, fSet_eq] at h
  rcases har with ⟨h1, h2, h3, _⟩ | ⟨h1, h2, h3, _⟩
  · rw [h1] at h
    simp only at h h2 h3
    subst h3
    split at h
    · rename_i b hb
      cases hc : (b.live && decide (a.off + vs.length ≤ b.cells.length) && vs.all cellOk) with
      | false => rw [hc] at h; cases h
      | true =>
        rw [hc] at h
        simp only [cond_true, Option.some.injEq, Prod.mk.injEq] at h
        obtain ⟨rfl, rfl, rfl, rfl⟩ := h
        simp only [Bool.and_eq_true, decide_eq_true_eq] at hc
        obtain ⟨⟨hl, hle⟩, hok⟩ := hc
        obtain ⟨ho, hn⟩ := all_cellOk hok
        obtain ⟨_, b0, hb0, hG⟩ := hR.glob _ _ h2
        rw [hb] at hb0; injection hb0 with hb0; subst hb0
        obtain ⟨cs, e1, e2, e3, _⟩ := hG.blk hl
        refine ⟨_, run_storeCells_at (P := P) b' a.off b.elem vs' 0 cs w e1 (by have := hv.1; omega) (vrs_one ho hv), ?_⟩
        have := ext_writeG hR h2 hb hl e1 a.off hle (vrs_noLoc hn hv)
        simpa [splice] using this
    · cases h
  · rw [h1] at h
    simp only at h h2 h3
    subst h3
    split at h
    · rename_i b hb
      cases hc : (b.live && decide (a.off + vs.length ≤ b.cells.length) && vs.all (·.oneCell')) with
      | false => rw [hc] at h; cases h
      | true =>
        rw [hc] at h
        simp only [cond_true, Option.some.injEq, Prod.mk.injEq] at h
        obtain ⟨rfl, rfl, rfl, rfl⟩ := h
        simp only [Bool.and_eq_true, decide_eq_true_eq] at hc
        obtain ⟨⟨hl, hle⟩, ho⟩ := hc
        obtain ⟨_, b0, hb0, hL⟩ := hR.locs _ _ h2
        rw [hb] at hb0; injection hb0 with hb0; subst hb0
        obtain ⟨cs, e1, e3⟩ := hL.blk hl
        refine ⟨_, run_storeCells_at (P := P) b' a.off b.elem vs' 0 cs w e1 (by have := hv.1; have := e3.1; simp at this; omega) (vrs_one ho hv), ?_⟩
        have := ext_writeL hR h2 hb hl e1 a.off hv
        simpa [splice] using this
    · cases h

def evLoad (P : Program) (H loc : Hp) (t : TypeId) (x : Value) : Option Value :=
  match x with
  | .pointer (some a) =>
    match isAggT P t with
    | some true => match P.info? t with
      | some i => match readCells H loc a i.size with
        | some vs => some (.agg ⟨vs⟩)
        | none => none
      | none => none
    | some false => match readCells H loc a 1 with
      | some [v] => some v
      | _ => none
    | none => none
  | _ => none

theorem load_sound (hR : Rel m H loc w) {t : TypeId} {x x' v : Value} (hx : VR m x x') (h : evLoad P H loc t x = some v) :
    ∃ v', (Instr.loadAt t x').run P w = .ok v' w ∧ VR m v v' := by
  unfold evLoad at h
  split at h
  · rename_i a
    obtain ⟨a', rfl, har⟩ := vr_ptr hx
    split at h
    · rename_i hagg
      split at h
      · rename_i i hi
        split at h
        · rename_i vs hvs
          injection h with h; subst h
          obtain ⟨vs', hvr, hlen, hcell⟩ := read_sound hR har hvs
          refine ⟨.agg vs'.toArray, ?_, hvr.agg⟩
          have := run_loadCells_list (P := P) w a' vs' hcell
          have hl : vs'.length = i.size := by have := hvr.1; omega
          rw [hl] at this
          simp [Instr.loadAt, Instr.sureAddr, loadVar, run_isAgg hagg, run_sizeOf' hi, this]
        · cases h
      · cases h
    · rename_i hagg
      split at h
      · rename_i v0 hvs
        injection h with h; subst h
        obtain ⟨vs', hvr, hlen, hcell⟩ := read_sound hR har hvs
        obtain ⟨v', l', rfl, h1, h2⟩ := hvr.cons_inv
        have hc := hcell 0 v' rfl
        have e0 : a'.add 0 = a' := rfl
        rw [e0] at hc
        exact ⟨v', by simp [Instr.loadAt, Instr.sureAddr, loadVar, run_isAgg hagg, hc], h1⟩
      · cases h
    · cases h
  · cases h

def evStore (P : Program) (H loc : Hp) (t : TypeId) (x v : Value) : Option (Hp × Hp × List Nat × List Nat) :=
  match x with
  | .pointer (some a) => match P.info? t with
    | some i => bif v.cells.size == i.size then writeCells H loc a v.cells.toList else none
    | none => none
  | _ => none

theorem store_sound (hR : Rel m H loc w) {t : TypeId} {x x' v v' : Value} (hx : VR m x x') (hv : VR m v v') {H' loc' : Hp} {wg wl : List Nat} (h : evStore P H loc t x v = some (H', loc', wg, wl)) :
    ∃ w', (Instr.storeAt t x' v').run P w = .ok () w' ∧ Ext m H loc w m H' loc' w' wg wl := by
  unfold evStore at h
  split at h
  · rename_i a
    obtain ⟨a', rfl, har⟩ := vr_ptr hx
    split at h
    · rename_i i hi
      cases hc : (v.cells.size == i.size) with
      | false => rw [hc] at h; cases h
      | true =>
        rw [hc] at h
        simp only [cond_true] at h
        have hcells := vr_cells hv
        obtain ⟨w', hrun, hext⟩ := write_sound (P := P) hR har hcells h
        refine ⟨w', ?_, hext⟩
        have hsz : v'.cells.size = i.size := by
          have h1 : v.cells.size = i.size := by simpa using hc
          have := hcells.1
          simp at this
          omega
        simp [Instr.storeAt, Instr.sureAddr, storeVar, run_sizeOf' hi, hsz, hrun]
    · cases h
  · cases h

/-- The cells of n zeros, as make and a literal lay them. -/
def zcells (z : Value) (n : Nat) : List Value := (List.range n).map fun i => z.cells[i % z.cells.size]!

theorem vr_cells_plain {z : Value} (h : plainV z = true) {m : Mp} : ∀ v ∈ z.cells.toList, VR m v v := by
  intro v hv
  obtain ⟨i, hi⟩ := List.getElem?_of_mem hv
  exact (vr_cells (plain_vr m 4 z h)).2 i v v hi hi

theorem zcells_vr {z : Value} (h : plainV z = true) (hz : 0 < z.cells.size) (n : Nat) (m : Mp) : VRs m (zcells z n) (zcells z n) := by
  refine ⟨rfl, fun i v v' a b => ?_⟩
  rw [a] at b; injection b with b; subst b
  simp only [zcells, List.getElem?_map, Option.map_eq_some_iff] at a
  obtain ⟨j, _, rfl⟩ := a
  have hlt : j % z.cells.size < z.cells.size := Nat.mod_lt _ hz
  rw [getElem!_pos z.cells _ hlt]
  exact vr_cells_plain h _ (by simp)

end
end Go.Sm
end

section
/-
  New blocks, append, copy.
-/
namespace Go.Sm

def ptrV (a : Addr) : Value := .pointer (some a)
def slcV (n c : Nat) (a : Addr) : Value := .slice (some a) n c

/-- What an operation that makes a block makes: the block, and the value that names it: none: a pointer; (n, c): a slice. -/
def evAlloc (P : Program) (op : Op) (ρ : Operand → Value) : Option (Blk × Option (Nat × Nat)) :=
  match op with
  | .alloc elem => match P.info? elem with
    | some i => match i.zero with
      | some z => bif plainV z then some (⟨z.cells.toList, elem, 0, false, true⟩, none) else none
      | none => none
    | none => none
  | .box elem x => some (⟨(ρ x).cells.toList, elem, 0, false, true⟩, none)
  | .buildSlice t len ps => match P.underlying t with
    | some (.slice elem) => match P.info? elem with
      | some i => match i.zero with
        | some z => bif plainV z && decide (0 < z.cells.size) && decide (len * i.size ≤ 16777216) then
            match Instr.fill (fun k => some (k * i.size, i.size)) ⟨zcells z (len * i.size)⟩ (ps.toList.map fun (k, x) => (k, ρ x)) with
            | some cells => some (⟨cells.toList, elem, 0, false, true⟩, some (len, len))
            | none => none
          else none
        | none => none
      | none => none
    | _ => none
  | .makeSlice t l c => match P.underlying t, ρ l, ρ c with
    | some (.slice elem), .int _ ln, .int _ cp => match P.info? elem with
      | some i => match i.zero with
        | some z => bif plainV z && decide (0 < z.cells.size) && decide (0 ≤ ln) && decide (ln ≤ cp) && decide (cp < 9223372036854775808) && decide ((i.bytes : Int) * cp ≤ 281474976710656) then
            some (⟨zcells z (cp.toNat * i.size), elem, 0, false, true⟩, some (ln.toNat, cp.toNat))
          else none
        | none => none
      | none => none
    | _, _, _ => none
  | _ => none

def nameV (k : Option (Nat × Nat)) (a : Addr) : Value :=
  match k with
  | none => .pointer (some a)
  | some (n, c) => .slice (some a) n c

theorem nameV_vr {m : Mp} {a a' : Addr} (h : AR m a a') (k : Option (Nat × Nat)) : VR m (nameV k a) (nameV k a') := by
  cases k with
  | none => exact h.vr
  | some p => exact SR.vr (.inl ⟨h, .inl rfl⟩)

section
variable {P : Program} {m : Mp} {H loc : Hp} {w : World}

/-- The concrete run: a block with related cells, named in the same way. -/
theorem alloc_run {o : Oper} {ρ ρ' : Operand → Value} (hρ : OpR m ρ ρ' o) {b : Blk} {k : Option (Nat × Nat)} (h : evAlloc P o.op ρ = some (b, k)) (w : World) :
    ∃ cs : Array Value, (execOp ρ' o).run P w = .ok (.value (nameV k ⟨w.heap.size, 0, none⟩)) (w.alloc (.cells cs b.elem)) ∧ VRs m b.cells cs.toList ∧ b.live = true ∧ b.loose = false := by
  obtain ⟨dst, op, type, pos, after, guard⟩ := o
  unfold OpR at hρ
  unfold evAlloc at h
  simp only at h hρ
  split at h
  · rename_i elem
    split at h
    · rename_i i hi
      split at h
      · rename_i z hz
        cases hp : plainV z with
        | false => rw [hp] at h; cases h
        | true =>
          rw [hp] at h
          simp only [cond_true, Option.some.injEq, Prod.mk.injEq] at h
          obtain ⟨rfl, rfl⟩ := h
          refine ⟨z.cells, ?_, vr_cells (plain_vr m 4 z hp), rfl, rfl⟩
          simp [execOp, Instr.alloc, zeroValue, run_typeInfo hi, hz, newVar, newRow, nameV]
      · cases h
    · cases h
  · rename_i elem x
    simp only [Option.some.injEq, Prod.mk.injEq] at h
    obtain ⟨rfl, rfl⟩ := h
    refine ⟨(ρ' x).cells, ?_, vr_cells (hρ x (by simp [Op.operands])), rfl, rfl⟩
    simp [execOp, Instr.box, newVar, newRow, nameV]
  · rename_i t len ps
    split at h
    · rename_i elem hu
      split at h
      · rename_i i hi
        split at h
        · rename_i z hz
          cases hc : (plainV z && decide (0 < z.cells.size) && decide (len * i.size ≤ 16777216)) with
          | false => rw [hc] at h; cases h
          | true =>
            rw [hc] at h
            simp only [cond_true] at h
            simp only [Bool.and_eq_true, decide_eq_true_eq] at hc
            obtain ⟨⟨hp, hz0⟩, hbig⟩ := hc
            split at h
            · rename_i cells hf
              simp only [Option.some.injEq, Prod.mk.injEq] at h
              obtain ⟨rfl, rfl⟩ := h
              have hparts : PartsR m (ps.toList.map fun p => (p.1, ρ p.2)) (ps.toList.map fun p => (p.1, ρ' p.2)) := parts_of fun p hp => hρ p.2 (by simp [Op.operands]; exact ⟨p.1, by simpa using hp⟩)
              obtain ⟨r', hr', hrr⟩ := fill_sound _ _ _ ⟨zcells z (len * i.size)⟩ _ hparts (zcells_vr hp hz0 _ m) hf
              refine ⟨r', ?_, hrr, rfl, rfl⟩
              have e : (ps.map fun (i, x) => (i, ρ' x)).toList = (ps.toList.map fun p => (p.1, ρ' p.2)) := by simp
              have hng : ¬ (len * i.size > 2 ^ 24) := by omega
              by_cases h0 : len * i.size = 0
              · have e3 : (Array.range (len * i.size)).map ((#[] : Array Value)[· % (#[] : Array Value).size]!) = ⟨zcells z (len * i.size)⟩ := by simp [h0, zcells]
                simp only [execOp, Instr.buildSlice, Sem.run_bind, run_underlying hu, Result.andThen_ok, run_sizeOf' hi, Sem.run_ite, hng, if_false, Sem.run_pure, if_pos h0, e3, e, hr', newRow, run_newObj_alloc, nameV]
              · have e3 : (Array.range (len * i.size)).map (z.cells[· % z.cells.size]!) = ⟨zcells z (len * i.size)⟩ := by
                  apply Array.ext'
                  simp [zcells]
                have e4 : (zeroValue elem).run P w = .ok z w := by simp [zeroValue, run_typeInfo hi, hz]
                simp only [execOp, Instr.buildSlice, Sem.run_bind, run_underlying hu, Result.andThen_ok, run_sizeOf' hi, Sem.run_ite, hng, if_false, Sem.run_pure, if_neg h0, e4, e3, e, hr', newRow, run_newObj_alloc, nameV]
            · cases h
        · cases h
      · cases h
    · cases h
  · rename_i t l c
    have hl := hρ l (by simp [Op.operands])
    have hcc := hρ c (by simp [Op.operands])
    split at h
    · rename_i elem k1 ln k2 cp hu e1 e2
      rw [e1] at hl
      rw [e2] at hcc
      have hl' := vr_int hl
      have hc' := vr_int hcc
      split at h
      · rename_i i hi
        split at h
        · rename_i z hz
          cases hc : (plainV z && decide (0 < z.cells.size) && decide (0 ≤ ln) && decide (ln ≤ cp) && decide (cp < 9223372036854775808) && decide ((i.bytes : Int) * cp ≤ 281474976710656)) with
          | false => rw [hc] at h; cases h
          | true =>
            rw [hc] at h
            simp only [cond_true, Option.some.injEq, Prod.mk.injEq] at h
            obtain ⟨rfl, rfl⟩ := h
            simp only [Bool.and_eq_true, decide_eq_true_eq] at hc
            obtain ⟨⟨⟨⟨⟨hp, hz0⟩, h0⟩, hlc⟩, h63⟩, hby⟩ := hc
            have hrun := run_make (P := P) w t elem i z hu hi hz k1 k2 ln cp h0 hlc hby (by omega)
            refine ⟨(madeCells z.cells (cp.toNat * i.size)), ?_, ?_, rfl, rfl⟩
            · simp only [execOp, Sem.run_bind, hl', hc', hrun, Result.andThen_ok, Sem.run_pure, nameV]
            · have : (madeCells z.cells (cp.toNat * i.size)).toList = zcells z (cp.toNat * i.size) := by
                simp [madeCells, zcells]
              rw [this]
              exact zcells_vr hp hz0 _ m
        · cases h
      · cases h
    · cases h
  · cases h

end
end Go.Sm
end

section
/-
  append and copy.
-/
namespace Go.Sm
section
variable {P : Program} {m : Mp} {H loc : Hp} {w : World}

/-- A block that is given up. -/
theorem ext_kill (h : Rel m H loc w) {i : Nat} {b : Blk} (hb : H[i]? = some b) (hm : ∃ g, m.gb i = some g) : Ext m H loc w m (H.set i { b with live := false }) loc w [i] [] := by
  refine ⟨Le.refl m, ⟨fun j g' e => ?_, h.locs, ?_, h.linj, h.disj⟩, fun j g' e => .inl ⟨j, e⟩, fun _ _ e => .inl e, fun _ _ e => .inl e, fun _ _ e => .inl e, rfl, rfl, rfl, Nat.le_refl _,
    fun _ _ _ _ => rfl, fun j hj hn => ?_, fun _ _ _ => rfl, fun j hj hn => ?_, fun _ _ _ => rfl, by simp, Nat.le_refl _, fun j x e => ?_, fun _ _ _ _ _ _ _ => rfl⟩
  · obtain ⟨hg', b', hb', hG'⟩ := h.glob j g' e
    by_cases hj : j = i
    · subst hj
      rw [hb] at hb'; injection hb' with hb'; subst hb'
      exact ⟨hg', _, getElem?_set_self' hb, hG'.lo, hG'.ez, fun hl => by cases hl⟩
    · exact ⟨hg', b', by rw [List.getElem?_set_ne (Ne.symm hj)]; exact hb', hG'⟩
  · intro a c g' ba bc ea ec ha hc la lc
    have hn : ∀ (x : Nat) (bx : Blk), (H.set i { b with live := false })[x]? = some bx → bx.live = true → H[x]? = some bx := by
      intro x bx hx lx
      by_cases hxi : x = i
      · subst hxi; rw [getElem?_set_self' hb] at hx; injection hx with hx; subst hx; cases lx
      · rwa [List.getElem?_set_ne (Ne.symm hxi)] at hx
    exact h.ginj a c g' ba bc ea ec (hn a ba ha la) (hn c bc hc lc) la lc
  · rw [List.getElem?_set_ne]
    intro e; subst e; obtain ⟨g, hg⟩ := hm; rw [hg] at hn; cases hn
  · rw [List.getElem?_set_ne]
    intro e; subst e; simp at hn
  · by_cases hj : j = i
    · subst hj
      rw [hb] at e; injection e with e; subst e
      exact ⟨_, getElem?_set_self' hb, rfl, rfl⟩
    · exact ⟨x, by rw [List.getElem?_set_ne (Ne.symm hj)]; exact e, rfl, rfl⟩

/-- An append that finds room in a block of unknown length: the block goes on under a new number. -/
theorem ext_takeover (h : Rel m H loc w) {i g : Nat} {b : Blk} (hi : m.gb i = some g) (hb : H[i]? = some b) (hlive : b.live = true) (hloose : b.loose = true)
    {cs : Array Value} (hcs : w.heap[g]? = some (.cells cs b.elem (0, 0))) {vs vs' : List Value} (ho : b.cells.length + vs.length ≤ cs.size) (hv : VRs m.noL vs vs') :
    Ext m H loc w (m.addG H.length g true b.esz cs.size) (H.set i { b with live := false } ++ [{ b with cells := b.cells ++ vs }]) loc (w.setRow g (splice cs.toList b.cells.length vs').toArray) [i] [] := by
  have hun := h.unG (Nat.le_refl H.length)
  have hle : Le m (m.addG H.length g true b.esz cs.size) := le_addG hun
  have hlt : ∀ j g', m.gb j = some g' → j < H.length := fun j g' e => by
    rcases Nat.lt_or_ge j H.length with hh | hh
    · exact hh
    · rw [h.unG hh] at e; cases e
  have hcase : ∀ j g', (m.addG H.length g true b.esz cs.size).gb j = some g' → (j = H.length ∧ g' = g) ∨ (j ≠ H.length ∧ m.gb j = some g') := fun j g' e => by
    simp only [Mp.addG] at e
    split at e
    · rename_i hj; injection e with e; exact .inl ⟨hj, e.symm⟩
    · rename_i hj; exact .inr ⟨hj, e⟩
  obtain ⟨hg, b0, hb0, hG⟩ := h.glob i g hi
  rw [hb] at hb0; injection hb0 with hb0; subst hb0
  obtain ⟨cs0, e1, e2, e3, e4, e5⟩ := hG.blk hlive
  rw [hcs] at e1; injection e1 with e1; injection e1 with e1; subst e1
  have hother : ∀ k, k ≠ g → (w.setRow g (splice cs.toList b.cells.length vs').toArray).heap[k]? = w.heap[k]? := fun k hk => setRow_other w g k _ hk
  have hset : ∀ j, j < H.length → (H.set i { b with live := false } ++ [{ b with cells := b.cells ++ vs }])[j]? = (H.set i { b with live := false })[j]? := fun j hj => List.getElem?_append_left (by simpa using hj)
  have hnew : (H.set i { b with live := false } ++ [{ b with cells := b.cells ++ vs }])[H.length]? = some { b with cells := b.cells ++ vs } := by
    rw [List.getElem?_append_right (by simp)]
    simp
  have hlive' : ∀ (x : Nat) (bx : Blk), x < H.length → (H.set i { b with live := false } ++ [{ b with cells := b.cells ++ vs }])[x]? = some bx → bx.live = true → x ≠ i ∧ H[x]? = some bx := by
    intro x bx hx he lx
    rw [hset x hx] at he
    by_cases hxi : x = i
    · subst hxi; rw [getElem?_set_self' hb] at he; injection he with he; subst he; cases lx
    · exact ⟨hxi, by rwa [List.getElem?_set_ne (Ne.symm hxi)] at he⟩
  have hsplen : (splice cs.toList b.cells.length vs').length = cs.size := by
    have := hv.1
    rw [splice_length (by simp; omega)]; simp
  refine ⟨hle, ⟨fun j g' e => ?_, fun j g' e => ?_, ?_, fun a c g' e e' => h.linj a c g' e e', ?_⟩, ?_, fun j g' e => .inl e, ?_, fun j g' e => .inl e, rfl, rfl, rfl, by simp,
    fun g' hg' hn _ => hother g' (fun e => hn i (e ▸ hi)), fun j hj hn => ?_, fun _ _ _ => rfl, fun j hj hn => ?_, fun _ _ _ => rfl, by simp, Nat.le_refl _, fun j x e => ?_, fun j g' x e hx hl hn => hother g' (fun he => by subst he; exact hn (by simp [h.ginj j i _ x b e hi hx hb hl hlive]))⟩
  · rcases hcase j g' e with ⟨rfl, rfl⟩ | ⟨hj, e'⟩
    · refine ⟨by simpa using hg, _, hnew, ⟨by simp [Mp.addG, hloose], by simp [Mp.addG], fun _ => ⟨_, setRow_heap w _ cs _ _ _ hcs, ?_, ?_, fun hl => by simp [hloose] at hl, fun _ => ?_⟩⟩⟩
      · simp only [List.size_toArray, hsplen, List.length_append]; exact ho
      · simp only [List.length_append]
        have e : (splice cs.toList b.cells.length vs').take (b.cells.length + vs.length) = cs.toList.take b.cells.length ++ vs' := by
          unfold splice
          rw [List.append_assoc, ← List.append_assoc, List.take_append_of_le_length]
          · rw [List.take_of_length_le]
            have := hv.1
            simp; omega
          · have := hv.1
            simp; omega
        rw [e]
        exact (e3.append hv).mono hle.noL
      · simp [Mp.addG, hsplen]
    · obtain ⟨hg', b', hb', hG'⟩ := h.glob j g' e'
      have hjl := hlt j g' e'
      by_cases hji : j = i
      · subst hji
        rw [hb] at hb'; injection hb' with hb'; subst hb'
        refine ⟨by simpa using hg', { b with live := false }, by rw [hset j hjl]; exact getElem?_set_self' hb, ?_, ?_, fun hl => by cases hl⟩
        · exact (hle.loose j g' e').trans hG'.lo
        · exact (hle.esz j g' e').trans hG'.ez
      · refine ⟨by simpa using hg', b', by rw [hset j hjl, List.getElem?_set_ne (Ne.symm hji)]; exact hb', hG'.mono hle e' (fun hl => hother g' (fun he => ?_))⟩
        subst he
        exact hji (h.ginj j i _ b' b e' hi hb' hb hl hlive)
  · obtain ⟨hg', b', hb', hL⟩ := h.locs j g' e
    exact ⟨by simpa using hg', b', hb', hL.mono hle (hother g' (fun he => h.disj i j g hi (he ▸ e)))⟩
  · intro a c g' ba bc ea ec ha hc la lc
    rcases hcase a g' ea with ⟨rfl, rfl⟩ | ⟨na, ea'⟩ <;> rcases hcase c _ ec with ⟨rfl, hh⟩ | ⟨nc, ec'⟩
    · rfl
    · obtain ⟨hne, hc'⟩ := hlive' c bc (hlt c _ ec') hc lc
      exact absurd (h.ginj c i _ bc b ec' hi hc' hb lc hlive) hne
    · subst hh
      obtain ⟨hne, ha'⟩ := hlive' a ba (hlt a _ ea') ha la
      exact absurd (h.ginj a i _ ba b ea' hi ha' hb la hlive) hne
    · exact h.ginj a c g' ba bc ea' ec' (hlive' a ba (hlt a _ ea') ha la).2 (hlive' c bc (hlt c _ ec') hc lc).2 la lc
  · intro a c g' e e'
    rcases hcase a g' e with ⟨rfl, rfl⟩ | ⟨_, ei⟩
    · exact h.disj i c _ hi e'
    · exact h.disj a c g' ei e'
  · intro a g' e
    rcases hcase a g' e with ⟨_, rfl⟩ | ⟨_, ei⟩
    · exact .inl ⟨i, hi⟩
    · exact .inl ⟨a, ei⟩
  · intro a g' e
    rcases hcase a g' e with ⟨rfl, _⟩ | ⟨_, ei⟩
    · exact .inr ⟨Nat.le_refl _, by simp⟩
    · exact .inl ei
  · rw [hset j hj, List.getElem?_set_ne]
    intro e; subst e; rw [hi] at hn; cases hn
  · rw [hset j hj, List.getElem?_set_ne]
    intro e; subst e; simp at hn
  · have hjl : j < H.length := (List.getElem?_eq_some_iff.1 e).1
    by_cases hj : j = i
    · subst hj
      rw [hb] at e; injection e with e; subst e
      exact ⟨{ b with live := false }, by rw [hset j hjl]; exact getElem?_set_self' hb, rfl, rfl⟩
    · exact ⟨x, by rw [hset j hjl, List.getElem?_set_ne (Ne.symm hj)]; exact e, rfl, rfl⟩

theorem growBy_le (n : Nat) : ∀ (r c : Nat), c < n → Builtin.growBy n r c ≤ n + (n + 768) / 4
  | 0, c, h => by simp only [Builtin.growBy]; omega
  | r + 1, c, h => by
    simp only [Builtin.growBy]
    rw [if_neg (by omega)]
    by_cases h2 : c + (c + 768) / 4 < n
    · exact growBy_le n r _ h2
    · cases r with
      | zero => simp only [Builtin.growBy]; omega
      | succ r => simp only [Builtin.growBy]; rw [if_pos (by omega)]; omega
theorem nextcap_le {n c : Nat} (h : c < n) : Builtin.nextslicecap n c ≤ 2 * n + 200 := by
  unfold Builtin.nextslicecap
  split
  · omega
  · split
    · omega
    · have := growBy_le n 4 c h; omega

def srcLen : Value → Option Nat
  | .slice _ n _ => some n
  | .string s => some s.size
  | _ => none

def srcCells (H loc : Hp) (size n : Nat) : Value → Option (List Value)
  | .slice (some a) _ _ => bif n * size == 0 then some [] else readCells H loc a (n * size)
  | .slice none _ _ => some []
  | .string s => some ((s.extract 0 n).data.toList.map fun b => .int .u8 b.toNat)
  | _ => none

theorem srcLen_sound {x x' : Value} (hx : VR m x x') {n : Nat} (h : srcLen x = some n) (w : World) : (Builtin.lenOf x').run P w = .ok n w := by
  unfold srcLen at h
  split at h
  · rename_i a n' c
    injection h with h; subst h
    cases a with
    | none => cases hx; simp [Builtin.lenOf]
    | some a => obtain ⟨a', c', rfl, _⟩ := vr_slice hx; simp [Builtin.lenOf]
  · injection h with h; subst h
    cases hx; simp [Builtin.lenOf]
  · cases h

theorem srcCells_sound (hR : Rel m H loc w) {x x' : Value} (hx : VR m x x') {size n : Nat} {vs : List Value} (h : srcCells H loc size n x = some vs) (hn : ∀ a l c, x = .slice a l c → n ≤ l) :
    ∃ vs' : List Value, (Builtin.firstCells size n x').run P w = .ok vs'.toArray w ∧ VRs m vs vs' := by
  unfold srcCells at h
  split at h
  · rename_i a l c
    obtain ⟨a', c', rfl, hsr⟩ := vr_slice hx
    cases hz : (n * size == 0) with
    | true =>
      rw [hz] at h
      simp only [cond_true, Option.some.injEq] at h
      subst h
      have h0 : n * size = 0 := by simpa using hz
      exact ⟨[], by simp [Builtin.firstCells, loadCells, h0, loadCellsFrom], VRs.nil m⟩
    | false =>
      rw [hz] at h
      simp only [cond_false] at h
      have h0 : n * size ≠ 0 := by simpa using hz
      rcases hsr with ⟨har, _⟩ | ⟨rfl, _⟩
      · obtain ⟨vs', hvr, hlen, hcell⟩ := read_sound hR har h
        have := run_loadCells_list (P := P) w a' vs' hcell
        have hl : vs'.length = n * size := by have := hvr.1; omega
        rw [hl] at this
        exact ⟨vs', by simp [Builtin.firstCells, this], hvr⟩
      · have := hn _ _ _ rfl
        have : n = 0 := by omega
        subst this
        simp at h0
  · injection h with h; subst h
    cases hx
    exact ⟨[], by simp [Builtin.firstCells], VRs.nil m⟩
  · rename_i s
    injection h with h; subst h
    cases hx
    refine ⟨(s.extract 0 n).data.toList.map fun b => .int .u8 b.toNat, by simp only [Builtin.firstCells, Sem.run_pure]; congr 1; apply Array.ext'; simp, ?_⟩
    refine ⟨rfl, fun i v v' a b => ?_⟩
    rw [a] at b; injection b with b; subst b
    simp only [List.getElem?_map, Option.map_eq_some_iff] at a
    obtain ⟨_, _, rfl⟩ := a
    exact .int _ _
  · cases h


structure Out where
  v : Value
  H : Hp
  loc : Hp
  wg : List Nat
  wl : List Nat

/-- A new block behind an append: old and new cells; the block may be longer than it seems. -/
def grown (H loc : Hp) (elem : TypeId) (esz need : Nat) (cells : List Value) (wg : List Nat) : Option Out :=
  bif cells.all cellOk then fSpine cells (fun cells => fSpine (H ++ [⟨cells, elem, esz, true, true⟩]) fun H' => some ⟨.slice (some ⟨H.length, 0, none⟩) need need, H', loc, wg, []⟩) else none

def evAppend (P : Program) (H loc : Hp) (tS tX : TypeId) (s x : Value) : Option Out :=
  match P.underlying tS, P.underlying tX, s with
  | some (.slice elem), some dX, .slice base sLen sCap =>
    bif !(match dX with | .slice _ => true | .string => true | _ => false) then none else
    match P.info? elem with
    | none => none
    | some ti =>
      match ti.zero, srcLen x with
      | some z, some n =>
        bif !(z.cells.size == ti.size) then none else
        match srcCells H loc ti.size n x with
        | none => none
        | some new =>
          bif decide (sLen + n ≤ sCap) then
            match base with
            | none => bif decide (sLen + n = 0) then some ⟨.slice none (sLen + n) sCap, H, loc, [], []⟩ else none
            | some a =>
              bif sLen + n == 0 then some ⟨.slice (some a) (sLen + n) sCap, H, loc, [], []⟩ else
              match writeCells H loc (addA a (sLen * ti.size)) new with
              | some (H', loc', wg, wl) => some ⟨.slice (some a) (sLen + n) sCap, H', loc', wg, wl⟩
              | none => none
          else
            bif decide (0 < ti.bytes) && decide ((2 * (sLen + n) + 200) * ti.bytes ≤ 281474976710656) && decide (new.length = n * ti.size) && decide (sLen + n < 9223372036854775808) then
              match base with
              | none => bif decide (sLen = 0) then grown H loc elem ti.size (sLen + n) new [] else none
              | some a =>
                match a.spot with
                | some 0 => match readCells H loc a (sLen * ti.size) with
                  | some old => grown H loc elem ti.size (sLen + n) (old ++ new) []
                  | none => none
                | some (_ + 1) => none
                | none =>
                  match H[a.block]?, readCells H loc a (sLen * ti.size) with
                  | some b, some old =>
                    bif !b.loose then grown H loc elem ti.size (sLen + n) (old ++ new) []
                    else bif decide (a.off = 0) && decide (b.cells.length = sLen * ti.size) && decide (0 < sLen) && decide (b.esz = ti.size) && decide (b.elem = elem) && new.all cellOk then
                      fSpine (b.cells ++ new) (fun cells => fSpine (H.set a.block { b with live := false } ++ [{ b with cells := cells }]) fun H' => some ⟨.slice (some ⟨H.length, 0, none⟩) (sLen + n) (sLen + n), H', loc, [a.block], []⟩)
                    else none
                  | _, _ => none
            else none
      | _, _ => none
  | _, _, _ => none


theorem append_room {tS tX ty elem : TypeId} {ti : TypeInfo} (hS : P.underlying tS = some (.slice elem)) (hX : (∃ e, P.underlying tX = some (.slice e)) ∨ P.underlying tX = some .string)
    (hi : P.info? elem = some ti) {a : Addr} {sLen c n : Nat} {x : Value} {new : Array Value} {w w' : World} (hl : (Builtin.lenOf x).run P w = .ok n w) (hf : (Builtin.firstCells ti.size n x).run P w = .ok new w)
    (hc : sLen + n ≤ c) (hst : (storeCells (a.add (sLen * ti.size)) new.toList).run P w = .ok () w') :
    (Builtin.append_ #[tS, tX] ty #[.slice (some a) sLen c, x]).run P w = .ok (.slice (some a) (sLen + n) c) w' := by
  rcases hX with ⟨e, hk⟩ | hk <;> simp [Builtin.append_, run_underlying hS, run_underlying hk, sizeOf, typeInfo, hi, hl, hf, hc, hst]

theorem append_room_none {tS tX ty elem : TypeId} {ti : TypeInfo} (hS : P.underlying tS = some (.slice elem)) (hX : (∃ e, P.underlying tX = some (.slice e)) ∨ P.underlying tX = some .string)
    (hi : P.info? elem = some ti) {sLen c n : Nat} {x : Value} {new : Array Value} {w : World} (hl : (Builtin.lenOf x).run P w = .ok n w) (hf : (Builtin.firstCells ti.size n x).run P w = .ok new w)
    (hc : sLen + n ≤ c) :
    (Builtin.append_ #[tS, tX] ty #[.slice none sLen c, x]).run P w = .ok (.slice none (sLen + n) c) w := by
  rcases hX with ⟨e, hk⟩ | hk <;> simp [Builtin.append_, run_underlying hS, run_underlying hk, sizeOf, typeInfo, hi, hl, hf, hc]

theorem append_grow {tS tX ty elem : TypeId} {ti : TypeInfo} {z : Value} (hS : P.underlying tS = some (.slice elem)) (hX : (∃ e, P.underlying tX = some (.slice e)) ∨ P.underlying tX = some .string)
    (hi : P.info? elem = some ti) (hz : ti.zero = some z) {base : Option Addr} {sLen c n : Nat} {x : Value} {old new : Array Value} {w : World} (hl : (Builtin.lenOf x).run P w = .ok n w)
    (hf : (Builtin.firstCells ti.size n x).run P w.drew = .ok new w.drew) (ho : (Builtin.firstCells ti.size sLen (.slice base sLen c)).run P w.drew = .ok old w.drew)
    (hc : c < sLen + n) (h63 : sLen + n < 9223372036854775808) (hfit : Builtin.nextslicecap (sLen + n) c * ti.bytes ≤ 281474976710656) :
    ∃ cap, sLen + n ≤ cap ∧ (Builtin.append_ #[tS, tX] ty #[.slice base sLen c, x]).run P w = .ok (.slice (some ⟨w.heap.size, 0, none⟩) (sLen + n) cap) (w.drew.alloc (.cells (old ++ new ++ Builtin.zeroCells z.cells (cap - (sLen + n))) elem)) := by
  have hn : ¬ (sLen + n ≤ c) := by omega
  have h63' : ¬ (9223372036854775807 < ((sLen : Int) + (n : Int))) := by omega
  have h48' : ¬ (281474976710656 < Builtin.nextslicecap (sLen + n) c * ti.bytes) := by omega
  refine ⟨grownCap w (sLen + n) c elem, by unfold grownCap Question.cut; simp, ?_⟩
  rcases hX with ⟨e, hk⟩ | hk <;>
    simp [Builtin.append_, run_underlying hS, run_underlying hk, sizeOf, typeInfo, zeroValue, hi, hz, hl, hn, h63', h48', Question.forced, hf, ho, newRow, grownCap]

theorem Rel.heap {w' : World} (h : Rel m H loc w) (e : w'.heap = w.heap) : Rel m H loc w' := by
  refine ⟨fun i g hi => ?_, fun i g hi => ?_, h.ginj, h.linj, h.disj⟩
  · obtain ⟨h1, b, h2, h3⟩ := h.glob i g hi
    exact ⟨by rw [e]; exact h1, b, h2, h3.lo, h3.ez, fun hl => by rw [e]; exact h3.blk hl⟩
  · obtain ⟨h1, b, h2, h3⟩ := h.locs i g hi
    exact ⟨by rw [e]; exact h1, b, h2, fun hl => by rw [e]; exact h3.blk hl, fun hl => by rw [e]; exact h3.it hl⟩
theorem Rel.drew (h : Rel m H loc w) : Rel m H loc w.drew := h.heap rfl
theorem Ext.start {w0 w' : World} {m' : Mp} {H' loc' : Hp} {wg wl : List Nat} (h : Ext m H loc w0 m' H' loc' w' wg wl) (e : w0.heap = w.heap) (e1 : w0.os = w.os) (e2 : w0.tape = w.tape) (e3 : w0.output = w.output) :
    Ext m H loc w m' H' loc' w' wg wl :=
  ⟨h.le, h.rel, by rw [← e]; exact h.img, by rw [← e]; exact h.imgl, h.dom, h.doml, h.os.trans e1, h.tape.trans e2, h.output.trans e3, by rw [← e]; exact h.size, by rw [← e]; exact h.frame, h.un, h.unl, h.mod, h.modl, h.len, h.lenl, h.kp, by rw [← e]; exact h.cmod⟩

/-- The new block behind a growth. -/
theorem grown_sound {w0 : World} (hR : Rel m H loc w0) {elem : TypeId} {esz need cap : Nat} {cells cells' : List Value} {rest : Array Value} {wg : List Nat} {out : Out} (h : grown H loc elem esz need cells wg = some out)
    (hv : VRs m cells cells') (hcap : need ≤ cap) (hlen : cells.length = need * esz) (hrest : rest.size = (cap - need) * esz) :
    ∃ m', Ext m H loc w0 m' out.H out.loc (w0.drew.alloc (.cells (cells'.toArray ++ rest) elem)) [] out.wl ∧ VR m' out.v (.slice (some ⟨w0.heap.size, 0, none⟩) need cap) ∧ out.wg = wg := by
  unfold grown at h
  simp only [fSpine_eq] at h
  cases hc : cells.all cellOk with
  | false => rw [hc] at h; cases h
  | true =>
    rw [hc] at h
    simp only [cond_true, Option.some.injEq] at h
    subst h
    obtain ⟨_, hn⟩ := all_cellOk hc
    have hvn := vrs_noLoc hn hv
    have hl' : cells'.length = cells.length := hv.1.symm
    have hext := ext_newG (w := w0.drew) hR.drew ⟨cells, elem, esz, true, true⟩ (cells'.toArray ++ rest) (by simp; omega) (by
      simp only [Array.toList_append]
      rw [← hl', List.take_append_of_le_length (Nat.le_refl _), List.take_length]
      exact hvn) (fun e => by cases e)
    refine ⟨_, hext.start (w := w0) rfl rfl rfl rfl, ?_, rfl⟩
    refine SR.vr (.inl ⟨.inl ⟨rfl, by simp [Mp.addG], rfl, rfl⟩, .inr ⟨rfl, by simp [Mp.addG], hcap, ?_⟩⟩)
    simp only [Mp.addG, if_true, Array.size_append, List.size_toArray, hl', hlen, hrest, Nat.zero_add]
    rw [← Nat.add_mul]
    exact Nat.mul_le_mul_right _ (by omega)

theorem append_sound (hR : Rel m H loc w) {tS tX ty : TypeId} {s x s' x' : Value} (hs : VR m s s') (hx : VR m x x') {out : Out} (h : evAppend P H loc tS tX s x = some out) :
    ∃ v' w' m', (Builtin.append_ #[tS, tX] ty #[s', x']).run P w = .ok v' w' ∧ Ext m H loc w m' out.H out.loc w' out.wg out.wl ∧ VR m' out.v v' := by
  unfold evAppend at h
  simp only [fSpine_eq] at h
  split at h
  · rename_i elem dX base sLen sCap hS hX
    cases hd : (match dX with | .slice _ => true | .string => true | _ => false) with
    | false => simp [hd] at h
    | true =>
      have hX' : (∃ e, P.underlying tX = some (.slice e)) ∨ P.underlying tX = some .string := by
        split at hd
        · exact .inl ⟨_, hX⟩
        · exact .inr hX
        · cases hd
      simp only [hd, Bool.not_true, cond_false] at h
      split at h
      · cases h
      · rename_i ti hti
        split at h
        · rename_i z n hz hn
          cases hzs : (z.cells.size == ti.size) with
          | false => simp [hzs] at h
          | true =>
            have hzs' : z.cells.size = ti.size := by simpa using hzs
            simp only [hzs, Bool.not_true, cond_false] at h
            split at h
            · cases h
            · rename_i new hnew
              have hlen := srcLen_sound (P := P) hx hn w
              have hnl : ∀ a l c, x = .slice a l c → n ≤ l := by
                intro a l c e; subst e; simp [srcLen] at hn; omega
              obtain ⟨new', hf, hvn⟩ := srcCells_sound (P := P) hR hx hnew hnl
              obtain ⟨new'', hf2, hvn2⟩ := srcCells_sound (P := P) hR.drew hx hnew hnl
              cases hroom : decide (sLen + n ≤ sCap) with
              | true =>
                simp only [hroom, cond_true] at h
                have hroom' : sLen + n ≤ sCap := by simpa using hroom
                cases base with
                | none =>
                  simp only at h
                  cases h0 : decide (sLen + n = 0) with
                  | false => rw [h0] at h; cases h
                  | true =>
                    simp only [h0, cond_true, Option.some.injEq] at h
                    subst h
                    cases hs
                    exact ⟨_, _, m, append_room_none hS hX' hti hlen hf hroom', Ext.refl hR, .sliceN _ _⟩
                | some a =>
                  simp only at h
                  obtain ⟨a', c', rfl, hsr⟩ := vr_slice hs
                  have hcap : sCap ≤ c' := by
                    rcases hsr with ⟨_, rfl | ⟨_, _, h3, _⟩⟩ | ⟨_, h2, _⟩
                    · exact Nat.le_refl _
                    · exact h3
                    · omega
                  cases h0 : (sLen + n == 0) with
                  | true =>
                    simp only [h0, cond_true, Option.some.injEq] at h
                    subst h
                    have e0 : sLen + n = 0 := by simpa using h0
                    have e1 : n = 0 := by omega
                    have e2 : sLen = 0 := by omega
                    subst e1; subst e2
                    have hemp : new = [] := by
                      unfold srcCells at hnew
                      split at hnew
                      · simpa using hnew
                      · injection hnew with hnew; exact hnew.symm
                      · rename_i s0
                        injection hnew with hnew
                        subst hnew
                        simp
                      · cases hnew
                    subst hemp
                    have hemp' : new' = [] := List.eq_nil_of_length_eq_zero hvn.1.symm
                    subst hemp'
                    refine ⟨_, _, m, append_room hS hX' hti hlen hf (by omega) (w' := w) (by simp [storeCells]), Ext.refl hR, ?_⟩
                    exact hsr.vr
                  | false =>
                    simp only [h0, cond_false] at h
                    have e0 : sLen + n ≠ 0 := by simpa using h0
                    rcases hsr with ⟨har, hcc⟩ | ⟨_, h2, _⟩
                    · split at h
                      · rename_i H' loc' wg wl hw
                        injection h with h; subst h
                        obtain ⟨w', hrun, hext⟩ := write_sound (P := P) hR (har.add (sLen * ti.size)) hvn hw
                        refine ⟨_, w', m, append_room hS hX' hti hlen hf (by omega) (by simpa using hrun), hext, ?_⟩
                        exact SR.vr (.inl ⟨har, hcc⟩)
                      · cases h
                    · omega
              | false =>
                simp only [hroom, cond_false] at h
                have hroom' : ¬ sLen + n ≤ sCap := by simpa using hroom
                cases hch : (decide (0 < ti.bytes) && decide ((2 * (sLen + n) + 200) * ti.bytes ≤ 281474976710656) && decide (new.length = n * ti.size) && decide (sLen + n < 9223372036854775808)) with
                | false => simp [hch] at h
                | true =>
                  simp only [hch, cond_true] at h
                  simp only [Bool.and_eq_true, decide_eq_true_eq] at hch
                  obtain ⟨⟨⟨hby, hbig⟩, hnl2⟩, h63⟩ := hch
                  have hfit : ∀ c, c < sLen + n → Builtin.nextslicecap (sLen + n) c * ti.bytes ≤ 281474976710656 := fun c hc => Nat.le_trans (Nat.mul_le_mul_right _ (nextcap_le hc)) hbig
                  cases base with
                  | none =>
                    simp only at h
                    cases h0 : decide (sLen = 0) with
                    | false => simp [h0] at h
                    | true =>
                      simp only [h0, cond_true] at h
                      have e0 : sLen = 0 := by simpa using h0
                      subst e0
                      cases hs
                      obtain ⟨cap, hcap, hrun⟩ := append_grow (ty := ty) (base := none) (c := sCap) (old := #[]) hS hX' hti hz hlen hf2 (by simp [Builtin.firstCells]) (by omega) h63 (hfit sCap (by omega))
                      obtain ⟨m', hext, hvr, hwg⟩ := grown_sound (rest := Builtin.zeroCells z.cells (cap - (0 + n))) hR h hvn2 hcap (by simpa using hnl2) (by rw [size_zeroCells, hzs'])
                      exact ⟨_, _, m', by rw [hrun], by rw [hwg]; simpa using hext, hvr⟩
                  | some a =>
                    simp only at h
                    obtain ⟨a', c', rfl, hsr⟩ := vr_slice hs
                    have hold : ∀ {old : List Value}, AR m a a' → readCells H loc a (sLen * ti.size) = some old →
                        ∃ old' : List Value, (Builtin.firstCells ti.size sLen (.slice (some a') sLen c')).run P w.drew = .ok old'.toArray w.drew ∧ VRs m old old' ∧ old.length = sLen * ti.size := by
                      intro old har ho
                      obtain ⟨vs', hvr, hl2, hcell⟩ := read_sound hR.drew har ho
                      have hrun := run_loadCells_list (P := P) w.drew a' vs' hcell
                      have hl3 : vs'.length = sLen * ti.size := by have := hvr.1; omega
                      rw [hl3] at hrun
                      exact ⟨vs', by simp [Builtin.firstCells, hrun], hvr, hl2⟩
                    have hexact : AR m a a' → c' = sCap → ∀ {old : List Value}, readCells H loc a (sLen * ti.size) = some old → grown H loc elem ti.size (sLen + n) (old ++ new) [] = some out →
                        ∃ v' w' m', (Builtin.append_ #[tS, tX] ty #[.slice (some a') sLen c', x']).run P w = .ok v' w' ∧ Ext m H loc w m' out.H out.loc w' out.wg out.wl ∧ VR m' out.v v' := by
                      intro har hcc old ho hg
                      subst hcc
                      obtain ⟨old', hfo, hvo, hlo⟩ := hold har ho
                      obtain ⟨cap, hcap, hrun⟩ := append_grow (ty := ty) hS hX' hti hz hlen hf2 hfo (by omega) h63 (hfit c' (by omega))
                      obtain ⟨m', hext, hvr, hwg⟩ := grown_sound (rest := Builtin.zeroCells z.cells (cap - (sLen + n))) hR hg (hvo.append hvn2) hcap (by simp [hlo, hnl2, Nat.add_mul]) (by rw [size_zeroCells, hzs'])
                      refine ⟨_, _, m', hrun, ?_, hvr⟩
                      rw [hwg]
                      simpa using hext
                    split at h
                    · rename_i hsp
                      split at h
                      · rename_i old ho
                        rcases hsr with ⟨har, rfl | ⟨hn2, _⟩⟩ | ⟨_, _, hn2, _⟩
                        · exact hexact har rfl ho h
                        · rw [hsp] at hn2; cases hn2
                        · rw [hsp] at hn2; cases hn2
                      · cases h
                    · cases h
                    · rename_i hsp
                      split at h
                      · rename_i b old hb ho
                        cases hlo : b.loose with
                        | false =>
                          simp only [hlo, Bool.not_false, cond_true] at h
                          have hnl3 : ∀ g, m.gb a.block = some g → m.loose a.block = true → False := fun g hg hl => by
                            obtain ⟨_, b0, hb0, hG⟩ := hR.glob _ _ hg
                            rw [hb] at hb0; injection hb0 with hb0; subst hb0
                            rw [hG.lo, hlo] at hl; cases hl
                          rcases hsr with ⟨har, rfl | ⟨_, hl, _⟩⟩ | ⟨_, _, _, hl, g, hg⟩
                          · exact hexact har rfl ho h
                          · rcases har with ⟨_, hg, _⟩ | ⟨hn2, _⟩
                            · exact (hnl3 _ hg hl).elim
                            · rw [hsp] at hn2; cases hn2
                          · exact (hnl3 _ hg hl).elim
                        | true =>
                          rw [show (!b.loose) = false by rw [hlo]; rfl] at h
                          simp only [cond_false] at h
                          cases hch2 : (decide (a.off = 0) && decide (b.cells.length = sLen * ti.size) && decide (0 < sLen) && decide (b.esz = ti.size) && decide (b.elem = elem) && new.all cellOk) with
                          | false => simp [hch2] at h
                          | true =>
                            simp only [hch2, cond_true, Option.some.injEq] at h
                            subst h
                            simp only [Bool.and_eq_true, decide_eq_true_eq] at hch2
                            obtain ⟨⟨⟨⟨⟨hoff, hbl⟩, hs0⟩, hez⟩, hel⟩, hok⟩ := hch2
                            obtain ⟨hone, hnoloc⟩ := all_cellOk hok
                            rcases hsr with ⟨har, hcc⟩ | ⟨h0, _⟩
                            · have har0 := har
                              rcases har with ⟨_, hg, hao, hasp⟩ | ⟨hn2, _⟩
                              · obtain ⟨_, b0, hb0, hG⟩ := hR.glob _ _ hg
                                rw [hb] at hb0; injection hb0 with hb0; subst hb0
                                have hlive : b.live = true := by
                                  unfold readCells at ho
                                  simp only [fSpine_eq] at ho
                                  rw [hsp, hb] at ho
                                  simp only at ho
                                  cases hll : b.live with
                                  | true => rfl
                                  | false => simp [hll] at ho
                                obtain ⟨cs, e1, e2, e3, _, e5⟩ := hG.blk hlive
                                by_cases hin : sLen + n ≤ c'
                                · rcases hcc with rfl | ⟨_, _, hc1, hc2⟩
                                  · omega
                                  · have hct : c' * ti.size ≤ cs.size := by
                                      rw [hG.ez, hez, e5 hlo] at hc2
                                      omega
                                    have hsum : sLen * ti.size + n * ti.size ≤ cs.size := by
                                      rw [← Nat.add_mul]
                                      exact Nat.le_trans (Nat.mul_le_mul_right _ hin) hct
                                    have hvl := hvn.1
                                    obtain ⟨ab, ao, asp⟩ := a'
                                    simp only at hg hao hasp
                                    subst hasp
                                    have hao' : ao = 0 := by omega
                                    subst hao'
                                    have hst := run_storeCells_at (P := P) ab (0 + sLen * ti.size) b.elem new' 0 cs w e1 (by omega) (vrs_one hone hvn)
                                    have hadd : (⟨ab, 0, none⟩ : Addr).add (sLen * ti.size) = ⟨ab, 0 + sLen * ti.size, none⟩ := addr_add_spot rfl _
                                    have hext := ext_takeover (vs := new) (vs' := new') hR hg hb hlive hlo e1 (by omega) (vrs_noLoc hnoloc hvn)
                                    refine ⟨_, _, m.addG H.length ab true b.esz cs.size, append_room (new := new'.toArray) hS hX' hti hlen hf hin (by rw [hadd]; exact hst), ?_, ?_⟩
                                    · have : splice cs.toList b.cells.length new' = List.take (0 + sLen * ti.size + 0) cs.toList ++ new' ++ List.drop (0 + sLen * ti.size + 0 + new'.length) cs.toList := by
                                        unfold splice; simp [hbl]
                                      rw [this] at hext
                                      exact hext
                                    · refine SR.vr (.inl ⟨.inl ⟨rfl, by simp [Mp.addG], rfl, rfl⟩, .inr ⟨rfl, by simp [Mp.addG], hin, ?_⟩⟩)
                                      simp only [Mp.addG, if_true, hez]
                                      omega
                                · have hoff' : a'.off = 0 := by omega
                                  obtain ⟨ab, ao, asp⟩ := a'
                                  simp only at hg hao hasp hoff' e1
                                  subst hasp; subst hoff'
                                  have hvold : VRs m.noL b.cells (cs.toList.take b.cells.length) := e3
                                  have hcell : ∀ j v, (cs.toList.take b.cells.length)[j]? = some v → w.drew.cell? ((⟨ab, 0, none⟩ : Addr).add j) = some v := fun j v hv => by
                                    rw [addr_add_spot rfl j]
                                    simp only [Nat.zero_add]
                                    rw [cell_of_block (w := w.drew) e1 j]
                                    simp only [List.getElem?_take] at hv
                                    split at hv
                                    · simpa using hv
                                    · cases hv
                                  have hfo := run_loadCells_list (P := P) w.drew ⟨ab, 0, none⟩ _ hcell
                                  rw [show (cs.toList.take b.cells.length).length = sLen * ti.size by have := hvold.1; omega] at hfo
                                  generalize cs.toList.take b.cells.length = old' at *
                                  obtain ⟨cap, hcap, hrun⟩ := append_grow (ty := ty) (base := some ⟨ab, 0, none⟩) (sLen := sLen) (c := c') (old := old'.toArray) hS hX' hti hz hlen hf2 (by simp [Builtin.firstCells, hfo]) (by omega) h63 (hfit c' (by omega))
                                  have hk := ext_kill (w := w) hR hb ⟨_, hg⟩
                                  have hn1 := ext_newG (w := w.drew) (hk.rel.heap (w' := w.drew) rfl) { b with cells := b.cells ++ new } (old'.toArray ++ new''.toArray ++ Builtin.zeroCells z.cells (cap - (sLen + n))) (by
                                      have := hvold.1; have := hvn2.1
                                      simp; omega) (by
                                      have h1 := hvold.1; have h2 := hvn2.1
                                      simp only [Array.toList_append, List.length_append]
                                      rw [List.take_append_of_le_length (by simp; omega), List.take_of_length_le (by simp; omega)]
                                      exact hvold.append (vrs_noLoc hnoloc hvn2)) (fun e => by simp [hlo] at e)
                                  have hfin := hk.trans (hn1.start (w := w) rfl rfl rfl rfl)
                                  refine ⟨_, _, m.addG (H.set a.block { b with live := false }).length w.drew.heap.size b.loose b.esz (old'.toArray ++ new''.toArray ++ Builtin.zeroCells z.cells (cap - (sLen + n))).size, hrun, ?_, ?_⟩
                                  · simpa [hel] using hfin
                                  · refine SR.vr (.inl ⟨.inl ⟨rfl, by simp [Mp.addG], rfl, rfl⟩, .inr ⟨rfl, by simp [Mp.addG, hlo], hcap, ?_⟩⟩)
                                    have h1 := hvold.1; have h2 := hvn2.1
                                    simp only [Mp.addG, List.length_set, if_true, Array.size_append, List.size_toArray, size_zeroCells, hzs', hez, Nat.zero_add]
                                    have : cap * ti.size = sLen * ti.size + n * ti.size + (cap - (sLen + n)) * ti.size := by
                                      rw [← Nat.add_mul, ← Nat.add_mul]; congr 1; omega
                                    omega
                              · rw [hsp] at hn2; cases hn2
                            · omega
                      · cases h
        · cases h
  · cases h
end
end Go.Sm
end

section
/-
  copy; the calls; every operation of the machine.
-/
namespace Go.Sm

def evCopy (P : Program) (H loc : Hp) (tD : TypeId) (d x : Value) : Option Out :=
  match P.underlying tD, d, srcLen x with
  | some (.slice elem), .slice base dLen _, some sl =>
    match P.info? elem with
    | none => none
    | some ti =>
      match srcCells H loc ti.size (Nat.min sl dLen) x with
      | none => none
      | some cells =>
        match base with
        | none => some ⟨.int .i64 (Nat.min sl dLen : Nat), H, loc, [], []⟩
        | some a =>
          bif cells.length == 0 then some ⟨.int .i64 (Nat.min sl dLen : Nat), H, loc, [], []⟩ else
          bif decide (0 < dLen) then
            match writeCells H loc a cells with
            | some (H', loc', wg, wl) => some ⟨.int .i64 (Nat.min sl dLen : Nat), H', loc', wg, wl⟩
            | none => none
          else none
  | _, _, _ => none

/-- Functions without a body that the model answers by a row of its own. -/

abbrev Orc := FuncId → List Value → Hp → Option (Value × Hp × List Nat)

inductive Kind where
  | inert | alloc | load | eff

def kindOf : Op → Kind
  | .range _ _ => .eff
  | .next _ _ => .eff
  | .alloc _ | .box _ _ | .buildSlice _ _ _ | .makeSlice _ _ _ => .alloc
  | .load _ _ => .load
  | .store _ _ _ => .eff
  | .call { callee := .builtin .append, .. } => .eff
  | .call { callee := .builtin .copy, .. } => .eff
  | .call { callee := .value _, .. } => .eff
  | _ => .inert

def hasBody (P : Program) (f : FuncId) : Bool :=
  match P.funcs[f]? with
  | some fn => fn.body.isSome
  | none => false

def evCall (P : Program) (X : Xt) (O : Orc) (H loc : Hp) (fv : Value) (args : List Value) : Option Out :=
  match fv with
  | .func (.func f) first captured => bif symF f then none else
    bif hasBody P f && (first.toList ++ args ++ captured.toList).all noLoc then
      match O f (first.toList ++ args ++ captured.toList) H with
      | some (v, H', md) => some ⟨v, H', loc, md, []⟩
      | none => none
    else
      match X.ext f with
      | some e => bif !hasBody P f && (first.toList ++ args ++ captured.toList).all plainV then
          match runPure P (e (first.toList ++ args ++ captured.toList).toArray) with
          | some v => bif plainV v then some ⟨v, H, loc, [], []⟩ else none
          | none => none
        else none
      | none => none
  | _ => none

/-- A range over a string: its iterator is a local block. -/
def evRange (P : Program) (H loc : Hp) (t : TypeId) (x : Value) : Option Out :=
  match P.underlying t, x with
  | some .string, .string s => fSpine (loc ++ [⟨[.string s, .int .i64 (0 : Nat)], 0, 0, false, false⟩]) fun loc' => some ⟨.pointer (some ⟨loc.length, 0, some 0⟩), H, loc', [], []⟩
  | _, _ => none

def evNext (H loc : Hp) (x : Value) : Option Out :=
  match x with
  | .pointer (some ⟨i, 0, some 0⟩) =>
    match loc[i]? with
    | some b => bif b.live then none else
      match b.cells with
      | [.string s, .int .i64 (.ofNat pos)] =>
        bif decide (pos < s.size) then
          fNat (pos + (Utf8.decode s pos).2) fun np => fSet loc i { b with cells := [.string s, .int .i64 (np : Int)] } fun loc' => some ⟨.tuple ⟨[.bool true, .int .i64 (pos : Int), .int .i32 ((Utf8.decode s pos).1 : Int)]⟩, H, loc', [], [i]⟩
        else some ⟨.tuple ⟨[.bool false]⟩, H, loc, [], []⟩
      | _ => none
    | none => none
  | _ => none

def evEff (P : Program) (X : Xt) (O : Orc) (H loc : Hp) (op : Op) (ρ : Operand → Value) : Option Out :=
  match op with
  | .range t x => evRange P H loc t (ρ x)
  | .next x true => evNext H loc (ρ x)
  | .store t a x => match evStore P H loc t (ρ a) (ρ x) with
    | some (H', loc', wg, wl) => some ⟨undef, H', loc', wg, wl⟩
    | none => none
  | .call { callee := .builtin .append, args := ⟨[s, x]⟩, argTypes := ⟨[tS, tX]⟩ } => evAppend P H loc tS tX (ρ s) (ρ x)
  | .call { callee := .builtin .copy, args := ⟨[s, x]⟩, argTypes := ⟨tS :: _⟩ } => evCopy P H loc tS (ρ s) (ρ x)
  | .call { callee := .value f, args := as, .. } => evCall P X O H loc (ρ f) (as.toList.map ρ)
  | _ => none

def evOp (P : Program) (X : Xt) (O : Orc) (esc : Nat → Bool) (o : Oper) (ρ : Operand → Value) (H loc : Hp) : Option Out :=
  match kindOf o.op with
  | .inert => match evInertS P X H o ρ with
    | some v => some ⟨v, H, loc, [], []⟩
    | none => none
  | .load => match o.op with
    | .load t x => match evLoad P H loc t (ρ x) with
      | some v => some ⟨v, H, loc, [], []⟩
      | none => none
    | _ => none
  | .alloc => match evAlloc P o.op ρ with
    | some (b, k) =>
      bif (match o.dst with | some d => esc d | none => true) then
        bif b.cells.all noLoc then fVals b.cells (fun cs => fSpine (H ++ [{ b with cells := cs }]) fun H' => some ⟨nameV k ⟨H.length, 0, none⟩, H', loc, [], []⟩) else none
      else fVals b.cells (fun cs => fSpine (loc ++ [{ b with cells := cs }]) fun loc' => some ⟨nameV k ⟨loc.length, 0, some 0⟩, H, loc', [], []⟩)
    | none => none
  | .eff => evEff P X O H loc o.op ρ

def noLb : Nat → Option Nat := fun _ => none

/-- What an oracle's answer promises of the call itself. -/
def GoodAt (P : Program) (E : Env) (f : FuncId) (args : List Value) (H : Hp) (v : Value) (H' : Hp) (md : List Nat) : Prop :=
  ∀ (m : Mp) (w : World) (args' : List Value), m.env = E → m.lb = noLb → Rel m H [] w → VRs m args args' →
    Calls P f args'.toArray w fun e w' => ∃ v' m', e = .returned v' ∧ VR m' v v' ∧ Ext m H [] w m' H' [] w' md [] ∧ m'.lb = noLb

def GoodO (P : Program) (E : Env) (O : Orc) : Prop := ∀ f args H v H' md, O f args H = some (v, H', md) → GoodAt P E f args H v H' md

def Named (P : Program) : Prop := ∀ (f : Nat) (fn : Func), P.funcs[f]? = some fn → (fn.name == "runtime.NumGoroutine") = false

def GoodX (P : Program) (X : Xt) : Prop := (∀ f e, X.ext f = some e → ∃ fn, P.funcs[f]? = some fn ∧ fn.body.isNone = true ∧ Extern.findNext fn = none ∧ Extern.find fn = some e) ∧ Sat X.env X.gam ∧ EqOk P X

section
variable {P : Program} {m : Mp} {H loc : Hp} {w : World}

theorem copy_sound (hR : Rel m H loc w) {tX : List TypeId} {t0 ty : TypeId} {s x s' x' : Value} (hs : VR m s s') (hx : VR m x x') {out : Out} (h : evCopy P H loc t0 s x = some out) :
    ∃ v' w', (Builtin.copy_ ⟨t0 :: tX⟩ ty #[s', x']).run P w = .ok v' w' ∧ Ext m H loc w m out.H out.loc w' out.wg out.wl ∧ VR m out.v v' := by
  unfold evCopy at h
  split at h
  · rename_i elem base dLen dCap sl hS hsl
    split at h
    · cases h
    · rename_i ti hti
      split at h
      · cases h
      · rename_i cells hcells
        have hlen := srcLen_sound (P := P) hx hsl w
        have hnl : ∀ a l c, x = .slice a l c → Nat.min sl dLen ≤ l := by
          intro a l c e; subst e; simp [srcLen] at hsl; subst hsl; exact Nat.min_le_left _ _
        obtain ⟨new', hf, hvn⟩ := srcCells_sound (P := P) hR hx hcells hnl
        have hbase : ∃ base' c', s' = .slice base' dLen c' ∧ (base = none → base' = none) ∧ (∀ a, base = some a → ∃ a', base' = some a' ∧ SR m a dLen dCap a' c') := by
          cases base with
          | none => cases hs; exact ⟨_, _, rfl, (fun _ => rfl), (fun a e => by cases e)⟩
          | some a =>
            obtain ⟨a', c', rfl, hsr⟩ := vr_slice hs
            exact ⟨_, _, rfl, (fun e => by cases e), (fun a0 e => by injection e with e; subst e; exact ⟨a', rfl, hsr⟩)⟩
        obtain ⟨base', c', rfl, hb1, hb2⟩ := hbase
        cases base with
        | none =>
          simp only [Option.some.injEq] at h
          subst h
          rw [hb1 rfl]
          refine ⟨_, w, ?_, Ext.refl hR, .int _ _⟩
          simp [Builtin.copy_, run_underlying hS, hlen, run_sizeOf' hti, hf, goInt]
        | some a =>
          obtain ⟨a', rfl, hsr⟩ := hb2 a rfl
          simp only at h
          cases h0 : (cells.length == 0) with
          | true =>
            simp only [h0, cond_true, Option.some.injEq] at h
            subst h
            have e0 : cells = [] := List.eq_nil_of_length_eq_zero (by simpa using h0)
            subst e0
            have e1 : new' = [] := List.eq_nil_of_length_eq_zero hvn.1.symm
            subst e1
            refine ⟨_, w, ?_, Ext.refl hR, .int _ _⟩
            simp [Builtin.copy_, run_underlying hS, hlen, run_sizeOf' hti, hf, storeCells, goInt]
          | false =>
            simp only [h0, cond_false] at h
            cases hd : decide (0 < dLen) with
            | false => simp [hd] at h
            | true =>
              simp only [hd, cond_true] at h
              have hd' : 0 < dLen := by simpa using hd
              split at h
              · rename_i H' loc' wg wl hw
                injection h with h; subst h
                rcases hsr with ⟨har, _⟩ | ⟨e, _⟩
                · obtain ⟨w', hrun, hext⟩ := write_sound (P := P) hR har hvn hw
                  refine ⟨_, w', ?_, hext, .int _ _⟩
                  simp [Builtin.copy_, run_underlying hS, hlen, run_sizeOf' hti, hf, hrun, goInt]
                · omega
              · cases h
  · cases h

/-- Behind a call: the caller's locals lie as they lay. -/
theorem ext_call (hR : Rel m H loc w) {m' : Mp} {H' : Hp} {w' : World} {md : List Nat} (h : Ext m.noL H [] w m' H' [] w' md []) (hl : m'.lb = noLb) :
    Ext m H loc w { m' with lb := m.lb } H' loc w' md [] ∧ Le m' { m' with lb := m.lb } := by
  have hle : Le m { m' with lb := m.lb } := ⟨h.le.gb, fun _ _ e => e, h.le.loose, h.le.esz, h.le.tot, h.le.env⟩
  have hle2 : Le m' { m' with lb := m.lb } := ⟨fun _ _ e => e, (fun i g e => by rw [hl] at e; cases e), fun _ _ _ => rfl, fun _ _ _ => rfl, fun _ _ _ => rfl, rfl⟩
  refine ⟨⟨hle, ⟨fun i g e => ?_, fun i g e => ?_, fun i j g bi bj e e' => h.rel.ginj i j g bi bj e e', hR.linj, ?_⟩, fun i g e => h.img i g e, fun i g e => .inl e, fun i g e => h.dom i g e, fun i g e => .inl e,
    h.os, h.tape, h.output, h.size, (fun g hg hn hn2 => h.frame g hg hn (fun i e => by cases e)), fun i hi hn => h.un i hi hn, fun _ _ _ => rfl, h.mod, fun _ _ _ => rfl, h.len, Nat.le_refl _, h.kp, h.cmod⟩, hle2⟩
  · obtain ⟨h1, b, h2, h3⟩ := h.rel.glob i g e
    exact ⟨h1, b, h2, h3.lo, h3.ez, h3.blk⟩
  · obtain ⟨h1, b, h2, h3⟩ := hR.locs i g e
    exact ⟨Nat.lt_of_lt_of_le h1 h.size, b, h2, h3.mono hle (h.frame g h1 (fun j e' => hR.disj j i g e' e) (fun j e' => by cases e'))⟩
  · intro i j g e e'
    rcases h.img i g e with ⟨k, hk⟩ | hk
    · exact hR.disj k j g hk e'
    · have := (hR.locs j g e').1; omega

theorem rel_noL (hR : Rel m H loc w) : Rel m.noL H [] w := by
  refine ⟨fun i g e => ?_, (fun i g e => by cases e), hR.ginj, (fun i j g e => by cases e), (fun i j g _ e => by cases e)⟩
  obtain ⟨h1, b, h2, h3⟩ := hR.glob i g e
  exact ⟨h1, b, h2, h3.lo, h3.ez, h3.blk⟩

theorem esz_of (hR : Rel m H loc w) : EszR m H := fun i g b hi hb => by
  obtain ⟨_, b0, hb0, hG⟩ := hR.glob i g hi
  rw [hb] at hb0; injection hb0 with hb0; subst hb0
  exact ⟨hG.ez, hG.lo⟩

theorem run_call {fn : Func} {f : FuncId} {args : Array Value} (hf : P.funcs[f]? = some fn) (hb : fn.body.isSome = true) (hn : (fn.name == "runtime.NumGoroutine") = false) (w : World) :
    (callFunc f args).run P w = .ok (.enter f args) w := by
  have hb' : ¬ fn.body = none := by intro e; rw [e] at hb; cases hb
  have hn' : ¬ fn.name = "runtime.NumGoroutine" := by simpa using hn
  simp [callFunc, hf, hn', hb']

theorem evOp_sound (hN : Named P) {X : Xt} (hX : GoodX P X) {O : Orc} (hO : GoodO P X.env O) (hE : m.env = X.env) {esc : Nat → Bool} {o : Oper} {ρ : Operand → Value} {a : Act} (hρ : OpR m ρ a.eval o) (hR : Rel m H loc w) {out : Out} (h : evOp P X O esc o ρ H loc = some out)
    {K : Act → World → Prop} {Q : Exit → Act → World → Prop}
    (hK : ∀ v' w' m', Ext m H loc w m' out.H out.loc w' out.wg out.wl → VR m' out.v v' → K (a.put o.dst v') w') : o.wp P a w K Q := by
  unfold evOp at h
  simp only [fVals_eq, fSpine_eq] at h
  split at h
  · split at h
    · rename_i v hv
      injection h with h; subst h
      obtain ⟨v', hrun, hvr⟩ := evInertS_sound (P := P) (by rw [hE]; exact hX.2.1) hX.2.2 (esz_of hR) hρ hv w
      unfold Oper.wp
      rw [hrun]
      exact hK v' w m (Ext.refl hR) hvr
    · cases h
  · split at h
    · rename_i t x ho
      split at h
      · rename_i v hv
        injection h with h; subst h
        obtain ⟨v', hrun, hvr⟩ := load_sound (P := P) hR (hρ x (by simp [ho, Op.operands])) hv
        unfold Oper.wp execOp
        simp only [ho, Sem.run_bind, hrun, Result.andThen_ok, Sem.run_pure]
        exact hK v' w m (Ext.refl hR) hvr
      · cases h
    · cases h
  · split at h
    · rename_i b k hb
      obtain ⟨cs, hrun, hvr, hlive, hloose⟩ := alloc_run (P := P) hρ hb w
      unfold Oper.wp
      rw [hrun]
      cases he : (match o.dst with | some d => esc d | none => true) with
      | true =>
        rw [he] at h
        simp only [cond_true] at h
        cases hn : b.cells.all noLoc with
        | false => rw [hn] at h; cases h
        | true =>
          rw [hn] at h
          simp only [cond_true, Option.some.injEq] at h
          subst h
          have hvn := vrs_noLoc hn hvr
          have hext := ext_newG hR b cs (by have := hvr.1; simp at this; omega) (by
            have hl : b.cells.length = cs.toList.length := hvr.1
            rw [hl, List.take_length]; exact hvn) (fun _ => by have := hvr.1; simp at this; omega)
          exact hK _ _ _ hext (nameV_vr (m := m.addG H.length w.heap.size b.loose b.esz cs.size) (a := ⟨H.length, 0, none⟩) (a' := ⟨w.heap.size, 0, none⟩) (.inl ⟨rfl, (by simp [Mp.addG] : (m.addG H.length w.heap.size b.loose b.esz cs.size).gb H.length = some w.heap.size), rfl, rfl⟩) k)
      | false =>
        rw [he] at h
        simp only [cond_false, Option.some.injEq] at h
        subst h
        exact hK _ _ _ (ext_newL hR b cs hlive hvr) (nameV_vr (m := m.addL loc.length w.heap.size) (a := ⟨loc.length, 0, some 0⟩) (a' := ⟨w.heap.size, 0, none⟩) (.inr ⟨rfl, (by simp [Mp.addL] : (m.addL loc.length w.heap.size).lb loc.length = some w.heap.size), rfl, rfl⟩) k)
    · cases h
  · unfold evEff at h
    split at h
    · rename_i t x ho
      have hx := hρ x (by simp [ho, Op.operands])
      unfold evRange at h
      simp only [fSpine_eq] at h
      split at h
      · rename_i s hu hs
        injection h with h; subst h
        rw [hs] at hx
        have hx' : a.eval x = .string s := by generalize a.eval x = y at hx; cases hx; rfl
        unfold Oper.wp execOp
        simp only [ho, Instr.range, Sem.run_bind, run_underlying hu, hx', Result.andThen_ok, Sem.run_pure, run_newObj_alloc]
        refine hK _ _ _ (ext_newLO hR ⟨[.string s, .int .i64 (0 : Nat)], 0, 0, false, false⟩ (.stringIter s 0) ⟨(fun e => by cases e), (fun _ => ⟨s, 0, rfl, heap_alloc_new w _⟩)⟩) ?_
        exact AR.vr (.inr ⟨rfl, by simp [Mp.addL], rfl, rfl⟩)
      · cases h
    · rename_i x ho
      have hx := hρ x (by simp [ho, Op.operands])
      unfold evNext at h
      simp only [fNat_eq, fSet_eq] at h
      split at h
      · rename_i i hi
        rw [hi] at hx
        obtain ⟨a', hx', har⟩ := vr_ptr hx
        obtain ⟨ab, ao, asp⟩ := a'
        rcases har with ⟨e, _⟩ | ⟨_, hlb, hoff, hsp⟩
        · cases e
        · simp only at hlb hoff hsp
          subst hoff; subst hsp
          split at h
          · rename_i b hb
            cases hl : b.live with
            | true => rw [hl] at h; cases h
            | false =>
              rw [hl] at h
              simp only [cond_false] at h
              have hbl : b = { b with live := false } := by rw [← hl]
              obtain ⟨hg, b0, hb0, hL⟩ := hR.locs _ _ hlb
              rw [hb] at hb0; injection hb0 with hb0; subst hb0
              obtain ⟨s0, pos0, hc0, hw0⟩ := hL.it hl
              split at h
              · rename_i s pos hcells
                rw [hcells] at hc0
                simp only [List.cons.injEq, Value.string.injEq, Value.int.injEq, true_and, and_true] at hc0
                obtain ⟨e1, e2⟩ := hc0
                subst e1
                have e3 : pos = pos0 := Int.ofNat.inj e2
                subst e3
                have hget : (getObj ab).run P w = .ok (.stringIter s pos) w := by simp [getObj, Sem.run, hw0]
                unfold Oper.wp execOp
                simp only [ho, Instr.next, Sem.run_bind, hx', hget, Result.andThen_ok]
                cases hlt : decide (pos < s.size) with
                | true =>
                  rw [hlt] at h
                  simp only [cond_true, Option.some.injEq] at h
                  subst h
                  rw [if_pos (by simpa using hlt)]
                  have hset : (setObj ab (.stringIter s (pos + (Utf8.decode s pos).2))).run P w = .ok () { w with heap := w.heap.setIfInBounds ab (.stringIter s (pos + (Utf8.decode s pos).2)) } := by simp [setObj, Sem.run, hw0]
                  simp only [Sem.run_bind, hset, Result.andThen_ok, Sem.run_pure, goInt]
                  refine hK _ _ m (ext_turnL (w' := { w with heap := w.heap.setIfInBounds ab (.stringIter s (pos + (Utf8.decode s pos).2)) }) hR hlb hb (b' := { b with cells := [.string s, .int .i64 ((pos + (Utf8.decode s pos).2 : Nat) : Int)], live := false }) (fun k hk => by simp [Array.getElem?_setIfInBounds_ne (Ne.symm hk)]) (by simp) rfl rfl rfl
                    ⟨(fun e => by cases e), (fun _ => ⟨s, pos + (Utf8.decode s pos).2, rfl, by simp [hg]⟩)⟩) ?_
                  exact plain_vr m 4 _ rfl
                | false =>
                  rw [hlt] at h
                  simp only [cond_false, Option.some.injEq] at h
                  subst h
                  rw [if_neg (by simpa using hlt)]
                  simp only [Sem.run_pure, Result.andThen_ok]
                  exact hK _ _ m (Ext.refl hR) (plain_vr m 4 _ rfl)
              · cases h
          · cases h
      · cases h
    · rename_i t x y ho
      split at h
      · rename_i H' loc' wg wl hst
        injection h with h; subst h
        obtain ⟨w', hrun, hext⟩ := store_sound (P := P) hR (hρ x (by simp [ho, Op.operands])) (hρ y (by simp [ho, Op.operands])) hst
        unfold Oper.wp execOp
        simp only [ho, Sem.run_bind, hrun, Result.andThen_ok, Sem.run_pure]
        exact hK undef w' m hext (VR.undef m)
      · cases h
    · rename_i s x tS tX ho
      obtain ⟨v', w', m', hrun, hext, hvr⟩ := append_sound (P := P) (ty := o.type) hR (hρ s (by simp [ho, Op.operands, Call.operands])) (hρ x (by simp [ho, Op.operands, Call.operands])) h
      unfold Oper.wp execOp
      simp only [ho, resolve, invoke, builtin, Sem.run_bind, Sem.run_pure, Result.andThen_ok, List.map_toArray, List.map_cons, List.map_nil, hrun]
      exact hK v' w' m' hext hvr
    · rename_i s x tS tR ho
      obtain ⟨v', w', hrun, hext, hvr⟩ := copy_sound (P := P) (ty := o.type) hR (hρ s (by simp [ho, Op.operands, Call.operands])) (hρ x (by simp [ho, Op.operands, Call.operands])) (tX := tR) h
      unfold Oper.wp execOp
      simp only [ho, resolve, invoke, builtin, Sem.run_bind, Sem.run_pure, Result.andThen_ok, List.map_toArray, List.map_cons, List.map_nil, hrun]
      exact hK v' w' m hext hvr
    · rename_i f as tys ho
      unfold evCall at h
      split at h
      · rename_i fid first captured hfv
        cases hsf : symF fid with
        | true => rw [hsf] at h; cases h
        | false =>
        rw [hsf] at h
        simp only [cond_false] at h
        cases hc : (hasBody P fid && (first.toList ++ as.toList.map ρ ++ captured.toList).all noLoc) with
        | false =>
          rw [hc] at h
          simp only [cond_false] at h
          split at h
          · rename_i e he
            cases hp : (!hasBody P fid && (first.toList ++ as.toList.map ρ ++ captured.toList).all plainV) with
            | false => rw [hp] at h; cases h
            | true =>
              rw [hp] at h
              simp only [cond_true] at h
              simp only [Bool.and_eq_true] at hp
              split at h
              · rename_i v hv
                cases hpv : plainV v with
                | false => rw [hpv] at h; cases h
                | true =>
                  rw [hpv] at h
                  simp only [cond_true, Option.some.injEq] at h
                  subst h
                  have hf := hρ f (by simp [ho, Op.operands, Call.operands])
                  rw [hfv] at hf
                  have hargs : VRs m (as.toList.map ρ) (as.toList.map a.eval) := by
                    have key : ∀ (l : List Operand), (∀ x ∈ l, VR m (ρ x) (a.eval x)) → VRs m (l.map ρ) (l.map a.eval) := by
                      intro l hl
                      induction l with
                      | nil => exact VRs.nil m
                      | cons x l ih => exact VRs.cons (hl x (by simp)) (ih fun y hy => hl y (by simp [hy]))
                    exact key _ fun x hx => hρ x (by simp [ho, Op.operands, Call.operands]; exact .inr (by simpa using hx))
                  cases hfv' : a.eval f with
                  | func fn first' captured' =>
                    rw [hfv'] at hf
                    cases hf with
                    | func h0 h1 h2 h3 h4 =>
                      rename_i fs fs' cs cs'
                      have hall : VRs m (fs ++ as.toList.map ρ ++ cs) (fs' ++ as.toList.map a.eval ++ cs') := (VRs.append ⟨h1, h2⟩ hargs).append ⟨h3, h4⟩
                      have heq : fs ++ as.toList.map ρ ++ cs = fs' ++ as.toList.map a.eval ++ cs' :=
                        list_eq_of hall.1 fun i x y hx hy => plain_eq 4 x y (List.all_eq_true.1 hp.2 x (List.mem_of_getElem? hx)) (hall.2 i x y hx hy)
                      obtain ⟨fnn, hfn, hbn, hnx, hfd⟩ := hX.1 _ _ he
                      have hrun := run_callFunc_extern hfn (hN _ _ hfn) hbn hnx hfd (fs' ++ as.toList.map a.eval ++ cs').toArray w
                      simp only at hv
                      rw [heq] at hv
                      rw [runPure_run _ _ w hv] at hrun
                      unfold Oper.wp execOp
                      have e' : (⟨fs'⟩ ++ as.map a.eval ++ ⟨cs'⟩ : Array Value) = (fs' ++ as.toList.map a.eval ++ cs').toArray := by apply Array.ext'; simp
                      simp only [ho, resolve, hfv', Deferred.ofValue, Sem.run_bind, Sem.run_pure, Result.andThen_ok, invoke, e', hrun]
                      exact hK v w m (Ext.refl hR) (plain_vr m 4 v hpv)
                  | int k n => rw [hfv'] at hf; cases hf with | symI h0 _ => rw [hsf] at h0; cases h0
                  | bool b => rw [hfv'] at hf; cases hf with | symB h0 _ => rw [hsf] at h0; cases h0
                  | _ => rw [hfv'] at hf; cases hf
              · cases h
          · cases h
        | true =>
          rw [hc] at h
          simp only [cond_true] at h
          simp only [Bool.and_eq_true] at hc
          obtain ⟨hbody, hnoloc⟩ := hc
          split at h
          · rename_i v H' md hor
            injection h with h; subst h
            have hf := hρ f (by simp [ho, Op.operands, Call.operands])
            rw [hfv] at hf
            have hargs : VRs m (as.toList.map ρ) (as.toList.map a.eval) := by
              have key : ∀ (l : List Operand), (∀ x ∈ l, VR m (ρ x) (a.eval x)) → VRs m (l.map ρ) (l.map a.eval) := by
                intro l hl
                induction l with
                | nil => exact VRs.nil m
                | cons x l ih => exact VRs.cons (hl x (by simp)) (ih fun y hy => hl y (by simp [hy]))
              exact key _ fun x hx => hρ x (by simp [ho, Op.operands, Call.operands]; exact .inr (by simpa using hx))
            cases hfv' : a.eval f with
            | func fn first' captured' =>
              rw [hfv'] at hf
              cases hf with
              | func h0 h1 h2 h3 h4 =>
                rename_i fs fs' cs cs'
                have hall : VRs m (fs ++ as.toList.map ρ ++ cs) (fs' ++ as.toList.map a.eval ++ cs') := (VRs.append ⟨h1, h2⟩ hargs).append ⟨h3, h4⟩
                have hgood := hO _ _ _ _ _ _ hor m.noL w _ hE rfl (rel_noL hR) (vrs_noLoc hnoloc hall)
                unfold hasBody at hbody
                split at hbody
                · rename_i fnn hfn
                  have hrun := run_call (args := (fs' ++ as.toList.map a.eval ++ cs').toArray) hfn hbody (hN _ _ hfn) w
                  unfold Oper.wp execOp
                  have e : (⟨fs'⟩ ++ as.map a.eval ++ ⟨cs'⟩ : Array Value) = (fs' ++ as.toList.map a.eval ++ cs').toArray := by apply Array.ext'; simp
                  simp only [ho, resolve, hfv', Deferred.ofValue, Sem.run_bind, Sem.run_pure, Result.andThen_ok, invoke, e, hrun]
                  rw [Oper.upon_enter]
                  refine hgood.mono ?_
                  rintro e' w' ⟨v', m', rfl, hvr, hext, hlb⟩
                  obtain ⟨hext', hle⟩ := ext_call hR hext hlb
                  exact hK v' w' _ hext' (hvr.mono hle)
                · cases hbody
            | int k n => rw [hfv'] at hf; cases hf with | symI h0 _ => rw [hsf] at h0; cases h0
            | bool b => rw [hfv'] at hf; cases hf with | symB h0 _ => rw [hsf] at h0; cases h0
            | _ => rw [hfv'] at hf; cases hf
          · cases h
      · cases h
    · cases h
end
end Go.Sm
end
