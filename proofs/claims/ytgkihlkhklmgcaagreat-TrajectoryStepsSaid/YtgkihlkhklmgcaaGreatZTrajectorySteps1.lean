/-
  Texts put together: AmA AmB AmC.
-/
import Derived.WalkKit
set_option linter.unusedVariables false
section
/-
  An abstract machine for the model's code: values and heaps up to the numbers of blocks. This text: the notions, the relation of values, the operations that touch no memory.
-/
namespace Go.Am

/- Strict evaluation, for the kernel's sake: each of these hands on just what it was given. -/
section
variable {α : Type}
def fNat (n : Nat) (k : Nat → α) : α := match n with
  | 0 => k 0
  | p + 1 => k (p + 1)
def fInt (n : Int) (k : Int → α) : α := match n with
  | .ofNat m => fNat m fun m => k (.ofNat m)
  | .negSucc m => fNat m fun m => k (.negSucc m)
def fBool (b : Bool) (k : Bool → α) : α := match b with
  | true => k true
  | false => k false
def fSpot (s : Option Nat) (k : Option Nat → α) : α := match s with
  | none => k none
  | some n => fNat n fun n => k (some n)
def fAddr (a : Addr) (k : Addr → α) : α := fNat a.block fun b => fNat a.off fun o => fSpot a.spot fun s => k ⟨b, o, s⟩
def fEach (f : Value → (Value → α) → α) : List Value → (List Value → α) → α
  | [], k => k []
  | v :: vs, k => f v fun v => fEach f vs fun l => k (v :: l)
def fVal : Nat → Value → (Value → α) → α
  | 0, v, k => k v
  | d + 1, v, k => match v with
    | .bool b => fBool b fun b => k (.bool b)
    | .int kd n => fInt n fun n => k (.int kd n)
    | .pointer (some a) => fAddr a fun a => k (.pointer (some a))
    | .slice none n c => fNat n fun n => fNat c fun c => k (.slice none n c)
    | .slice (some a) n c => fAddr a fun a => fNat n fun n => fNat c fun c => k (.slice (some a) n c)
    | .agg ⟨l⟩ => fEach (fVal d) l fun l => k (.agg ⟨l⟩)
    | .tuple ⟨l⟩ => fEach (fVal d) l fun l => k (.tuple ⟨l⟩)
    | .func fn ⟨l⟩ ⟨l2⟩ => fEach (fVal d) l fun l => fEach (fVal d) l2 fun l2 => k (.func fn ⟨l⟩ ⟨l2⟩)
    | .iface t v => fVal d v fun v => k (.iface t v)
    | .map (some r) => fNat r fun r => k (.map (some r))
    | v => k v
def fVals (l : List Value) (k : List Value → α) : α := fEach (fVal 4) l k
/-- A list's spine. -/
def fSpine {β : Type} : List β → (List β → α) → α
  | [], k => k []
  | x :: l, k => fSpine l fun l => k (x :: l)
def fSet {β : Type} : List β → Nat → β → (List β → α) → α
  | [], _, _, k => k []
  | x :: l, n, v, k => match n with
    | 0 => k (v :: l)
    | n + 1 => fSet l n v fun l => k (x :: l)

theorem fNat_eq (n : Nat) (k : Nat → α) : fNat n k = k n := by cases n <;> rfl
theorem fInt_eq (n : Int) (k : Int → α) : fInt n k = k n := by cases n <;> simp [fInt, fNat_eq]
theorem fBool_eq (n : Bool) (k : Bool → α) : fBool n k = k n := by cases n <;> rfl
theorem fSpot_eq (n : Option Nat) (k : Option Nat → α) : fSpot n k = k n := by cases n <;> simp [fSpot, fNat_eq]
theorem fAddr_eq (a : Addr) (k : Addr → α) : fAddr a k = k a := by simp [fAddr, fNat_eq, fSpot_eq]
theorem fEach_eq {f : Value → (Value → α) → α} (hf : ∀ v k, f v k = k v) : ∀ (l : List Value) (k : List Value → α), fEach f l k = k l
  | [], k => rfl
  | v :: l, k => by simp [fEach, hf, fEach_eq hf l]
theorem fVal_eq : ∀ (d : Nat) (v : Value) (k : Value → α), fVal d v k = k v
  | 0, _, _ => rfl
  | d + 1, v, k => by
    unfold fVal
    split <;> simp [fBool_eq, fInt_eq, fNat_eq, fAddr_eq, fEach_eq (fVal_eq d), fVal_eq d]
theorem fVals_eq (l : List Value) (k : List Value → α) : fVals l k = k l := fEach_eq (fVal_eq 4) l k
theorem fSpine_eq {β : Type} : ∀ (l : List β) (k : List β → α), fSpine l k = k l
  | [], _ => rfl
  | x :: l, k => by simp [fSpine, fSpine_eq l]
theorem fSet_eq {β : Type} : ∀ (l : List β) (n : Nat) (v : β) (k : List β → α), fSet l n v k = k (l.set n v)
  | [], _, _, _ => rfl
  | x :: l, n, v, k => by
    cases n with
    | zero => rfl
    | succ n => simp [fSet, fSet_eq l n v]
end

/-- A block of the abstract heap. loose: the concrete block may be longer; live: not yet taken over by an append; esz: cells an element. -/
structure Blk where
  cells : List Value
  elem : TypeId
  esz : Nat
  loose : Bool
  live : Bool

/-- Held: it lies in the world: live, or a map (not live, with a head). -/
def Blk.held (b : Blk) : Bool := b.live || !b.cells.isEmpty
theorem Blk.held_live {b : Blk} (h : b.live = true) : b.held = true := by unfold Blk.held; rw [h]; rfl

abbrev Hp := List Blk

/-- Where the abstract blocks lie: global ones, local ones; of the loose ones their true length. -/
structure Mp where
  gb : Nat → Option Nat
  lb : Nat → Option Nat
  loose : Nat → Bool
  esz : Nat → Nat
  tot : Nat → Nat

inductive VR (m : Mp) : Value → Value → Prop
  | bool (b : Bool) : VR m (.bool b) (.bool b)
  | int (k : IntKind) (n : Int) : VR m (.int k n) (.int k n)
  | float (k : FloatKind) (n : Nat) : VR m (.float k n) (.float k n)
  | string (s : ByteArray) : VR m (.string s) (.string s)
  | ptrN : VR m (.pointer none) (.pointer none)
  | ptrG {i g off : Nat} (h : m.gb i = some g) : VR m (.pointer (some ⟨i, off, none⟩)) (.pointer (some ⟨g, off, none⟩))
  | ptrL {i g off : Nat} (h : m.lb i = some g) : VR m (.pointer (some ⟨i, off, some 0⟩)) (.pointer (some ⟨g, off, none⟩))
  | sliceN (n c : Nat) : VR m (.slice none n c) (.slice none n c)
  | sliceG {i g off n c : Nat} (h : m.gb i = some g) : VR m (.slice (some ⟨i, off, none⟩) n c) (.slice (some ⟨g, off, none⟩) n c)
  | sliceO {i g off n c c' : Nat} (h : m.gb i = some g) (hl : m.loose i = true) (hc : c ≤ c') (ht : off + c' * m.esz i ≤ m.tot i) :
      VR m (.slice (some ⟨i, off, none⟩) n c) (.slice (some ⟨g, off, none⟩) n c')
  | sliceE {i g off c' : Nat} {a : Addr} (h : m.gb i = some g) (hl : m.loose i = true) : VR m (.slice (some ⟨i, off, none⟩) 0 0) (.slice (some a) 0 c')
  | sliceL {i g off n c : Nat} (h : m.lb i = some g) : VR m (.slice (some ⟨i, off, some 0⟩) n c) (.slice (some ⟨g, off, none⟩) n c)
  | mapN : VR m (.map none) (.map none)
  | mapG {i g : Nat} (h : m.gb i = some g) : VR m (.map (some i)) (.map (some g))
  | nilFunc : VR m .nilFunc .nilFunc
  | nilIface : VR m .nilIface .nilIface
  | func {f : FuncId} {fs fs' cs cs' : List Value} (hl : fs.length = fs'.length) (h : ∀ (i : Nat) (v v' : Value), fs[i]? = some v → fs'[i]? = some v' → VR m v v')
      (hl2 : cs.length = cs'.length) (h2 : ∀ (i : Nat) (v v' : Value), cs[i]? = some v → cs'[i]? = some v' → VR m v v') :
      VR m (.func (.func f) ⟨fs⟩ ⟨cs⟩) (.func (.func f) ⟨fs'⟩ ⟨cs'⟩)
  | iface {t : TypeId} {v v' : Value} (h : VR m v v') : VR m (.iface t v) (.iface t v')
  | agg {cs cs' : List Value} (hl : cs.length = cs'.length) (h : ∀ (i : Nat) (v v' : Value), cs[i]? = some v → cs'[i]? = some v' → VR m v v') : VR m (.agg ⟨cs⟩) (.agg ⟨cs'⟩)
  | tuple {cs cs' : List Value} (hl : cs.length = cs'.length) (h : ∀ (i : Nat) (v v' : Value), cs[i]? = some v → cs'[i]? = some v' → VR m v v') : VR m (.tuple ⟨cs⟩) (.tuple ⟨cs'⟩)

/-- Two lists, place by place. -/
def VRs (m : Mp) (l l' : List Value) : Prop := l.length = l'.length ∧ ∀ (i : Nat) (v v' : Value), l[i]? = some v → l'[i]? = some v' → VR m v v'

/-- More is mapped. -/
structure Le (m m' : Mp) : Prop where
  gb : ∀ i g, m.gb i = some g → m'.gb i = some g
  lb : ∀ i g, m.lb i = some g → m'.lb i = some g
  loose : ∀ i g, m.gb i = some g → m'.loose i = m.loose i
  esz : ∀ i g, m.gb i = some g → m'.esz i = m.esz i
  tot : ∀ i g, m.gb i = some g → m'.tot i = m.tot i

theorem Le.refl (m : Mp) : Le m m := ⟨fun _ _ h => h, fun _ _ h => h, fun _ _ _ => rfl, fun _ _ _ => rfl, fun _ _ _ => rfl⟩
theorem Le.trans {a b c : Mp} (h : Le a b) (k : Le b c) : Le a c :=
  ⟨fun i g e => k.gb i g (h.gb i g e), fun i g e => k.lb i g (h.lb i g e), fun i g e => (k.loose i g (h.gb i g e)).trans (h.loose i g e),
   fun i g e => (k.esz i g (h.gb i g e)).trans (h.esz i g e), fun i g e => (k.tot i g (h.gb i g e)).trans (h.tot i g e)⟩

theorem VR.mono {m m' : Mp} (hm : Le m m') {v v' : Value} (h : VR m v v') : VR m' v v' := by
  induction h with
  | bool b => exact .bool b
  | int k n => exact .int k n
  | float k n => exact .float k n
  | string s => exact .string s
  | ptrN => exact .ptrN
  | ptrG h => exact .ptrG (hm.gb _ _ h)
  | ptrL h => exact .ptrL (hm.lb _ _ h)
  | sliceN n c => exact .sliceN n c
  | sliceG h => exact .sliceG (hm.gb _ _ h)
  | sliceO h hl hc ht => exact .sliceO (hm.gb _ _ h) ((hm.loose _ _ h).trans hl) hc (by rw [hm.esz _ _ h, hm.tot _ _ h]; exact ht)
  | sliceE h hl => exact .sliceE (hm.gb _ _ h) ((hm.loose _ _ h).trans hl)
  | sliceL h => exact .sliceL (hm.lb _ _ h)
  | mapN => exact .mapN
  | mapG h => exact .mapG (hm.gb _ _ h)
  | nilFunc => exact .nilFunc
  | nilIface => exact .nilIface
  | func hl _ hl2 _ ih ih2 => exact .func hl ih hl2 ih2
  | iface _ ih => exact .iface ih
  | agg hl _ ih => exact .agg hl ih
  | tuple hl _ ih => exact .tuple hl ih

theorem VRs.mono {m m' : Mp} (hm : Le m m') {l l' : List Value} (h : VRs m l l') : VRs m' l l' := ⟨h.1, fun i v v' a b => (h.2 i v v' a b).mono hm⟩
theorem VRs.nil (m : Mp) : VRs m [] [] := ⟨rfl, fun i v v' h => by simp at h⟩
theorem VRs.cons {m : Mp} {v v' : Value} {l l' : List Value} (h : VR m v v') (hs : VRs m l l') : VRs m (v :: l) (v' :: l') := by
  refine ⟨by simp [hs.1], fun i x x' a b => ?_⟩
  cases i with
  | zero => simp at a b; subst a; subst b; exact h
  | succ i => exact hs.2 i x x' (by simpa using a) (by simpa using b)
theorem VRs.cons_inv {m : Mp} {v : Value} {l l'' : List Value} (h : VRs m (v :: l) l'') : ∃ v' l', l'' = v' :: l' ∧ VR m v v' ∧ VRs m l l' := by
  cases l'' with
  | nil => have := h.1; simp at this
  | cons v' l' =>
    refine ⟨v', l', rfl, h.2 0 v v' rfl rfl, by have := h.1; simpa using this, fun i x x' a b => h.2 (i + 1) x x' (by simpa using a) (by simpa using b)⟩
theorem VRs.at {m : Mp} {l l' : List Value} (h : VRs m l l') {i : Nat} {v : Value} (hv : l[i]? = some v) : ∃ v', l'[i]? = some v' ∧ VR m v v' := by
  have hi : i < l.length := by
    rcases Nat.lt_or_ge i l.length with hlt | hge
    · exact hlt
    · rw [List.getElem?_eq_none hge] at hv; cases hv
  have hi' : i < l'.length := h.1 ▸ hi
  exact ⟨l'[i], List.getElem?_eq_getElem hi', h.2 i v _ hv (List.getElem?_eq_getElem hi')⟩
theorem VRs.append {m : Mp} {a a' b b' : List Value} (h : VRs m a a') (k : VRs m b b') : VRs m (a ++ b) (a' ++ b') := by
  refine ⟨by simp [h.1, k.1], fun i v v' e e' => ?_⟩
  by_cases hi : i < a.length
  · rw [List.getElem?_append_left hi] at e
    rw [List.getElem?_append_left (h.1 ▸ hi)] at e'
    exact h.2 i v v' e e'
  · rw [List.getElem?_append_right (by omega)] at e
    rw [List.getElem?_append_right (by have := h.1; omega), ← h.1] at e'
    exact k.2 _ v v' e e'
theorem VRs.take {m : Mp} {l l' : List Value} (h : VRs m l l') (n : Nat) : VRs m (l.take n) (l'.take n) := by
  refine ⟨by simp [h.1], fun i v v' e e' => ?_⟩
  simp only [List.getElem?_take] at e e'
  split at e
  · simp_all; exact h.2 i v v' e e'
  · cases e
theorem VRs.drop {m : Mp} {l l' : List Value} (h : VRs m l l') (n : Nat) : VRs m (l.drop n) (l'.drop n) :=
  ⟨by simp [h.1], fun i v v' e e' => h.2 (n + i) v v' (by simpa using e) (by simpa using e')⟩
theorem VRs.set {m : Mp} {l l' : List Value} (h : VRs m l l') (n : Nat) {x x' : Value} (hx : VR m x x') : VRs m (l.set n x) (l'.set n x') := by
  refine ⟨by simp [h.1], fun i v v' e e' => ?_⟩
  simp only [List.getElem?_set] at e e'
  rw [← h.1] at e'
  by_cases hi : n = i
  · subst hi
    by_cases hl : n < l.length
    · simp [hl] at e e'; subst e; subst e'; exact hx
    · simp [hl] at e
  · simp [hi] at e e'; exact h.2 i v v' e e'
theorem VRs.agg {m : Mp} {l l' : List Value} (h : VRs m l l') : VR m (.agg ⟨l⟩) (.agg ⟨l'⟩) := .agg h.1 h.2
theorem VRs.tuple {m : Mp} {l l' : List Value} (h : VRs m l l') : VR m (.tuple ⟨l⟩) (.tuple ⟨l'⟩) := .tuple h.1 h.2
theorem VR.undef (m : Mp) : VR m undef undef := .tuple rfl (fun i v v' h => by simp at h)

/-- No address in it. -/
def plainB : Nat → Value → Bool
  | 0, _ => false
  | d + 1, v => match v with
    | .bool _ | .int _ _ | .float _ _ | .string _ | .pointer none | .slice none _ _ | .map none | .nilFunc | .nilIface => true
    | .agg cs => cs.toList.all (plainB d)
    | .tuple cs => cs.toList.all (plainB d)
    | .iface _ x => plainB d x
    | .func (.func _) fs cs => fs.toList.all (plainB d) && cs.toList.all (plainB d)
    | _ => false

/-- No local address in it. -/
def noLocB : Nat → Value → Bool
  | 0, _ => false
  | d + 1, v => match v with
    | .pointer (some a) => a.spot.isNone
    | .slice (some a) _ _ => a.spot.isNone
    | .agg cs => cs.toList.all (noLocB d)
    | .tuple cs => cs.toList.all (noLocB d)
    | .iface _ x => noLocB d x
    | .func _ fs cs => fs.toList.all (noLocB d) && cs.toList.all (noLocB d)
    | _ => true

theorem list_eq_of {l l' : List Value} (hl : l.length = l'.length) (h : ∀ (i : Nat) (v v' : Value), l[i]? = some v → l'[i]? = some v' → v = v') : l = l' := by
  apply List.ext_getElem? 
  intro i
  by_cases hi : i < l.length
  · have hi' : i < l'.length := hl ▸ hi
    rw [List.getElem?_eq_getElem hi, List.getElem?_eq_getElem hi', h i _ _ (List.getElem?_eq_getElem hi) (List.getElem?_eq_getElem hi')]
  · rw [List.getElem?_eq_none (by omega), List.getElem?_eq_none (by omega)]

theorem plain_eq {m : Mp} : ∀ (d : Nat) (v v' : Value), plainB d v = true → VR m v v' → v = v'
  | 0, _, _, h, _ => by simp [plainB] at h
  | d + 1, v, v', h, hv => by
    cases hv with
    | agg hl hh =>
      simp only [plainB, List.all_eq_true] at h
      rw [list_eq_of hl fun i a b ha hb => plain_eq d a b (h a (List.mem_of_getElem? ha)) (hh i a b ha hb)]
    | tuple hl hh =>
      simp only [plainB, List.all_eq_true] at h
      rw [list_eq_of hl fun i a b ha hb => plain_eq d a b (h a (List.mem_of_getElem? ha)) (hh i a b ha hb)]
    | iface hh => simp only [plainB] at h; rw [plain_eq d _ _ h hh]
    | func hl hh hl2 hh2 =>
      simp only [plainB, Bool.and_eq_true, List.all_eq_true] at h
      rw [list_eq_of hl fun i a b ha hb => plain_eq d a b (h.1 a (List.mem_of_getElem? ha)) (hh i a b ha hb), list_eq_of hl2 fun i a b ha hb => plain_eq d a b (h.2 a (List.mem_of_getElem? ha)) (hh2 i a b ha hb)]
    | _ => first | rfl | (simp [plainB] at h)

theorem plain_vr (m : Mp) : ∀ (d : Nat) (v : Value), plainB d v = true → VR m v v
  | 0, _, h => by simp [plainB] at h
  | d + 1, v, h => by
    unfold plainB at h
    split at h
    · exact .bool _
    · exact .int _ _
    · exact .float _ _
    · exact .string _
    · exact .ptrN
    · exact .sliceN _ _
    · exact .mapN
    · exact .nilFunc
    · exact .nilIface
    · rename_i cs
      obtain ⟨l⟩ := cs
      simp only [List.all_eq_true] at h
      exact .agg rfl fun i a b ha hb => by rw [ha] at hb; injection hb with hb; subst hb; exact plain_vr m d a (h a (List.mem_of_getElem? ha))
    · rename_i cs
      obtain ⟨l⟩ := cs
      simp only [List.all_eq_true] at h
      exact .tuple rfl fun i a b ha hb => by rw [ha] at hb; injection hb with hb; subst hb; exact plain_vr m d a (h a (List.mem_of_getElem? ha))
    · exact .iface (plain_vr m d _ h)
    · rename_i f fs cs
      obtain ⟨l⟩ := fs
      obtain ⟨l2⟩ := cs
      simp only [Bool.and_eq_true, List.all_eq_true] at h
      exact .func rfl (fun i a b ha hb => by rw [ha] at hb; injection hb with hb; subst hb; exact plain_vr m d a (h.1 a (List.mem_of_getElem? ha))) rfl
        (fun i a b ha hb => by rw [ha] at hb; injection hb with hb; subst hb; exact plain_vr m d a (h.2 a (List.mem_of_getElem? ha)))
    · cases h

/-- The entries of a map, as cells: keys without addresses, and values; born one after another. -/
def MapR (m : Mp) : List Value → List MapEntry → Nat → Prop
  | [], [], _ => True
  | k :: v :: cs, e :: es, n => ((e.key = k ∧ plainB 4 k = true) ∧ VR m v e.val ∧ e.born = n) ∧ MapR m cs es (n + 1)
  | _, _, _ => False
theorem MapR.mono {m m' : Mp} (hm : Le m m') : ∀ {cs : List Value} {es : List MapEntry} {n : Nat}, MapR m cs es n → MapR m' cs es n
  | [], [], _, h => h
  | [], _ :: _, _, h => h.elim
  | [_], [], _, h => h.elim
  | [_], _ :: _, _, h => h.elim
  | _ :: _ :: _, [], _, h => h.elim
  | _ :: _ :: _, _ :: _, _, h => ⟨⟨h.1.1, h.1.2.1.mono hm, h.1.2.2⟩, MapR.mono hm h.2⟩

/-- The local map is nothing to a value without local addresses. -/
theorem noLoc_vr {m m' : Mp} (hg : m'.gb = m.gb) (h1 : m'.loose = m.loose) (h2 : m'.esz = m.esz) (h3 : m'.tot = m.tot) :
    ∀ (d : Nat) (v v' : Value), noLocB d v = true → VR m v v' → VR m' v v'
  | 0, _, _, h, _ => by simp [noLocB] at h
  | d + 1, v, v', h, hv => by
    cases hv with
    | bool b => exact .bool b
    | int k n => exact .int k n
    | float k n => exact .float k n
    | string s => exact .string s
    | ptrN => exact .ptrN
    | ptrG e => exact .ptrG (hg ▸ e)
    | ptrL _ => simp [noLocB] at h
    | sliceN n c => exact .sliceN n c
    | sliceG e => exact .sliceG (hg ▸ e)
    | sliceO e hl hc ht => exact .sliceO (hg ▸ e) (h1 ▸ hl) hc (by rw [h2, h3]; exact ht)
    | sliceE e hl => exact .sliceE (hg ▸ e) (h1 ▸ hl)
    | sliceL _ => simp [noLocB] at h
    | mapN => exact .mapN
    | mapG e => exact .mapG (hg ▸ e)
    | nilFunc => exact .nilFunc
    | nilIface => exact .nilIface
    | func hl hh hl2 hh2 =>
      simp only [noLocB, Bool.and_eq_true, List.all_eq_true] at h
      exact .func hl (fun i a b ha hb => noLoc_vr hg h1 h2 h3 d a b (h.1 a (List.mem_of_getElem? ha)) (hh i a b ha hb)) hl2
        (fun i a b ha hb => noLoc_vr hg h1 h2 h3 d a b (h.2 a (List.mem_of_getElem? ha)) (hh2 i a b ha hb))
    | iface hh => simp only [noLocB] at h; exact .iface (noLoc_vr hg h1 h2 h3 d _ _ h hh)
    | agg hl hh =>
      simp only [noLocB, List.all_eq_true] at h
      exact .agg hl (fun i a b ha hb => noLoc_vr hg h1 h2 h3 d a b (h a (List.mem_of_getElem? ha)) (hh i a b ha hb))
    | tuple hl hh =>
      simp only [noLocB, List.all_eq_true] at h
      exact .tuple hl (fun i a b ha hb => noLoc_vr hg h1 h2 h3 d a b (h a (List.mem_of_getElem? ha)) (hh i a b ha hb))

/-- A run that asks nothing of the world. -/
def runPure {α : Type} (P : Program) : Sem α → Option α
  | .pure a => some a
  | .program k => runPure P (k P)
  | .mark _ k => runPure P k
  | _ => none

theorem runPure_run {α : Type} {P : Program} : ∀ (s : Sem α) (a : α) (w : World), runPure P s = some a → s.run P w = .ok a w
  | .pure x, a, w, h => by simp only [runPure, Option.some.injEq] at h; subst h; rfl
  | .program k, a, w, h => by simp only [runPure] at h; exact runPure_run (k P) a w h
  | .mark _ k, a, w, h => by simp only [runPure] at h; exact runPure_run k a w h
  | .load .., _, _, h | .store .., _, _, h | .new .., _, _, h | .shape .., _, _, h | .freeze .., _, _, h | .frozen .., _, _, h | .getObj .., _, _, h | .setObj .., _, _, h
  | .choose .., _, _, h | .sys .., _, _, h | .halt .., _, _, h => by simp [runPure] at h

end Go.Am
end

section
/-
  The abstract heap and the world: the relation, and what a new block and a write do to it.
-/
namespace Go.Am

/-- Without the local blocks. -/
def Mp.noL (m : Mp) : Mp := { m with lb := fun _ => none }
theorem noL_le (m : Mp) : Le m.noL m := ⟨fun _ _ e => e, fun _ _ e => (by cases e), fun _ _ _ => rfl, fun _ _ _ => rfl, fun _ _ _ => rfl⟩
theorem Le.noL {m m' : Mp} (h : Le m m') : Le m.noL m'.noL := ⟨h.gb, fun _ _ e => (by cases e), h.loose, h.esz, h.tot⟩

/-- A global block as it lies. -/
structure GR (m : Mp) (i g : Nat) (b : Blk) (w : World) : Prop where
  lo : m.loose i = b.loose
  ez : m.esz i = b.esz
  blk : b.live = true → ∃ cs : Array Value, w.heap[g]? = some (.cells cs b.elem (0, 0)) ∧ b.cells.length ≤ cs.size ∧ VRs m.noL b.cells (cs.toList.take b.cells.length) ∧
    (b.loose = false → cs.size = b.cells.length) ∧ (b.loose = true → m.tot i = cs.size)
  mp : b.live = false → b.cells ≠ [] → ∃ es : Array MapEntry, w.heap[g]? = some (.map es es.size) ∧ MapR m.noL b.cells.tail es.toList 0

/-- A local block as it lies. One that is not live is an iterator over a string. -/
structure LR (m : Mp) (g : Nat) (b : Blk) (w : World) : Prop where
  blk : b.live = true → ∃ cs : Array Value, w.heap[g]? = some (.cells cs b.elem (0, 0)) ∧ VRs m b.cells cs.toList
  it : b.live = false → ∃ (s : ByteArray) (pos : Nat), b.cells = [.string s, .int .i64 (pos : Int)] ∧ w.heap[g]? = some (.stringIter s pos)

structure Rel (m : Mp) (H loc : Hp) (w : World) : Prop where
  glob : ∀ i g, m.gb i = some g → g < w.heap.size ∧ ∃ b, H[i]? = some b ∧ GR m i g b w
  locs : ∀ i g, m.lb i = some g → g < w.heap.size ∧ ∃ b, loc[i]? = some b ∧ LR m g b w
  ginj : ∀ i j g bi bj, m.gb i = some g → m.gb j = some g → H[i]? = some bi → H[j]? = some bj → bi.held = true → bj.held = true → i = j
  linj : ∀ i j g, m.lb i = some g → m.lb j = some g → i = j
  disj : ∀ i j g, m.gb i = some g → m.lb j = some g → False

/-- What a step may do. wg, wl: the blocks that it may have written. -/
structure Ext (m : Mp) (H loc : Hp) (w : World) (m' : Mp) (H' loc' : Hp) (w' : World) (wg wl : List Nat) : Prop where
  le : Le m m'
  rel : Rel m' H' loc' w'
  img : ∀ i g, m'.gb i = some g → (∃ j, m.gb j = some g) ∨ w.heap.size ≤ g
  imgl : ∀ i g, m'.lb i = some g → m.lb i = some g ∨ w.heap.size ≤ g
  dom : ∀ i g, m'.gb i = some g → m.gb i = some g ∨ (H.length ≤ i ∧ i < H'.length)
  doml : ∀ i g, m'.lb i = some g → m.lb i = some g ∨ (loc.length ≤ i ∧ i < loc'.length)
  os : w'.os = w.os
  tape : w'.tape = w.tape
  output : w'.output = w.output
  size : w.heap.size ≤ w'.heap.size
  frame : ∀ g, g < w.heap.size → (∀ i, m.gb i ≠ some g) → (∀ i, m.lb i ≠ some g) → w'.heap[g]? = w.heap[g]?
  un : ∀ i, i < H.length → m.gb i = none → H'[i]? = H[i]?
  unl : ∀ i, i < loc.length → m.lb i = none → loc'[i]? = loc[i]?
  mod : ∀ i, i < H.length → i ∉ wg → H'[i]? = H[i]?
  modl : ∀ i, i < loc.length → i ∉ wl → loc'[i]? = loc[i]?
  len : H.length ≤ H'.length
  lenl : loc.length ≤ loc'.length
  kp : ∀ (i : Nat) (b : Blk), H[i]? = some b → ∃ b', H'[i]? = some b' ∧ b'.esz = b.esz ∧ b'.loose = b.loose
  cmod : ∀ (i g : Nat) (b : Blk), m.gb i = some g → H[i]? = some b → b.held = true → i ∉ wg → w'.heap[g]? = w.heap[g]?

theorem Ext.refl {m : Mp} {H loc : Hp} {w : World} (h : Rel m H loc w) : Ext m H loc w m H loc w [] [] :=
  ⟨Le.refl m, h, fun i _ e => .inl ⟨i, e⟩, fun _ _ e => .inl e, fun _ _ e => .inl e, fun _ _ e => .inl e, rfl, rfl, rfl, Nat.le_refl _, fun _ _ _ _ => rfl, fun _ _ _ => rfl, fun _ _ _ => rfl,
   fun _ _ _ => rfl, fun _ _ _ => rfl, Nat.le_refl _, Nat.le_refl _, fun _ b e => ⟨b, e, rfl, rfl⟩, fun _ _ _ _ _ _ _ => rfl⟩

theorem Ext.trans {m m' m'' : Mp} {H H' H'' loc loc' loc'' : Hp} {w w' w'' : World} {a b c d : List Nat}
    (h : Ext m H loc w m' H' loc' w' a b) (k : Ext m' H' loc' w' m'' H'' loc'' w'' c d) : Ext m H loc w m'' H'' loc'' w'' (a ++ c) (b ++ d) where
  le := h.le.trans k.le
  rel := k.rel
  img := fun i g e => by
    rcases k.img i g e with ⟨j, e'⟩ | e'
    · exact h.img j g e'
    · exact .inr (Nat.le_trans h.size e')
  imgl := fun i g e => by
    rcases k.imgl i g e with e' | e'
    · exact h.imgl i g e'
    · exact .inr (Nat.le_trans h.size e')
  dom := fun i g e => by
    rcases k.dom i g e with e' | ⟨e1, e2⟩
    · rcases h.dom i g e' with e'' | ⟨e1, e2⟩
      · exact .inl e''
      · exact .inr ⟨e1, Nat.lt_of_lt_of_le e2 k.len⟩
    · exact .inr ⟨Nat.le_trans h.len e1, e2⟩
  doml := fun i g e => by
    rcases k.doml i g e with e' | ⟨e1, e2⟩
    · rcases h.doml i g e' with e'' | ⟨e1, e2⟩
      · exact .inl e''
      · exact .inr ⟨e1, Nat.lt_of_lt_of_le e2 k.lenl⟩
    · exact .inr ⟨Nat.le_trans h.lenl e1, e2⟩
  os := k.os.trans h.os
  tape := k.tape.trans h.tape
  output := k.output.trans h.output
  size := Nat.le_trans h.size k.size
  frame := fun g hg hn hl => by
    have hn' : ∀ i, m'.gb i ≠ some g := fun i e => by
      rcases h.img i g e with ⟨j, e'⟩ | e'
      · exact hn j e'
      · omega
    have hl' : ∀ i, m'.lb i ≠ some g := fun i e => by
      rcases h.imgl i g e with e' | e'
      · exact hl i e'
      · omega
    exact (k.frame g (Nat.lt_of_lt_of_le hg h.size) hn' hl').trans (h.frame g hg hn hl)
  un := fun i hi hn => by
    have hn' : m'.gb i = none := by
      cases e : m'.gb i with
      | none => rfl
      | some g =>
        rcases h.dom i g e with e' | ⟨e1, _⟩
        · rw [hn] at e'; cases e'
        · omega
    exact (k.un i (Nat.lt_of_lt_of_le hi h.len) hn').trans (h.un i hi hn)
  unl := fun i hi hn => by
    have hn' : m'.lb i = none := by
      cases e : m'.lb i with
      | none => rfl
      | some g =>
        rcases h.doml i g e with e' | ⟨e1, _⟩
        · rw [hn] at e'; cases e'
        · omega
    exact (k.unl i (Nat.lt_of_lt_of_le hi h.lenl) hn').trans (h.unl i hi hn)
  mod := fun i hi hn => by
    simp only [List.mem_append, not_or] at hn
    exact (k.mod i (Nat.lt_of_lt_of_le hi h.len) hn.2).trans (h.mod i hi hn.1)
  modl := fun i hi hn => by
    simp only [List.mem_append, not_or] at hn
    exact (k.modl i (Nat.lt_of_lt_of_le hi h.lenl) hn.2).trans (h.modl i hi hn.1)
  len := Nat.le_trans h.len k.len
  lenl := Nat.le_trans h.lenl k.lenl
  kp := fun i x e => by
    obtain ⟨y, e1, e2, e3⟩ := h.kp i x e
    obtain ⟨z, f1, f2, f3⟩ := k.kp i y e1
    exact ⟨z, f1, f2.trans e2, f3.trans e3⟩
  cmod := fun i g x e hx hl hn => by
    simp only [List.mem_append, not_or] at hn
    have hlt : i < H.length := (List.getElem?_eq_some_iff.1 hx).1
    exact (k.cmod i g x (h.le.gb i g e) ((h.mod i hlt hn.1).trans hx) hl hn.2).trans (h.cmod i g x e hx hl hn.1)

theorem Rel.unG {m : Mp} {H loc : Hp} {w : World} (h : Rel m H loc w) {i : Nat} (hi : H.length ≤ i) : m.gb i = none := by
  cases e : m.gb i with
  | none => rfl
  | some g =>
    obtain ⟨_, b, hb, _⟩ := h.glob i g e
    rw [List.getElem?_eq_none hi] at hb; cases hb
theorem Rel.unL {m : Mp} {H loc : Hp} {w : World} (h : Rel m H loc w) {i : Nat} (hi : loc.length ≤ i) : m.lb i = none := by
  cases e : m.lb i with
  | none => rfl
  | some g =>
    obtain ⟨_, b, hb, _⟩ := h.locs i g e
    rw [List.getElem?_eq_none hi] at hb; cases hb

/-- One global block more. -/
def Mp.addG (m : Mp) (i g : Nat) (lo : Bool) (ez tt : Nat) : Mp :=
  { m with gb := fun j => if j = i then some g else m.gb j, loose := fun j => if j = i then lo else m.loose j, esz := fun j => if j = i then ez else m.esz j, tot := fun j => if j = i then tt else m.tot j }
def Mp.addL (m : Mp) (i g : Nat) : Mp := { m with lb := fun j => if j = i then some g else m.lb j }

theorem le_addG {m : Mp} {i g : Nat} {lo : Bool} {ez tt : Nat} (h : m.gb i = none) : Le m (m.addG i g lo ez tt) := by
  have hne : ∀ j g', m.gb j = some g' → j ≠ i := fun j g' e hh => by subst hh; rw [h] at e; cases e
  exact ⟨fun j g' e => by simp [Mp.addG, hne j g' e, e], fun _ _ e => e, fun j g' e => by simp [Mp.addG, hne j g' e], fun j g' e => by simp [Mp.addG, hne j g' e], fun j g' e => by simp [Mp.addG, hne j g' e]⟩
theorem le_addL {m : Mp} {i g : Nat} (h : m.lb i = none) : Le m (m.addL i g) := by
  have hne : ∀ j g', m.lb j = some g' → j ≠ i := fun j g' e hh => by subst hh; rw [h] at e; cases e
  exact ⟨fun _ _ e => e, fun j g' e => by simp [Mp.addL, hne j g' e, e], fun _ _ _ => rfl, fun _ _ _ => rfl, fun _ _ _ => rfl⟩

theorem GR.mono {m m' : Mp} {i g : Nat} {b : Blk} {w w' : World} (h : GR m i g b w) (hm : Le m m') (hi : m.gb i = some g) (hw : b.held = true → w'.heap[g]? = w.heap[g]?) : GR m' i g b w' := by
  refine ⟨(hm.loose i g hi).trans h.lo, (hm.esz i g hi).trans h.ez, fun hl => ?_, fun hl hc => ?_⟩
  · obtain ⟨cs, h1, h2, h3, h4, h5⟩ := h.blk hl
    exact ⟨cs, (hw (Blk.held_live hl)).trans h1, h2, h3.mono hm.noL, h4, fun e => (hm.tot i g hi).trans (h5 e)⟩
  · obtain ⟨es, h1, h2⟩ := h.mp hl hc
    exact ⟨es, (hw (by unfold Blk.held; rw [hl]; simpa using hc)).trans h1, h2.mono hm.noL⟩
theorem LR.mono {m m' : Mp} {g : Nat} {b : Blk} {w w' : World} (h : LR m g b w) (hm : Le m m') (hw : w'.heap[g]? = w.heap[g]?) : LR m' g b w' := by
  refine ⟨fun hl => ?_, fun hl => ?_⟩
  · obtain ⟨cs, h1, h2⟩ := h.blk hl
    exact ⟨cs, hw.trans h1, h2.mono hm⟩
  · obtain ⟨s, pos, h1, h2⟩ := h.it hl
    exact ⟨s, pos, h1, hw.trans h2⟩

theorem heap_alloc_lt (w : World) (o : Obj) {k : Nat} (h : k < w.heap.size) : (w.alloc o).heap[k]? = w.heap[k]? := Go.RowKit.Below.heap_alloc w o k h

theorem ext_newGO {m : Mp} {H loc : Hp} {w : World} (h : Rel m H loc w) (b : Blk) (tt : Nat) (obj : Obj)
    (hG : GR (m.addG H.length w.heap.size b.loose b.esz tt) H.length w.heap.size b (w.alloc obj)) :
    Ext m H loc w (m.addG H.length w.heap.size b.loose b.esz tt) (H ++ [b]) loc (w.alloc obj) [] [] := by
  have hun := h.unG (Nat.le_refl H.length)
  have hle : Le m (m.addG H.length w.heap.size b.loose b.esz tt) := le_addG hun
  have hlt : ∀ i g, m.gb i = some g → i < H.length := fun i g e => by
    rcases Nat.lt_or_ge i H.length with hh | hh
    · exact hh
    · rw [h.unG hh] at e; cases e
  have hcase : ∀ i g, (m.addG H.length w.heap.size b.loose b.esz tt).gb i = some g → (i = H.length ∧ g = w.heap.size) ∨ (i ≠ H.length ∧ m.gb i = some g) := fun i g e => by
    simp only [Mp.addG] at e
    split at e
    · rename_i hi; injection e with e; exact .inl ⟨hi, e.symm⟩
    · rename_i hi; exact .inr ⟨hi, e⟩
  refine ⟨hle, ⟨fun i g e => ?_, fun i g e => ?_, ?_, fun i j g e e' => h.linj i j g e e', ?_⟩, ?_, fun i g e => .inl e, ?_, fun i g e => .inl e, rfl, rfl, rfl, by simp, fun g hg _ _ => heap_alloc_lt w _ hg,
    fun i hi _ => by rw [List.getElem?_append_left hi], fun _ _ _ => rfl, fun i hi _ => by rw [List.getElem?_append_left hi], fun _ _ _ => rfl, by simp, Nat.le_refl _, fun i x e => ⟨x, by rw [List.getElem?_append_left (List.getElem?_eq_some_iff.1 e).1]; exact e, rfl, rfl⟩, fun i g x e _ _ _ => heap_alloc_lt w _ (h.glob i g e).1⟩
  · rcases hcase i g e with ⟨rfl, rfl⟩ | ⟨hi, e'⟩
    · exact ⟨by simp, b, by simp, hG⟩
    · obtain ⟨hg, b', hb', hG'⟩ := h.glob i g e'
      exact ⟨by simp; omega, b', by rw [List.getElem?_append_left (hlt i g e')]; exact hb', hG'.mono hle e' (fun _ => heap_alloc_lt w _ hg)⟩
  · obtain ⟨hg, b', hb', hL⟩ := h.locs i g e
    exact ⟨by simp; omega, b', hb', hL.mono hle (heap_alloc_lt w _ hg)⟩
  · intro i j g bi bj e e' hi hj li lj
    rcases hcase i g e with ⟨rfl, rfl⟩ | ⟨ni, ei⟩ <;> rcases hcase j _ e' with ⟨rfl, hh⟩ | ⟨nj, ej⟩
    · rfl
    · have := (h.glob j _ ej).1; omega
    · have := (h.glob i g ei).1; omega
    · rw [List.getElem?_append_left (hlt i g ei)] at hi
      rw [List.getElem?_append_left (hlt j g ej)] at hj
      exact h.ginj i j g bi bj ei ej hi hj li lj
  · intro i j g e e'
    rcases hcase i g e with ⟨rfl, rfl⟩ | ⟨_, ei⟩
    · have := (h.locs j _ e').1; omega
    · exact h.disj i j g ei e'
  · intro i g e
    rcases hcase i g e with ⟨_, rfl⟩ | ⟨_, ei⟩
    · exact .inr (Nat.le_refl _)
    · exact .inl ⟨i, ei⟩
  · intro i g e
    rcases hcase i g e with ⟨rfl, _⟩ | ⟨_, ei⟩
    · exact .inr ⟨Nat.le_refl _, by simp⟩
    · exact .inl ei

theorem ext_newG {m : Mp} {H loc : Hp} {w : World} (h : Rel m H loc w) (b : Blk) (cs : Array Value) (hlv : b.live = true)
    (h1 : b.cells.length ≤ cs.size) (h2 : VRs m.noL b.cells (cs.toList.take b.cells.length)) (h3 : b.loose = false → cs.size = b.cells.length) :
    Ext m H loc w (m.addG H.length w.heap.size b.loose b.esz cs.size) (H ++ [b]) loc (w.alloc (.cells cs b.elem)) [] [] :=
  ext_newGO h b cs.size _ ⟨by simp [Mp.addG], by simp [Mp.addG], fun _ => ⟨cs, heap_alloc_new w _, h1, h2.mono (le_addG (h.unG (Nat.le_refl H.length))).noL, h3, fun _ => by simp [Mp.addG]⟩, fun e => by rw [hlv] at e; cases e⟩

theorem ext_newLO {m : Mp} {H loc : Hp} {w : World} (h : Rel m H loc w) (b : Blk) (obj : Obj) (h2 : LR (m.addL loc.length w.heap.size) w.heap.size b (w.alloc obj)) :
    Ext m H loc w (m.addL loc.length w.heap.size) H (loc ++ [b]) (w.alloc obj) [] [] := by
  have hun := h.unL (Nat.le_refl loc.length)
  have hle : Le m (m.addL loc.length w.heap.size) := le_addL hun
  have hlt : ∀ i g, m.lb i = some g → i < loc.length := fun i g e => by
    rcases Nat.lt_or_ge i loc.length with hh | hh
    · exact hh
    · rw [h.unL hh] at e; cases e
  have hcase : ∀ i g, (m.addL loc.length w.heap.size).lb i = some g → (i = loc.length ∧ g = w.heap.size) ∨ (i ≠ loc.length ∧ m.lb i = some g) := fun i g e => by
    simp only [Mp.addL] at e
    split at e
    · rename_i hi; injection e with e; exact .inl ⟨hi, e.symm⟩
    · rename_i hi; exact .inr ⟨hi, e⟩
  refine ⟨hle, ⟨fun i g e => ?_, fun i g e => ?_, fun i j g bi bj e e' hi hj li lj => h.ginj i j g bi bj e e' hi hj li lj, ?_, ?_⟩, fun i g e => .inl ⟨i, e⟩, ?_, fun i g e => .inl e, ?_, rfl, rfl, rfl, by simp,
    fun g hg _ _ => heap_alloc_lt w _ hg, fun _ _ _ => rfl, fun i hi _ => by rw [List.getElem?_append_left hi], fun _ _ _ => rfl, fun i hi _ => by rw [List.getElem?_append_left hi], Nat.le_refl _, by simp, fun _ x e => ⟨x, e, rfl, rfl⟩, fun i g x e _ _ _ => heap_alloc_lt w _ (h.glob i g e).1⟩
  · obtain ⟨hg, b', hb', hG⟩ := h.glob i g e
    exact ⟨by simp; omega, b', hb', hG.mono hle e (fun _ => heap_alloc_lt w _ hg)⟩
  · rcases hcase i g e with ⟨rfl, rfl⟩ | ⟨hi, e'⟩
    · exact ⟨by simp, b, by simp, h2⟩
    · obtain ⟨hg, b', hb', hL⟩ := h.locs i g e'
      exact ⟨by simp; omega, b', by rw [List.getElem?_append_left (hlt i g e')]; exact hb', hL.mono hle (heap_alloc_lt w _ hg)⟩
  · intro i j g e e'
    rcases hcase i g e with ⟨rfl, rfl⟩ | ⟨ni, ei⟩ <;> rcases hcase j _ e' with ⟨rfl, hh⟩ | ⟨nj, ej⟩
    · rfl
    · have := (h.locs j _ ej).1; omega
    · have := (h.locs i g ei).1; omega
    · exact h.linj i j g ei ej
  · intro i j g e e'
    rcases hcase j g e' with ⟨rfl, rfl⟩ | ⟨_, ej⟩
    · have := (h.glob i _ e).1; omega
    · exact h.disj i j g e ej
  · intro i g e
    rcases hcase i g e with ⟨_, rfl⟩ | ⟨_, ei⟩
    · exact .inr (Nat.le_refl _)
    · exact .inl ei
  · intro i g e
    rcases hcase i g e with ⟨rfl, _⟩ | ⟨_, ei⟩
    · exact .inr ⟨Nat.le_refl _, by simp⟩
    · exact .inl ei

theorem ext_newL {m : Mp} {H loc : Hp} {w : World} (h : Rel m H loc w) (b : Blk) (cs : Array Value) (hl : b.live = true) (h2 : VRs m b.cells cs.toList) :
    Ext m H loc w (m.addL loc.length w.heap.size) H (loc ++ [b]) (w.alloc (.cells cs b.elem)) [] [] :=
  ext_newLO h b _ ⟨fun _ => ⟨cs, heap_alloc_new w _, h2.mono (le_addL (h.unL (Nat.le_refl _)))⟩, fun e => by rw [hl] at e; cases e⟩

/-- Cells written over a list's. -/
def splice (l : List Value) (o : Nat) (vs : List Value) : List Value := l.take o ++ vs ++ l.drop (o + vs.length)

theorem splice_length {l : List Value} {o : Nat} {vs : List Value} (h : o + vs.length ≤ l.length) : (splice l o vs).length = l.length := by
  simp [splice]; omega
theorem VRs.splice {m : Mp} {l l' vs vs' : List Value} (h : VRs m l l') (o : Nat) (hv : VRs m vs vs') : VRs m (splice l o vs) (splice l' o vs') := by
  unfold Am.splice
  rw [← hv.1]
  exact ((h.take o).append hv).append (h.drop _)
theorem splice_take {l vs : List Value} {o n : Nat} (h : o + vs.length ≤ n) (hn : n ≤ l.length) : (splice l o vs).take n = splice (l.take n) o vs := by
  unfold splice
  have e1 : (l.take o ++ vs).length = o + vs.length := by simp; omega
  rw [List.take_append, e1, List.take_of_length_le (by rw [e1]; exact h), List.take_take, List.drop_take, Nat.min_eq_left (by omega : o ≤ n)]

theorem getElem?_set_self' {H : Hp} {i : Nat} {b x : Blk} (h : H[i]? = some b) : (H.set i x)[i]? = some x := by
  have : i < H.length := by
    rcases Nat.lt_or_ge i H.length with hh | hh
    · exact hh
    · rw [List.getElem?_eq_none hh] at h; cases h
  simp [this]

/-- A global block turned. -/
theorem ext_turnG {m : Mp} {H loc : Hp} {w w' : World} (h : Rel m H loc w) {i g : Nat} {b b' : Blk} (hi : m.gb i = some g) (hb : H[i]? = some b) (hheld : b.held = true) (hez : b'.esz = b.esz) (hlo : b'.loose = b.loose)
    (hother : ∀ k, k ≠ g → w'.heap[k]? = w.heap[k]?) (hsz : w'.heap.size = w.heap.size) (hos : w'.os = w.os) (htp : w'.tape = w.tape) (hou : w'.output = w.output) (hG' : GR m i g b' w') :
    Ext m H loc w m (H.set i b') loc w' [i] [] := by
  have hg := (h.glob i g hi).1
  refine ⟨Le.refl m, ⟨fun j g' e => ?_, fun j g' e => ?_, ?_, h.linj, h.disj⟩, fun j g' e => .inl ⟨j, e⟩, fun _ _ e => .inl e, fun _ _ e => .inl e, fun _ _ e => .inl e, hos, htp, hou, by rw [hsz]; exact Nat.le_refl _,
    fun g' hg' hn _ => hother g' (fun e => hn i (e ▸ hi)), fun j hj hn => ?_, fun _ _ _ => rfl, fun j hj hn => ?_, fun _ _ _ => rfl, by simp, Nat.le_refl _, fun j x e => ?_, fun j g' x e hx hl hn => hother g' (fun he => by subst he; exact hn (by simp [h.ginj j i _ x b e hi hx hb hl hheld]))⟩
  · by_cases hj : j = i
    · subst hj
      rw [hi] at e; injection e with e; subst e
      exact ⟨by rw [hsz]; exact hg, _, getElem?_set_self' hb, hG'⟩
    · obtain ⟨hg', b0, hb', hG0⟩ := h.glob j g' e
      refine ⟨by rw [hsz]; exact hg', b0, by rw [List.getElem?_set_ne (Ne.symm hj)]; exact hb', hG0.mono (Le.refl m) e (fun hl => hother g' (fun he => ?_))⟩
      subst he
      exact hj (h.ginj j i _ b0 b e hi hb' hb hl hheld)
  · obtain ⟨hg', b0, hb', hL⟩ := h.locs j g' e
    exact ⟨by rw [hsz]; exact hg', b0, hb', hL.mono (Le.refl m) (hother g' (fun he => h.disj i j g hi (he ▸ e)))⟩
  · intro a c g' ba bc ea ec ha hc la lc
    have hn : ∀ (x : Nat) (bx : Blk), (H.set i b')[x]? = some bx → bx.held = true → ∃ bx' : Blk, H[x]? = some bx' ∧ bx'.held = true := by
      intro x bx hx lx
      by_cases hxi : x = i
      · subst hxi; exact ⟨b, hb, hheld⟩
      · rw [List.getElem?_set_ne (Ne.symm hxi)] at hx; exact ⟨bx, hx, lx⟩
    obtain ⟨ba', ha', la'⟩ := hn a ba ha la
    obtain ⟨bc', hc', lc'⟩ := hn c bc hc lc
    exact h.ginj a c g' ba' bc' ea ec ha' hc' la' lc'
  · rw [List.getElem?_set_ne]
    intro e; subst e; rw [hi] at hn; cases hn
  · rw [List.getElem?_set_ne]
    intro e; subst e; simp at hn
  · by_cases hj : j = i
    · subst hj
      rw [hb] at e; injection e with e; subst e
      exact ⟨_, getElem?_set_self' hb, hez, hlo⟩
    · exact ⟨x, by rw [List.getElem?_set_ne (Ne.symm hj)]; exact e, rfl, rfl⟩

/-- A write into a live global block, within its cells. -/
theorem ext_writeG {m : Mp} {H loc : Hp} {w : World} (h : Rel m H loc w) {i g : Nat} {b : Blk} (hi : m.gb i = some g) (hb : H[i]? = some b) (hlive : b.live = true)
    {cs : Array Value} (hcs : w.heap[g]? = some (.cells cs b.elem (0, 0))) (o : Nat) {vs vs' : List Value} (ho : o + vs.length ≤ b.cells.length) (hv : VRs m.noL vs vs') :
    Ext m H loc w m (H.set i { b with cells := splice b.cells o vs }) loc (w.setRow g (splice cs.toList o vs').toArray) [i] [] := by
  obtain ⟨hg, b0, hb0, hG⟩ := h.glob i g hi
  rw [hb] at hb0; injection hb0 with hb0; subst hb0
  obtain ⟨cs0, e1, e2, e3, e4, e5⟩ := hG.blk hlive
  rw [hcs] at e1; injection e1 with e1; injection e1 with e1; subst e1
  refine ext_turnG h hi hb (Blk.held_live hlive) rfl rfl (fun k hk => setRow_other w g k _ hk) (by simp) rfl rfl rfl ⟨hG.lo, hG.ez, fun _ => ⟨_, setRow_heap w g cs _ _ _ hcs, ?_, ?_, ?_, ?_⟩, fun e => by simp only at e; rw [hlive] at e; cases e⟩
  · have := hv.1
    simp only [List.size_toArray]
    rw [splice_length ho, splice_length (by simp; omega)]
    simpa using e2
  · simp only [splice_length ho]
    rw [splice_take (by rw [← hv.1]; exact ho) (by simpa using e2)]
    exact e3.splice o hv
  · intro hl
    have := hv.1
    simp only [List.size_toArray]
    rw [splice_length ho, splice_length (by simp; omega)]
    simpa using e4 hl
  · intro hl
    have := hv.1
    simp only [List.size_toArray]
    rw [splice_length (by simp; omega)]
    simpa using e5 hl

/-- A local block turned. -/
theorem ext_turnL {m : Mp} {H loc : Hp} {w w' : World} (h : Rel m H loc w) {i g : Nat} {b b' : Blk} (hi : m.lb i = some g) (hb : loc[i]? = some b)
    (hother : ∀ k, k ≠ g → w'.heap[k]? = w.heap[k]?) (hsz : w'.heap.size = w.heap.size) (hos : w'.os = w.os) (htp : w'.tape = w.tape) (hou : w'.output = w.output) (hL' : LR m g b' w') :
    Ext m H loc w m H (loc.set i b') w' [] [i] := by
  refine ⟨Le.refl m, ⟨fun j g' e => ?_, fun j g' e => ?_, h.ginj, h.linj, h.disj⟩, fun j g' e => .inl ⟨j, e⟩, fun _ _ e => .inl e, fun _ _ e => .inl e, fun _ _ e => .inl e, hos, htp, hou, by rw [hsz]; exact Nat.le_refl _,
    fun g' hg' _ hn => hother g' (fun e => hn i (e ▸ hi)), fun _ _ _ => rfl, fun j hj hn => ?_, fun _ _ _ => rfl, fun j hj hn => ?_, Nat.le_refl _, by simp, fun _ x e => ⟨x, e, rfl, rfl⟩, fun j g' x e _ _ _ => hother g' (fun he => h.disj j i g (he ▸ e) hi)⟩
  · obtain ⟨hg', b0, hb', hG'⟩ := h.glob j g' e
    exact ⟨by rw [hsz]; exact hg', b0, hb', hG'.mono (Le.refl m) e (fun _ => hother g' (fun he => h.disj j i g (he ▸ e) hi))⟩
  · by_cases hj : j = i
    · subst hj
      rw [hi] at e; injection e with e; subst e
      exact ⟨by rw [hsz]; exact (h.locs j g hi).1, _, getElem?_set_self' hb, hL'⟩
    · obtain ⟨hg', b0, hb', hL⟩ := h.locs j g' e
      exact ⟨by rw [hsz]; exact hg', b0, by rw [List.getElem?_set_ne (Ne.symm hj)]; exact hb', hL.mono (Le.refl m) (hother g' (fun he => hj (h.linj j i g (he ▸ e) hi)))⟩
  · rw [List.getElem?_set_ne]
    intro e; subst e; rw [hi] at hn; cases hn
  · rw [List.getElem?_set_ne]
    intro e; subst e; simp at hn

/-- A write into a local block. -/
theorem ext_writeL {m : Mp} {H loc : Hp} {w : World} (h : Rel m H loc w) {i g : Nat} {b : Blk} (hi : m.lb i = some g) (hb : loc[i]? = some b) (hlive : b.live = true)
    {cs : Array Value} (hcs : w.heap[g]? = some (.cells cs b.elem (0, 0))) (o : Nat) {vs vs' : List Value} (hv : VRs m vs vs') :
    Ext m H loc w m H (loc.set i { b with cells := splice b.cells o vs }) (w.setRow g (splice cs.toList o vs').toArray) [] [i] := by
  obtain ⟨hg, b0, hb0, hL⟩ := h.locs i g hi
  rw [hb] at hb0; injection hb0 with hb0; subst hb0
  obtain ⟨cs0, e1, e2⟩ := hL.blk hlive
  rw [hcs] at e1; injection e1 with e1; injection e1 with e1; subst e1
  exact ext_turnL h hi hb (fun k hk => setRow_other w g k _ hk) (by simp) rfl rfl rfl
    ⟨fun _ => ⟨_, setRow_heap w g cs _ _ _ hcs, by simpa using e2.splice o hv⟩, fun e => by simp [hlive] at e⟩

end Go.Am
end

section
/-
  The operations that touch no memory, on abstract values; each does on the concrete ones what it does on these.
-/
namespace Go.Am

def addA (a : Addr) (n : Nat) : Addr := { a with off := a.off + n }

/-- Two addresses. -/
def AR (m : Mp) (a a' : Addr) : Prop :=
  (a.spot = none ∧ m.gb a.block = some a'.block ∧ a'.off = a.off ∧ a'.spot = none) ∨ (a.spot = some 0 ∧ m.lb a.block = some a'.block ∧ a'.off = a.off ∧ a'.spot = none)

theorem AR.spot {m : Mp} {a a' : Addr} (h : AR m a a') : a'.spot = none := by rcases h with h | h <;> exact h.2.2.2
theorem AR.add {m : Mp} {a a' : Addr} (h : AR m a a') (n : Nat) : AR m (addA a n) (a'.add n) := by
  have e : a'.add n = { a' with off := a'.off + n } := by
    have := h.spot
    obtain ⟨b, o, s⟩ := a'
    simp only at this
    subst this
    unfold Addr.add
    split <;> simp_all
  rw [e]
  rcases h with ⟨h1, h2, h3, h4⟩ | ⟨h1, h2, h3, h4⟩
  · exact .inl ⟨h1, h2, by simp [addA, h3], h4⟩
  · exact .inr ⟨h1, h2, by simp [addA, h3], h4⟩
theorem AR.vr {m : Mp} {a a' : Addr} (h : AR m a a') : VR m (.pointer (some a)) (.pointer (some a')) := by
  obtain ⟨b, o, s⟩ := a
  obtain ⟨b', o', s'⟩ := a'
  rcases h with ⟨h1, h2, h3, h4⟩ | ⟨h1, h2, h3, h4⟩ <;> simp only at h1 h2 h3 h4 <;> subst h1 h3 h4
  · exact .ptrG h2
  · exact .ptrL h2
theorem vr_ptr {m : Mp} {a : Addr} {v' : Value} (h : VR m (.pointer (some a)) v') : ∃ a', v' = .pointer (some a') ∧ AR m a a' := by
  cases h with
  | ptrG e => exact ⟨_, rfl, .inl ⟨rfl, e, rfl, rfl⟩⟩
  | ptrL e => exact ⟨_, rfl, .inr ⟨rfl, e, rfl, rfl⟩⟩

/-- Two slices' places. -/
def SR (m : Mp) (a : Addr) (n c : Nat) (a' : Addr) (c' : Nat) : Prop :=
  (AR m a a' ∧ (c' = c ∨ (a.spot = none ∧ m.loose a.block = true ∧ c ≤ c' ∧ a.off + c' * m.esz a.block ≤ m.tot a.block))) ∨
  (n = 0 ∧ c = 0 ∧ a.spot = none ∧ m.loose a.block = true ∧ ∃ g, m.gb a.block = some g)

theorem vr_slice {m : Mp} {a : Addr} {n c : Nat} {v' : Value} (h : VR m (.slice (some a) n c) v') : ∃ a' c', v' = .slice (some a') n c' ∧ SR m a n c a' c' := by
  cases h with
  | sliceG e => exact ⟨_, _, rfl, .inl ⟨.inl ⟨rfl, e, rfl, rfl⟩, .inl rfl⟩⟩
  | sliceO e hl hc ht => exact ⟨_, _, rfl, .inl ⟨.inl ⟨rfl, e, rfl, rfl⟩, .inr ⟨rfl, hl, hc, ht⟩⟩⟩
  | sliceE e hl => exact ⟨_, _, rfl, .inr ⟨rfl, rfl, rfl, hl, _, e⟩⟩
  | sliceL e => exact ⟨_, _, rfl, .inl ⟨.inr ⟨rfl, e, rfl, rfl⟩, .inl rfl⟩⟩
theorem SR.vr {m : Mp} {a : Addr} {n c : Nat} {a' : Addr} {c' : Nat} (h : SR m a n c a' c') : VR m (.slice (some a) n c) (.slice (some a') n c') := by
  obtain ⟨b, o, s⟩ := a
  rcases h with ⟨har, hc⟩ | ⟨h1, h2, h3, h4, g, h5⟩
  · obtain ⟨b', o', s'⟩ := a'
    rcases har with ⟨h1, h2, h3, h4⟩ | ⟨h1, h2, h3, h4⟩ <;> simp only at h1 h2 h3 h4 <;> subst h1 h3 h4
    · rcases hc with rfl | ⟨_, hl, hc, ht⟩
      · exact .sliceG h2
      · exact .sliceO h2 hl hc ht
    · rcases hc with rfl | ⟨hn, _⟩
      · exact .sliceL h2
      · cases hn
  · simp only at h1 h2 h3 h4 h5
    subst h1 h2 h3
    exact .sliceE h5 h4
theorem vr_int {m : Mp} {k : IntKind} {n : Int} {v' : Value} (h : VR m (.int k n) v') : v' = .int k n := by cases h; rfl
theorem vr_bool {m : Mp} {b : Bool} {v' : Value} (h : VR m (.bool b) v') : v' = .bool b := by cases h; rfl
theorem vr_agg {m : Mp} {cs : Array Value} {v' : Value} (h : VR m (.agg cs) v') : ∃ cs' : Array Value, v' = .agg cs' ∧ VRs m cs.toList cs'.toList := by
  cases h with
  | agg hl hh => exact ⟨_, rfl, hl, hh⟩
theorem vr_tuple {m : Mp} {cs : Array Value} {v' : Value} (h : VR m (.tuple cs) v') : ∃ cs' : Array Value, v' = .tuple cs' ∧ VRs m cs.toList cs'.toList := by
  cases h with
  | tuple hl hh => exact ⟨_, rfl, hl, hh⟩
theorem VRs.agg' {m : Mp} {a a' : Array Value} (h : VRs m a.toList a'.toList) : VR m (.agg a) (.agg a') := by
  obtain ⟨l⟩ := a; obtain ⟨l'⟩ := a'; exact h.agg
theorem vr_cells {m : Mp} {v v' : Value} (h : VR m v v') : VRs m v.cells.toList v'.cells.toList := by
  cases h <;> first | (rename_i hl hh; exact ⟨hl, hh⟩) | exact VRs.cons (by first | exact .mapG (by assumption) | exact .bool _ | exact .int _ _ | exact .float _ _ | exact .string _ | exact .ptrN | (exact .ptrG ‹_›) | (exact .ptrL ‹_›) | exact .sliceN _ _ | exact .sliceG ‹_› | exact .sliceO ‹_› ‹_› ‹_› ‹_› | exact .sliceE ‹_› ‹_› | exact .sliceL ‹_› | exact .mapN | exact .nilFunc | exact .nilIface | exact .func ‹_› ‹_› ‹_› ‹_› | exact .iface ‹_› | exact .tuple ‹_› ‹_›) (VRs.nil m)
theorem vr_oneCell {m : Mp} {v v' : Value} (h : VR m v v') : v'.oneCell' = v.oneCell' := by cases h <;> rfl

/-- The operands of an operation, one by one. -/
def OpR (m : Mp) (ρ ρ' : Operand → Value) (o : Oper) : Prop := ∀ x ∈ o.op.operands, VR m (ρ x) (ρ' x)

def plainV (v : Value) : Bool := plainB 4 v
def noLoc (v : Value) : Bool := noLocB 6 v

def evPlain (P : Program) (o : Oper) (ρ : Operand → Value) : Option Value :=
  bif o.op.operands.toList.all (fun x => plainV (ρ x)) then
    match runPure P (execOp ρ o) with
    | some (.value v) => bif plainV v then some v else none
    | _ => none
  else none

def isAggT (P : Program) (t : TypeId) : Option Bool :=
  match P.underlying t with
  | some (.struct _) => some true
  | some (.array _ _) => some true
  | some _ => some false
  | none => none

def evPart (P : Program) (t : TypeId) (cs : List Value) (off : Nat) : Option Value :=
  match isAggT P t with
  | some true => match P.info? t with
    | some i => some (.agg ⟨(cs.drop off).take i.size⟩)
    | none => none
  | some false => cs[off]?
  | none => none

def bnd (x : Value) (y : Nat) : Option Nat :=
  match x with
  | .int _ i => bif decide (0 ≤ i) && decide (i ≤ (y : Int)) then some i.toNat else none
  | _ => none

def sbounds (len cap : Nat) (lo hi mx : Option Value) : Option (Nat × Nat × Nat) :=
  match (match mx with | some v => bnd v cap | none => some cap) with
  | none => none
  | some m =>
    match (match hi, mx with | some v, _ => bnd v m | none, none => some len | none, some _ => none) with
    | none => none
    | some h =>
      match (match lo with | some v => bnd v h | none => some 0) with
      | none => none
      | some l => bif decide (h ≤ m) then some (l, h, m) else none

def evIndexAddr (P : Program) (t : TypeId) (x i : Value) : Option Value :=
  match P.underlying t, x, i with
  | some (.array len elem), .pointer (some a), .int _ n =>
    match P.info? elem with
    | some ti => bif decide (0 ≤ n) && decide (n < (len : Int)) then some (.pointer (some (addA a (n.toNat * ti.size)))) else none
    | none => none
  | some (.slice elem), .slice (some a) len _, .int _ n =>
    match P.info? elem with
    | some ti => bif decide (0 ≤ n) && decide (n < (len : Int)) then some (.pointer (some (addA a (n.toNat * ti.size)))) else none
    | none => none
  | _, _, _ => none

/-- The elements of a block that may be longer than it seems have the size that the slice's type says. -/
def sizeFits (H : Hp) (a : Addr) (size : Nat) : Bool :=
  match a.spot with
  | none => match H[a.block]? with
    | some b => !b.loose || b.esz == size
    | none => false
  | some _ => true

def evSlice (P : Program) (H : Hp) (t : TypeId) (x : Value) (lo hi mx : Option Value) : Option Value :=
  match P.underlying t, x with
  | some (.slice elem), .slice (some a) len cap =>
    match P.info? elem, sbounds len cap lo hi mx with
    | some ti, some (l, h, m) => bif sizeFits H a ti.size then some (.slice (some (bif m == l then a else addA a (l * ti.size))) (h - l) (m - l)) else none
    | _, _ => none
  | some (.array n elem), .pointer (some a) =>
    match P.info? elem, sbounds n n lo hi mx with
    | some ti, some (l, h, m) => some (.slice (some (bif m == l then a else addA a (l * ti.size))) (h - l) (m - l))
    | _, _ => none
  | _, _ => none

def evBuild (P : Program) (t : TypeId) (parts : List (Nat × Value)) : Option Value :=
  match P.info? t with
  | none => none
  | some ti =>
    match ti.zero with
    | none => none
    | some z =>
      bif !plainV z then none else
      match P.underlying t with
      | some (.struct fields) =>
        bif fields.toList.all (fun f => (P.info? f.type).isSome) then
          match Instr.fill (fun i => (fields[i]?).map fun f => (f.offset, P.cellsOf f.type)) z.cells parts with
          | some cells => some (.agg cells)
          | none => none
        else none
      | some (.array _ elem) =>
        match P.info? elem with
        | some ei =>
          match Instr.fill (fun i => some (i * ei.size, ei.size)) z.cells parts with
          | some cells => some (.agg cells)
          | none => none
        | none => none
      | _ => none

/-- Something that is not nil beside nil. -/
def nilCmp (P : Program) (op : BinOp) (t : TypeId) (x y : Value) : Option Bool :=
  match P.underlying t, x, y with
  | some (.slice _), .slice (some _) _ _, .slice none _ _ => (match op with | .eql => some false | .neq => some true | _ => none)
  | some (.pointer _), .pointer (some _), .pointer none => (match op with | .eql => some false | .neq => some true | _ => none)
  | some (.interface _), .iface _ _, .nilIface => (match op with | .eql => some false | .neq => some true | _ => none)
  | _, _, _ => none

def evInert (P : Program) (H : Hp) (o : Oper) (ρ : Operand → Value) : Option Value :=
  match o.op with
  | .move x => some (ρ x)
  | .assign x => some (ρ x)
  | .pick c a b => match ρ c with
    | .bool t => some (bif t then ρ a else ρ b)
    | _ => none
  | .nilCheck x => match ρ x with
    | .pointer (some a) => some (.pointer (some a))
    | .func (.func f) fs cs => some (.func (.func f) fs cs)
    | _ => none
  | .extract x k => match ρ x with
    | .tuple vs => vs.toList[k]?
    | _ => none
  | .makeFunc (.func f) first captured => some (.func (.func f) ⟨first.toList.map ρ⟩ ⟨captured.toList.map ρ⟩)
  | .makeInterface t x => match P.underlying t with
    | some (.interface _) => none
    | some _ => some (.iface t (ρ x))
    | none => none
  | .typeAssert x _ asserted ck => match P.underlying asserted, ρ x with
    | some (.interface _), _ => evPlain P o ρ
    | some _, .iface t v => bif Nat.beq t asserted then some (bif ck then .tuple ⟨[v, .bool true]⟩ else v) else none
    | _, _ => none
  | .fieldAddr s x f => match P.underlying s, ρ x with
    | some (.struct fs), .pointer (some a) => match fs[f]? with
      | some fd => bif P.cellsOf fd.type == 0 then none else some (.pointer (some (addA a fd.offset)))
      | none => none
    | _, _ => none
  | .indexAddr t x i => evIndexAddr P t (ρ x) (ρ i)
  | .field t x f => match P.underlying t, ρ x with
    | some (.struct fs), .agg cs => match fs[f]? with
      | some fd => evPart P fd.type cs.toList fd.offset
      | none => none
    | _, _ => none
  | .index t x i => match P.underlying t, ρ x, ρ i with
    | some (.array len elem), .agg cs, .int _ n => match P.info? elem with
      | some ei => bif decide (0 ≤ n) && decide (n < (len : Int)) then evPart P elem cs.toList (n.toNat * ei.size) else none
      | none => none
    | _, _, _ => evPlain P o ρ
  | .slice t x lo hi mx => match ρ x with
    | .slice (some _) _ _ => evSlice P H t (ρ x) (lo.map ρ) (hi.map ρ) (mx.map ρ)
    | .pointer (some _) => evSlice P H t (ρ x) (lo.map ρ) (hi.map ρ) (mx.map ρ)
    | _ => evPlain P o ρ
  | .build t ps => evBuild P t (ps.toList.map fun (i, x) => (i, ρ x))
  | .call { callee := .builtin .len, args := ⟨[x]⟩, argTypes := ⟨[t]⟩ } => match P.underlying t, ρ x with
    | some (.slice _), .slice _ n _ => some (.int .i64 n)
    | _, _ => evPlain P o ρ
  | .select _ _ => none
  | .binOp op t x y _ => match nilCmp P op t (ρ x) (ρ y) with
    | some b => some (.bool b)
    | none => evPlain P o ρ
  | _ => evPlain P o ρ

section
variable {P : Program} {m : Mp} {o : Oper} {ρ ρ' : Operand → Value} {v : Value}

theorem evPlain_sound (hρ : OpR m ρ ρ' o) (hs : ∀ cs b, o.op ≠ .select cs b) (h : evPlain P o ρ = some v) (w : World) : (execOp ρ' o).run P w = .ok (.value v) w ∧ VR m v v := by
  unfold evPlain at h
  cases hall : o.op.operands.toList.all (fun x => plainV (ρ x)) with
  | false => rw [hall] at h; cases h
  | true =>
    rw [hall] at h
    simp only [cond_true] at h
    have heq : execOp ρ' o = execOp ρ o := execOp_congr o hs fun x hx => by
      simp only [List.all_eq_true] at hall
      exact (plain_eq 4 _ _ (hall x (by simpa using hx)) (hρ x hx)).symm
    rw [heq]
    split at h
    · rename_i v0 hv0
      cases hp : plainV v0 with
      | false => rw [hp] at h; cases h
      | true =>
        rw [hp] at h
        simp only [cond_true, Option.some.injEq] at h
        subst h
        exact ⟨runPure_run _ _ w hv0, plain_vr m 4 _ hp⟩
    · cases h

end
end Go.Am
end

