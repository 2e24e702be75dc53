/-
  An abstract machine for the model's code: values and heaps up to the numbers of blocks. This text: the notions, the relation of values, the operations that touch no memory.
-/
import Derived.WalkKit
namespace Go.Am

/- Strict evaluation, for the kernel's sake: each of these hands on just what it was given. -/
section
variable {α : Type}
def fNat (n : Nat) (k : Nat → α) : α := match n with
  | 0 => k 0
  | p + 1 => k (p + 1)
def fInt (n : Int) (k : Int → α) : α := match n with
  | .ofNat m => fNat m fun m => k (.ofNat m)
  | .negSucc m => fNat m fun m => k (.negSucc m)
def fBool (b : Bool) (k : Bool → α) : α := match b with
  | true => k true
  | false => k false
def fSpot (s : Option Nat) (k : Option Nat → α) : α := match s with
  | none => k none
  | some n => fNat n fun n => k (some n)
def fAddr (a : Addr) (k : Addr → α) : α := fNat a.block fun b => fNat a.off fun o => fSpot a.spot fun s => k ⟨b, o, s⟩
def fEach (f : Value → (Value → α) → α) : List Value → (List Value → α) → α
  | [], k => k []
  | v :: vs, k => f v fun v => fEach f vs fun l => k (v :: l)
def fVal : Nat → Value → (Value → α) → α
  | 0, v, k => k v
  | d + 1, v, k => match v with
    | .bool b => fBool b fun b => k (.bool b)
    | .int kd n => fInt n fun n => k (.int kd n)
    | .pointer (some a) => fAddr a fun a => k (.pointer (some a))
    | .slice none n c => fNat n fun n => fNat c fun c => k (.slice none n c)
    | .slice (some a) n c => fAddr a fun a => fNat n fun n => fNat c fun c => k (.slice (some a) n c)
    | .agg ⟨l⟩ => fEach (fVal d) l fun l => k (.agg ⟨l⟩)
    | .tuple ⟨l⟩ => fEach (fVal d) l fun l => k (.tuple ⟨l⟩)
    | .func fn ⟨l⟩ ⟨l2⟩ => fEach (fVal d) l fun l => fEach (fVal d) l2 fun l2 => k (.func fn ⟨l⟩ ⟨l2⟩)
    | .iface t v => fVal d v fun v => k (.iface t v)
    | v => k v
def fVals (l : List Value) (k : List Value → α) : α := fEach (fVal 4) l k
/-- A list's spine. -/
def fSpine {β : Type} : List β → (List β → α) → α
  | [], k => k []
  | x :: l, k => fSpine l fun l => k (x :: l)
def fSet {β : Type} : List β → Nat → β → (List β → α) → α
  | [], _, _, k => k []
  | x :: l, n, v, k => match n with
    | 0 => k (v :: l)
    | n + 1 => fSet l n v fun l => k (x :: l)

theorem fNat_eq (n : Nat) (k : Nat → α) : fNat n k = k n := by cases n <;> rfl
theorem fInt_eq (n : Int) (k : Int → α) : fInt n k = k n := by cases n <;> simp [fInt, fNat_eq]
theorem fBool_eq (n : Bool) (k : Bool → α) : fBool n k = k n := by cases n <;> rfl
theorem fSpot_eq (n : Option Nat) (k : Option Nat → α) : fSpot n k = k n := by cases n <;> simp [fSpot, fNat_eq]
theorem fAddr_eq (a : Addr) (k : Addr → α) : fAddr a k = k a := by simp [fAddr, fNat_eq, fSpot_eq]
theorem fEach_eq {f : Value → (Value → α) → α} (hf : ∀ v k, f v k = k v) : ∀ (l : List Value) (k : List Value → α), fEach f l k = k l
  | [], k => rfl
  | v :: l, k => by simp [fEach, hf, fEach_eq hf l]
theorem fVal_eq : ∀ (d : Nat) (v : Value) (k : Value → α), fVal d v k = k v
  | 0, _, _ => rfl
  | d + 1, v, k => by
    unfold fVal
    split <;> simp [fBool_eq, fInt_eq, fNat_eq, fAddr_eq, fEach_eq (fVal_eq d), fVal_eq d]
theorem fVals_eq (l : List Value) (k : List Value → α) : fVals l k = k l := fEach_eq (fVal_eq 4) l k
theorem fSpine_eq {β : Type} : ∀ (l : List β) (k : List β → α), fSpine l k = k l
  | [], _ => rfl
  | x :: l, k => by simp [fSpine, fSpine_eq l]
theorem fSet_eq {β : Type} : ∀ (l : List β) (n : Nat) (v : β) (k : List β → α), fSet l n v k = k (l.set n v)
  | [], _, _, _ => rfl
  | x :: l, n, v, k => by
    cases n with
    | zero => rfl
    | succ n => simp [fSet, fSet_eq l n v]
end

/-- A block of the abstract heap. loose: the concrete block may be longer; live: not yet taken over by an append; esz: cells an element. -/
structure Blk where
  cells : List Value
  elem : TypeId
  esz : Nat
  loose : Bool
  live : Bool

abbrev Hp := List Blk

/-- Where the abstract blocks lie: global ones, local ones; of the loose ones their true length. -/
structure Mp where
  gb : Nat → Option Nat
  lb : Nat → Option Nat
  loose : Nat → Bool
  esz : Nat → Nat
  tot : Nat → Nat

inductive VR (m : Mp) : Value → Value → Prop
  | bool (b : Bool) : VR m (.bool b) (.bool b)
  | int (k : IntKind) (n : Int) : VR m (.int k n) (.int k n)
  | float (k : FloatKind) (n : Nat) : VR m (.float k n) (.float k n)
  | string (s : ByteArray) : VR m (.string s) (.string s)
  | ptrN : VR m (.pointer none) (.pointer none)
  | ptrG {i g off : Nat} (h : m.gb i = some g) : VR m (.pointer (some ⟨i, off, none⟩)) (.pointer (some ⟨g, off, none⟩))
  | ptrL {i g off : Nat} (h : m.lb i = some g) : VR m (.pointer (some ⟨i, off, some 0⟩)) (.pointer (some ⟨g, off, none⟩))
  | sliceN (n c : Nat) : VR m (.slice none n c) (.slice none n c)
  | sliceG {i g off n c : Nat} (h : m.gb i = some g) : VR m (.slice (some ⟨i, off, none⟩) n c) (.slice (some ⟨g, off, none⟩) n c)
  | sliceO {i g off n c c' : Nat} (h : m.gb i = some g) (hl : m.loose i = true) (hc : c ≤ c') (ht : off + c' * m.esz i ≤ m.tot i) :
      VR m (.slice (some ⟨i, off, none⟩) n c) (.slice (some ⟨g, off, none⟩) n c')
  | sliceE {i g off c' : Nat} {a : Addr} (h : m.gb i = some g) (hl : m.loose i = true) : VR m (.slice (some ⟨i, off, none⟩) 0 0) (.slice (some a) 0 c')
  | sliceL {i g off n c : Nat} (h : m.lb i = some g) : VR m (.slice (some ⟨i, off, some 0⟩) n c) (.slice (some ⟨g, off, none⟩) n c)
  | mapN : VR m (.map none) (.map none)
  | nilFunc : VR m .nilFunc .nilFunc
  | nilIface : VR m .nilIface .nilIface
  | func {f : FuncId} {fs fs' cs cs' : List Value} (hl : fs.length = fs'.length) (h : ∀ (i : Nat) (v v' : Value), fs[i]? = some v → fs'[i]? = some v' → VR m v v')
      (hl2 : cs.length = cs'.length) (h2 : ∀ (i : Nat) (v v' : Value), cs[i]? = some v → cs'[i]? = some v' → VR m v v') :
      VR m (.func (.func f) ⟨fs⟩ ⟨cs⟩) (.func (.func f) ⟨fs'⟩ ⟨cs'⟩)
  | iface {t : TypeId} {v v' : Value} (h : VR m v v') : VR m (.iface t v) (.iface t v')
  | agg {cs cs' : List Value} (hl : cs.length = cs'.length) (h : ∀ (i : Nat) (v v' : Value), cs[i]? = some v → cs'[i]? = some v' → VR m v v') : VR m (.agg ⟨cs⟩) (.agg ⟨cs'⟩)
  | tuple {cs cs' : List Value} (hl : cs.length = cs'.length) (h : ∀ (i : Nat) (v v' : Value), cs[i]? = some v → cs'[i]? = some v' → VR m v v') : VR m (.tuple ⟨cs⟩) (.tuple ⟨cs'⟩)

/-- Two lists, place by place. -/
def VRs (m : Mp) (l l' : List Value) : Prop := l.length = l'.length ∧ ∀ (i : Nat) (v v' : Value), l[i]? = some v → l'[i]? = some v' → VR m v v'

/-- More is mapped. -/
structure Le (m m' : Mp) : Prop where
  gb : ∀ i g, m.gb i = some g → m'.gb i = some g
  lb : ∀ i g, m.lb i = some g → m'.lb i = some g
  loose : ∀ i g, m.gb i = some g → m'.loose i = m.loose i
  esz : ∀ i g, m.gb i = some g → m'.esz i = m.esz i
  tot : ∀ i g, m.gb i = some g → m'.tot i = m.tot i

theorem Le.refl (m : Mp) : Le m m := ⟨fun _ _ h => h, fun _ _ h => h, fun _ _ _ => rfl, fun _ _ _ => rfl, fun _ _ _ => rfl⟩
theorem Le.trans {a b c : Mp} (h : Le a b) (k : Le b c) : Le a c :=
  ⟨fun i g e => k.gb i g (h.gb i g e), fun i g e => k.lb i g (h.lb i g e), fun i g e => (k.loose i g (h.gb i g e)).trans (h.loose i g e),
   fun i g e => (k.esz i g (h.gb i g e)).trans (h.esz i g e), fun i g e => (k.tot i g (h.gb i g e)).trans (h.tot i g e)⟩

theorem VR.mono {m m' : Mp} (hm : Le m m') {v v' : Value} (h : VR m v v') : VR m' v v' := by
  induction h with
  | bool b => exact .bool b
  | int k n => exact .int k n
  | float k n => exact .float k n
  | string s => exact .string s
  | ptrN => exact .ptrN
  | ptrG h => exact .ptrG (hm.gb _ _ h)
  | ptrL h => exact .ptrL (hm.lb _ _ h)
  | sliceN n c => exact .sliceN n c
  | sliceG h => exact .sliceG (hm.gb _ _ h)
  | sliceO h hl hc ht => exact .sliceO (hm.gb _ _ h) ((hm.loose _ _ h).trans hl) hc (by rw [hm.esz _ _ h, hm.tot _ _ h]; exact ht)
  | sliceE h hl => exact .sliceE (hm.gb _ _ h) ((hm.loose _ _ h).trans hl)
  | sliceL h => exact .sliceL (hm.lb _ _ h)
  | mapN => exact .mapN
  | nilFunc => exact .nilFunc
  | nilIface => exact .nilIface
  | func hl _ hl2 _ ih ih2 => exact .func hl ih hl2 ih2
  | iface _ ih => exact .iface ih
  | agg hl _ ih => exact .agg hl ih
  | tuple hl _ ih => exact .tuple hl ih

theorem VRs.mono {m m' : Mp} (hm : Le m m') {l l' : List Value} (h : VRs m l l') : VRs m' l l' := ⟨h.1, fun i v v' a b => (h.2 i v v' a b).mono hm⟩
theorem VRs.nil (m : Mp) : VRs m [] [] := ⟨rfl, fun i v v' h => by simp at h⟩
theorem VRs.cons {m : Mp} {v v' : Value} {l l' : List Value} (h : VR m v v') (hs : VRs m l l') : VRs m (v :: l) (v' :: l') := by
  refine ⟨by simp [hs.1], fun i x x' a b => ?_⟩
  cases i with
  | zero => simp at a b; subst a; subst b; exact h
  | succ i => exact hs.2 i x x' (by simpa using a) (by simpa using b)
theorem VRs.cons_inv {m : Mp} {v : Value} {l l'' : List Value} (h : VRs m (v :: l) l'') : ∃ v' l', l'' = v' :: l' ∧ VR m v v' ∧ VRs m l l' := by
  cases l'' with
  | nil => have := h.1; simp at this
  | cons v' l' =>
    refine ⟨v', l', rfl, h.2 0 v v' rfl rfl, by have := h.1; simpa using this, fun i x x' a b => h.2 (i + 1) x x' (by simpa using a) (by simpa using b)⟩
theorem VRs.at {m : Mp} {l l' : List Value} (h : VRs m l l') {i : Nat} {v : Value} (hv : l[i]? = some v) : ∃ v', l'[i]? = some v' ∧ VR m v v' := by
  have hi : i < l.length := by
    rcases Nat.lt_or_ge i l.length with hlt | hge
    · exact hlt
    · rw [List.getElem?_eq_none hge] at hv; cases hv
  have hi' : i < l'.length := h.1 ▸ hi
  exact ⟨l'[i], List.getElem?_eq_getElem hi', h.2 i v _ hv (List.getElem?_eq_getElem hi')⟩
theorem VRs.append {m : Mp} {a a' b b' : List Value} (h : VRs m a a') (k : VRs m b b') : VRs m (a ++ b) (a' ++ b') := by
  refine ⟨by simp [h.1, k.1], fun i v v' e e' => ?_⟩
  by_cases hi : i < a.length
  · rw [List.getElem?_append_left hi] at e
    rw [List.getElem?_append_left (h.1 ▸ hi)] at e'
    exact h.2 i v v' e e'
  · rw [List.getElem?_append_right (by omega)] at e
    rw [List.getElem?_append_right (by have := h.1; omega), ← h.1] at e'
    exact k.2 _ v v' e e'
theorem VRs.take {m : Mp} {l l' : List Value} (h : VRs m l l') (n : Nat) : VRs m (l.take n) (l'.take n) := by
  refine ⟨by simp [h.1], fun i v v' e e' => ?_⟩
  simp only [List.getElem?_take] at e e'
  split at e
  · simp_all; exact h.2 i v v' e e'
  · cases e
theorem VRs.drop {m : Mp} {l l' : List Value} (h : VRs m l l') (n : Nat) : VRs m (l.drop n) (l'.drop n) :=
  ⟨by simp [h.1], fun i v v' e e' => h.2 (n + i) v v' (by simpa using e) (by simpa using e')⟩
theorem VRs.set {m : Mp} {l l' : List Value} (h : VRs m l l') (n : Nat) {x x' : Value} (hx : VR m x x') : VRs m (l.set n x) (l'.set n x') := by
  refine ⟨by simp [h.1], fun i v v' e e' => ?_⟩
  simp only [List.getElem?_set] at e e'
  rw [← h.1] at e'
  by_cases hi : n = i
  · subst hi
    by_cases hl : n < l.length
    · simp [hl] at e e'; subst e; subst e'; exact hx
    · simp [hl] at e
  · simp [hi] at e e'; exact h.2 i v v' e e'
theorem VRs.agg {m : Mp} {l l' : List Value} (h : VRs m l l') : VR m (.agg ⟨l⟩) (.agg ⟨l'⟩) := .agg h.1 h.2
theorem VRs.tuple {m : Mp} {l l' : List Value} (h : VRs m l l') : VR m (.tuple ⟨l⟩) (.tuple ⟨l'⟩) := .tuple h.1 h.2
theorem VR.undef (m : Mp) : VR m undef undef := .tuple rfl (fun i v v' h => by simp at h)

/-- No address in it. -/
def plainB : Nat → Value → Bool
  | 0, _ => false
  | d + 1, v => match v with
    | .bool _ | .int _ _ | .float _ _ | .string _ | .pointer none | .slice none _ _ | .map none | .nilFunc | .nilIface => true
    | .agg cs => cs.toList.all (plainB d)
    | .tuple cs => cs.toList.all (plainB d)
    | .iface _ x => plainB d x
    | .func (.func _) fs cs => fs.toList.all (plainB d) && cs.toList.all (plainB d)
    | _ => false

/-- No local address in it. -/
def noLocB : Nat → Value → Bool
  | 0, _ => false
  | d + 1, v => match v with
    | .pointer (some a) => a.spot.isNone
    | .slice (some a) _ _ => a.spot.isNone
    | .agg cs => cs.toList.all (noLocB d)
    | .tuple cs => cs.toList.all (noLocB d)
    | .iface _ x => noLocB d x
    | .func _ fs cs => fs.toList.all (noLocB d) && cs.toList.all (noLocB d)
    | _ => true

theorem list_eq_of {l l' : List Value} (hl : l.length = l'.length) (h : ∀ (i : Nat) (v v' : Value), l[i]? = some v → l'[i]? = some v' → v = v') : l = l' := by
  apply List.ext_getElem? 
  intro i
  by_cases hi : i < l.length
  · have hi' : i < l'.length := hl ▸ hi
    rw [List.getElem?_eq_getElem hi, List.getElem?_eq_getElem hi', h i _ _ (List.getElem?_eq_getElem hi) (List.getElem?_eq_getElem hi')]
  · rw [List.getElem?_eq_none (by omega), List.getElem?_eq_none (by omega)]

theorem plain_eq {m : Mp} : ∀ (d : Nat) (v v' : Value), plainB d v = true → VR m v v' → v = v'
  | 0, _, _, h, _ => by simp [plainB] at h
  | d + 1, v, v', h, hv => by
    cases hv with
    | agg hl hh =>
      simp only [plainB, List.all_eq_true] at h
      rw [list_eq_of hl fun i a b ha hb => plain_eq d a b (h a (List.mem_of_getElem? ha)) (hh i a b ha hb)]
    | tuple hl hh =>
      simp only [plainB, List.all_eq_true] at h
      rw [list_eq_of hl fun i a b ha hb => plain_eq d a b (h a (List.mem_of_getElem? ha)) (hh i a b ha hb)]
    | iface hh => simp only [plainB] at h; rw [plain_eq d _ _ h hh]
    | func hl hh hl2 hh2 =>
      simp only [plainB, Bool.and_eq_true, List.all_eq_true] at h
      rw [list_eq_of hl fun i a b ha hb => plain_eq d a b (h.1 a (List.mem_of_getElem? ha)) (hh i a b ha hb), list_eq_of hl2 fun i a b ha hb => plain_eq d a b (h.2 a (List.mem_of_getElem? ha)) (hh2 i a b ha hb)]
    | _ => first | rfl | (simp [plainB] at h)

theorem plain_vr (m : Mp) : ∀ (d : Nat) (v : Value), plainB d v = true → VR m v v
  | 0, _, h => by simp [plainB] at h
  | d + 1, v, h => by
    unfold plainB at h
    split at h
    · exact .bool _
    · exact .int _ _
    · exact .float _ _
    · exact .string _
    · exact .ptrN
    · exact .sliceN _ _
    · exact .mapN
    · exact .nilFunc
    · exact .nilIface
    · rename_i cs
      obtain ⟨l⟩ := cs
      simp only [List.all_eq_true] at h
      exact .agg rfl fun i a b ha hb => by rw [ha] at hb; injection hb with hb; subst hb; exact plain_vr m d a (h a (List.mem_of_getElem? ha))
    · rename_i cs
      obtain ⟨l⟩ := cs
      simp only [List.all_eq_true] at h
      exact .tuple rfl fun i a b ha hb => by rw [ha] at hb; injection hb with hb; subst hb; exact plain_vr m d a (h a (List.mem_of_getElem? ha))
    · exact .iface (plain_vr m d _ h)
    · rename_i f fs cs
      obtain ⟨l⟩ := fs
      obtain ⟨l2⟩ := cs
      simp only [Bool.and_eq_true, List.all_eq_true] at h
      exact .func rfl (fun i a b ha hb => by rw [ha] at hb; injection hb with hb; subst hb; exact plain_vr m d a (h.1 a (List.mem_of_getElem? ha))) rfl
        (fun i a b ha hb => by rw [ha] at hb; injection hb with hb; subst hb; exact plain_vr m d a (h.2 a (List.mem_of_getElem? ha)))
    · cases h

/-- The local map is nothing to a value without local addresses. -/
theorem noLoc_vr {m m' : Mp} (hg : m'.gb = m.gb) (h1 : m'.loose = m.loose) (h2 : m'.esz = m.esz) (h3 : m'.tot = m.tot) :
    ∀ (d : Nat) (v v' : Value), noLocB d v = true → VR m v v' → VR m' v v'
  | 0, _, _, h, _ => by simp [noLocB] at h
  | d + 1, v, v', h, hv => by
    cases hv with
    | bool b => exact .bool b
    | int k n => exact .int k n
    | float k n => exact .float k n
    | string s => exact .string s
    | ptrN => exact .ptrN
    | ptrG e => exact .ptrG (hg ▸ e)
    | ptrL _ => simp [noLocB] at h
    | sliceN n c => exact .sliceN n c
    | sliceG e => exact .sliceG (hg ▸ e)
    | sliceO e hl hc ht => exact .sliceO (hg ▸ e) (h1 ▸ hl) hc (by rw [h2, h3]; exact ht)
    | sliceE e hl => exact .sliceE (hg ▸ e) (h1 ▸ hl)
    | sliceL _ => simp [noLocB] at h
    | mapN => exact .mapN
    | nilFunc => exact .nilFunc
    | nilIface => exact .nilIface
    | func hl hh hl2 hh2 =>
      simp only [noLocB, Bool.and_eq_true, List.all_eq_true] at h
      exact .func hl (fun i a b ha hb => noLoc_vr hg h1 h2 h3 d a b (h.1 a (List.mem_of_getElem? ha)) (hh i a b ha hb)) hl2
        (fun i a b ha hb => noLoc_vr hg h1 h2 h3 d a b (h.2 a (List.mem_of_getElem? ha)) (hh2 i a b ha hb))
    | iface hh => simp only [noLocB] at h; exact .iface (noLoc_vr hg h1 h2 h3 d _ _ h hh)
    | agg hl hh =>
      simp only [noLocB, List.all_eq_true] at h
      exact .agg hl (fun i a b ha hb => noLoc_vr hg h1 h2 h3 d a b (h a (List.mem_of_getElem? ha)) (hh i a b ha hb))
    | tuple hl hh =>
      simp only [noLocB, List.all_eq_true] at h
      exact .tuple hl (fun i a b ha hb => noLoc_vr hg h1 h2 h3 d a b (h a (List.mem_of_getElem? ha)) (hh i a b ha hb))

/-- A run that asks nothing of the world. -/
def runPure {α : Type} (P : Program) : Sem α → Option α
  | .pure a => some a
  | .program k => runPure P (k P)
  | .mark _ k => runPure P k
  | _ => none

theorem runPure_run {α : Type} {P : Program} : ∀ (s : Sem α) (a : α) (w : World), runPure P s = some a → s.run P w = .ok a w
  | .pure x, a, w, h => by simp only [runPure, Option.some.injEq] at h; subst h; rfl
  | .program k, a, w, h => by simp only [runPure] at h; exact runPure_run (k P) a w h
  | .mark _ k, a, w, h => by simp only [runPure] at h; exact runPure_run k a w h
  | .load .., _, _, h | .store .., _, _, h | .new .., _, _, h | .shape .., _, _, h | .freeze .., _, _, h | .frozen .., _, _, h | .getObj .., _, _, h | .setObj .., _, _, h
  | .choose .., _, _, h | .sys .., _, _, h | .halt .., _, _, h => by simp [runPure] at h

end Go.Am
