/-
  Texts put together: FmG.
-/
import Derived.Test.YtgkihlkhklmgcaaGreatZTrajectorySteps9
set_option linter.unusedVariables false
namespace Go.Am
def eqL {α : Type} (f : α → α → Bool) : List α → List α → Bool
  | [], [] => true
  | x :: xs, y :: ys => bif f x y then eqL f xs ys else false
  | _, _ => false
theorem eqL_eq {α : Type} {f : α → α → Bool} (hf : ∀ x y, f x y = true → x = y) : ∀ (l r : List α), eqL f l r = true → l = r
  | [], [], _ => rfl
  | x :: xs, y :: ys, h => by
    unfold eqL at h
    cases hx : f x y with
    | false => rw [hx] at h; cases h
    | true => rw [hx] at h; rw [hf x y hx, eqL_eq hf xs ys h]
  | [], _ :: _, h => by cases h
  | _ :: _, [], h => by cases h
def eqO : Option Nat → Option Nat → Bool
  | none, none => true
  | some a, some b => Nat.beq a b
  | _, _ => false
theorem eqO_eq : ∀ (a b : Option Nat), eqO a b = true → a = b
  | none, none, _ => rfl
  | some a, some b, h => by rw [Nat.eq_of_beq_eq_true h]
  | none, some _, h => by cases h
  | some _, none, h => by cases h
def eqA : Option Addr → Option Addr → Bool
  | none, none => true
  | some ⟨b, o, s⟩, some ⟨b', o', s'⟩ => Nat.beq b b' && Nat.beq o o' && eqO s s'
  | _, _ => false
theorem eqA_eq : ∀ (a b : Option Addr), eqA a b = true → a = b
  | none, none, _ => rfl
  | some ⟨b, o, s⟩, some ⟨b', o', s'⟩, h => by
    simp only [eqA, Bool.and_eq_true] at h
    rw [Nat.eq_of_beq_eq_true h.1.1, Nat.eq_of_beq_eq_true h.1.2, eqO_eq _ _ h.2]
  | none, some _, h => by cases h
  | some _, none, h => by cases h
theorem eqI_of : ∀ (a b : Int), eqI a b = true → a = b
  | .ofNat a, .ofNat b, h => by rw [Nat.eq_of_beq_eq_true h]
  | .negSucc a, .negSucc b, h => by rw [Nat.eq_of_beq_eq_true h]
  | .ofNat _, .negSucc _, h => by cases h
  | .negSucc _, .ofNat _, h => by cases h
theorem kN_of (a b : IntKind) (h : Nat.beq (kN a) (kN b) = true) : a = b := by
  have h := Nat.eq_of_beq_eq_true h
  cases a <;> cases b <;> first | rfl | (exact absurd h (by decide))
def eqB8 (a b : UInt8) : Bool := Nat.beq a.toNat b.toNat
theorem eqB8_eq (a b : UInt8) (h : eqB8 a b = true) : a = b := UInt8.toNat_inj.1 (Nat.eq_of_beq_eq_true h)
def eqW : Nat → Value → Value → Bool
  | 0, _, _ => false
  | d + 1, x, y => match x, y with
    | .int k a, .int k' b => Nat.beq (kN k) (kN k') && eqI a b
    | .bool a, .bool b => bif a then b else !b
    | .string ⟨⟨a⟩⟩, .string ⟨⟨b⟩⟩ => eqL eqB8 a b
    | .pointer a, .pointer b => eqA a b
    | .slice a n c, .slice b m e => eqA a b && Nat.beq n m && Nat.beq c e
    | .agg ⟨xs⟩, .agg ⟨ys⟩ => eqL (eqW d) xs ys
    | .tuple ⟨xs⟩, .tuple ⟨ys⟩ => eqL (eqW d) xs ys
    | .nilIface, .nilIface => true
    | .iface t a, .iface u b => Nat.beq t u && eqW d a b
    | .func (.func f) ⟨xs⟩ ⟨us⟩, .func (.func g) ⟨ys⟩ ⟨vs⟩ => Nat.beq f g && eqL (eqW d) xs ys && eqL (eqW d) us vs
    | _, _ => false
theorem eqW_eq : ∀ (d : Nat) (x y : Value), eqW d x y = true → x = y
  | 0, _, _, h => by cases h
  | d + 1, x, y, h => by
    unfold eqW at h
    split at h
    · simp only [Bool.and_eq_true] at h; rw [kN_of _ _ h.1, eqI_of _ _ h.2]
    · rename_i a b
      cases a <;> cases b <;> first | rfl | cases h
    · rw [eqL_eq eqB8_eq _ _ h]
    · rw [eqA_eq _ _ h]
    · simp only [Bool.and_eq_true] at h; rw [eqA_eq _ _ h.1.1, Nat.eq_of_beq_eq_true h.1.2, Nat.eq_of_beq_eq_true h.2]
    · rw [eqL_eq (eqW_eq d) _ _ h]
    · rw [eqL_eq (eqW_eq d) _ _ h]
    · rfl
    · simp only [Bool.and_eq_true] at h; rw [Nat.eq_of_beq_eq_true h.1, eqW_eq d _ _ h.2]
    · simp only [Bool.and_eq_true] at h
      rw [Nat.eq_of_beq_eq_true h.1.1, eqL_eq (eqW_eq d) _ _ h.1.2, eqL_eq (eqW_eq d) _ _ h.2]
    · cases h
def eqK (a b : Blk) : Bool := match a, b with
  | ⟨cs, t, e, lo, li⟩, ⟨cs', t', e', lo', li'⟩ => eqL (eqW 9) cs cs' && Nat.beq t t' && Nat.beq e e' && (bif lo then lo' else !lo') && (bif li then li' else !li')
theorem eqK_eq (a b : Blk) (h : eqK a b = true) : a = b := by
  obtain ⟨cs, t, e, lo, li⟩ := a
  obtain ⟨cs', t', e', lo', li'⟩ := b
  simp only [eqK, Bool.and_eq_true] at h
  obtain ⟨⟨⟨⟨h1, h2⟩, h3⟩, h4⟩, h5⟩ := h
  rw [eqL_eq (eqW_eq 9) _ _ h1, Nat.eq_of_beq_eq_true h2, Nat.eq_of_beq_eq_true h3]
  have : lo = lo' := by cases lo <;> cases lo' <;> first | rfl | cases h4
  have : li = li' := by cases li <;> cases li' <;> first | rfl | cases h5
  subst_vars; rfl
def isR (r : Option (Value × Hp × List Nat)) (v : Value) (H : Hp) (md : List Nat) : Bool := match r with
  | some (v', H', md') => eqW 9 v' v && eqL eqK H' H && eqL Nat.beq md' md
  | none => false
theorem isR_eq {r : Option (Value × Hp × List Nat)} {v : Value} {H : Hp} {md : List Nat} (h : isR r v H md = true) : r = some (v, H, md) := by
  unfold isR at h
  split at h
  · simp only [Bool.and_eq_true] at h
    rw [eqW_eq 9 _ _ h.1.1, eqL_eq eqK_eq _ _ h.1.2, eqL_eq (fun _ _ h => Nat.eq_of_beq_eq_true h) _ _ h.2]
  · cases h
/-- An oracle, with one answer written down. -/
noncomputable def hitO (O : Orc) (f : FuncId) (A : List Value) (H0 : Hp) (R : Value × Hp × List Nat) : Orc := fun g args H => bif Nat.beq g f && eqL (eqW 9) args A && eqL eqK H H0 then some R else O g args H
theorem hitO_eq {O : Orc} {f : FuncId} {A : List Value} {H0 : Hp} {R : Value × Hp × List Nat} (h : O f A H0 = some R) : hitO O f A H0 R = O := by
  funext g args H
  unfold hitO
  cases hb : (Nat.beq g f && eqL (eqW 9) args A && eqL eqK H H0) with
  | false => rfl
  | true =>
    simp only [Bool.and_eq_true] at hb
    have e1 := Nat.eq_of_beq_eq_true hb.1.1
    have e2 := eqL_eq (eqW_eq 9) _ _ hb.1.2
    have e3 := eqL_eq eqK_eq _ _ hb.2
    subst e1 e2 e3
    exact h.symm
end Go.Am
