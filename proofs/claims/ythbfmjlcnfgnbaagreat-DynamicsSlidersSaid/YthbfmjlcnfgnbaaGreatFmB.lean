/-
  The fast machine: frames, lists, whole numbers.
-/
import Derived.Test.YthbfmjlcnfgnbaaGreatFmA
import Derived.IntWalk
namespace Go.Am

def toN : Pa → Nat
  | .z => 0
  | .a p => 2 * toN p + 1
  | .b p => 2 * toN p + 2
theorem toN_paF : ∀ (f n : Nat), n ≤ f → toN (paF f n) = n
  | 0, n, h => by have : n = 0 := by omega
                  subst this; rfl
  | f + 1, 0, _ => rfl
  | f + 1, n + 1, h => by
    unfold paF
    simp only
    cases hb : Nat.beq (n % 2) 0 with
    | true =>
      have hb' : n % 2 = 0 := Nat.eq_of_beq_eq_true hb
      simp only [cond_true, toN, toN_paF f (n / 2) (by omega)]
      omega
    | false =>
      have hb' : ¬ n % 2 = 0 := fun e => by rw [e] at hb; cases hb
      simp only [cond_false, toN, toN_paF f (n / 2) (by omega)]
      omega
theorem toN_paOf (n : Nat) : toN (paOf n) = n := toN_paF n n (Nat.le_refl _)
theorem toN_inj : ∀ (p q : Pa), toN p = toN q → p = q
  | .z, .z, _ => rfl
  | .z, .a q, h => by simp [toN] at h
  | .z, .b q, h => by simp [toN] at h
  | .a p, .z, h => by simp [toN] at h
  | .a p, .a q, h => by simp only [toN] at h; rw [toN_inj p q (by omega)]
  | .a p, .b q, h => by simp only [toN] at h; omega
  | .b p, .z, h => by simp [toN] at h
  | .b p, .a q, h => by simp only [toN] at h; omega
  | .b p, .b q, h => by simp only [toN] at h; rw [toN_inj p q (by omega)]

noncomputable def getT (p : Pa) (tr : Tr) : Value := getK p tr id
noncomputable def setT (p : Pa) (x : Value) (tr : Tr) : Tr := setK p x tr id

theorem getK_eq {β : Type} : ∀ (p : Pa) (tr : Tr) (k : Value → β), getK p tr k = k (getT p tr)
  | .z, .e, _ => rfl
  | .z, .n _ _ _, _ => rfl
  | .a _, .e, _ => rfl
  | .a p, .n _ l _, k => getK_eq p l k
  | .b _, .e, _ => rfl
  | .b p, .n _ _ r, k => getK_eq p r k
theorem setK_eq (x : Value) : ∀ (p : Pa) {β : Type} (tr : Tr) (k : Tr → β), setK p x tr k = k (setT p x tr)
  | .z, _, .e, _ => rfl
  | .z, _, .n _ _ _, _ => rfl
  | .a p, _, .e, k => by
    have h1 := setK_eq x p .e (fun l => k (.n undef l .e))
    have h2 := setK_eq x p .e (fun l => (.n undef l .e : Tr))
    show setK p x .e (fun l => k (.n undef l .e)) = k (setK p x .e (fun l => (.n undef l .e : Tr)))
    rw [h1, h2]
  | .a p, _, .n v l r, k => by
    have h1 := setK_eq x p l (fun l => k (.n v l r))
    have h2 := setK_eq x p l (fun l => (.n v l r : Tr))
    show setK p x l (fun l => k (.n v l r)) = k (setK p x l (fun l => (.n v l r : Tr)))
    rw [h1, h2]
  | .b p, _, .e, k => by
    have h1 := setK_eq x p .e (fun r => k (.n undef .e r))
    have h2 := setK_eq x p .e (fun r => (.n undef .e r : Tr))
    show setK p x .e (fun r => k (.n undef .e r)) = k (setK p x .e (fun r => (.n undef .e r : Tr)))
    rw [h1, h2]
  | .b p, _, .n v l r, k => by
    have h1 := setK_eq x p r (fun r => k (.n v l r))
    have h2 := setK_eq x p r (fun r => (.n v l r : Tr))
    show setK p x r (fun r => k (.n v l r)) = k (setK p x r (fun r => (.n v l r : Tr)))
    rw [h1, h2]

theorem setT_ae (x : Value) (p : Pa) : setT (.a p) x .e = .n undef (setT p x .e) .e := setK_eq x p .e (fun l => (.n undef l .e : Tr))
theorem setT_an (x : Value) (p : Pa) (v : Value) (l r : Tr) : setT (.a p) x (.n v l r) = .n v (setT p x l) r := setK_eq x p l (fun l => (.n v l r : Tr))
theorem setT_be (x : Value) (p : Pa) : setT (.b p) x .e = .n undef .e (setT p x .e) := setK_eq x p .e (fun r => (.n undef .e r : Tr))
theorem setT_bn (x : Value) (p : Pa) (v : Value) (l r : Tr) : setT (.b p) x (.n v l r) = .n v l (setT p x r) := setK_eq x p r (fun r => (.n v l r : Tr))
theorem getT_e : ∀ (p : Pa), getT p .e = undef
  | .z => rfl
  | .a _ => rfl
  | .b _ => rfl
theorem getT_a (p : Pa) (v : Value) (l r : Tr) : getT (.a p) (.n v l r) = getT p l := rfl
theorem getT_b (p : Pa) (v : Value) (l r : Tr) : getT (.b p) (.n v l r) = getT p r := rfl

theorem get_set_self (x : Value) : ∀ (p : Pa) (tr : Tr), getT p (setT p x tr) = x
  | .z, .e => rfl
  | .z, .n _ _ _ => rfl
  | .a p, .e => by rw [setT_ae, getT_a]; exact get_set_self x p .e
  | .a p, .n v l r => by rw [setT_an, getT_a]; exact get_set_self x p l
  | .b p, .e => by rw [setT_be, getT_b]; exact get_set_self x p .e
  | .b p, .n v l r => by rw [setT_bn, getT_b]; exact get_set_self x p r
theorem get_set_ne (x : Value) : ∀ (p q : Pa) (tr : Tr), q ≠ p → getT q (setT p x tr) = getT q tr
  | .z, .z, _, h => absurd rfl h
  | .z, .a q, .e, _ => getT_e q
  | .z, .a q, .n _ _ _, _ => rfl
  | .z, .b q, .e, _ => getT_e q
  | .z, .b q, .n _ _ _, _ => rfl
  | .a p, .z, .e, _ => by rw [setT_ae]; rfl
  | .a p, .z, .n _ _ _, _ => by rw [setT_an]; rfl
  | .a p, .a q, .e, h => by rw [setT_ae, getT_a, get_set_ne x p q .e (fun e => h (by rw [e])), getT_e, getT_e]
  | .a p, .a q, .n v l r, h => by rw [setT_an, getT_a, get_set_ne x p q l (fun e => h (by rw [e])), getT_a]
  | .a p, .b q, .e, _ => by rw [setT_ae, getT_b, getT_e, getT_e]
  | .a p, .b q, .n _ _ _, _ => by rw [setT_an, getT_b, getT_b]
  | .b p, .z, .e, _ => by rw [setT_be]; rfl
  | .b p, .z, .n _ _ _, _ => by rw [setT_bn]; rfl
  | .b p, .b q, .e, h => by rw [setT_be, getT_b, get_set_ne x p q .e (fun e => h (by rw [e])), getT_e, getT_e]
  | .b p, .b q, .n v l r, h => by rw [setT_bn, getT_b, get_set_ne x p q r (fun e => h (by rw [e])), getT_b]
  | .b p, .a q, .e, _ => by rw [setT_be, getT_a, getT_e, getT_e]
  | .b p, .a q, .n _ _ _, _ => by rw [setT_bn, getT_a, getT_a]

/-- The two frames. -/
def FR (tr : Tr) (fr : List Value) : Prop := ∀ p, getT p tr = fr.getD (toN p) undef

section
variable {β : Type} {tr : Tr} {fr : List Value}
theorem FR.tmp (h : FR tr fr) (t : Nat) : getT (paOf t) tr = fr.getD t undef := by rw [h, toN_paOf]
theorem FR.ev (h : FR tr fr) : evT tr = evalO fr := by
  funext x
  cases x with
  | tmp t => exact h.tmp t
  | const v => rfl
  | global g => rfl
  | func f => rfl
theorem FR.op (h : FR tr fr) (x : Operand) (k : Value → β) : opK (compO x) tr k = k (evalO fr x) := by
  cases x with
  | tmp t => show getK (paOf t) tr k = _; rw [getK_eq, h.tmp]; rfl
  | const v => rfl
  | global g => rfl
  | func f => rfl
theorem FR.put (h : FR tr fr) (dst : Option Tmp) (v : Value) (hd : ∀ d, dst = some d → d < fr.length) : ∃ tr', FR tr' (putF fr dst v) ∧ ∀ (k : Tr → β), putK (dst.map paOf) v tr k = k tr' := by
  cases dst with
  | none => exact ⟨tr, h, fun k => rfl⟩
  | some d =>
    have hd' : d < fr.length := hd d rfl
    refine ⟨setT (paOf d) v tr, fun q => ?_, fun k => setK_eq v (paOf d) tr k⟩
    simp only [putF]
    by_cases hq : q = paOf d
    · subst hq
      rw [get_set_self, toN_paOf, List.getD_eq_getElem?_getD, List.getElem?_set_self hd']; rfl
    · rw [get_set_ne v (paOf d) q tr hq, h q, List.getD_eq_getElem?_getD, List.getD_eq_getElem?_getD, List.getElem?_set_ne]
      intro e
      exact hq (toN_inj _ _ (by rw [toN_paOf, ← e]))
theorem nthK_eq {α : Type} {z : β} {k : α → β} : ∀ (l : List α) (n : Nat), nthK l n z k = match l[n]? with | some x => k x | none => z
  | [], n => by simp [nthK]
  | x :: l, 0 => rfl
  | x :: l, n + 1 => by
    show nthK l n z k = _
    rw [nthK_eq l n]
    simp
end

theorem ltI_eq (a b : Int) : ltI a b = decide (a < b) := by
  cases a with
  | ofNat a => cases b with
    | ofNat b =>
      simp only [ltI]
      rw [Bool.eq_iff_iff]
      simp only [Nat.blt_eq, decide_eq_true_eq]
      exact Int.ofNat_lt.symm
    | negSucc b => simp only [ltI]; symm; simp; omega
  | negSucc a => cases b with
    | ofNat b => simp only [ltI]; symm; simp; omega
    | negSucc b =>
      simp only [ltI]
      rw [Bool.eq_iff_iff]
      simp only [Nat.blt_eq, decide_eq_true_eq]
      omega
theorem eqI_eq (a b : Int) : eqI a b = (a == b) := by
  cases a with
  | ofNat a => cases b with
    | ofNat b => rw [Bool.eq_iff_iff]; simp [eqI]; omega
    | negSucc b => simp [eqI]
  | negSucc a => cases b with
    | ofNat b => simp [eqI]
    | negSucc b => rw [Bool.eq_iff_iff]; simp [eqI]
theorem wrapI_eq (k : IntKind) (n : Int) : wrapI k n = k.wrap n := by
  cases k <;> try rfl
  · cases n with
    | ofNat a =>
      simp only [wrapI]
      cases h : Nat.ble a 9223372036854775807 with
      | false => exact cond_false _ _
      | true =>
        have h' : a ≤ 9223372036854775807 := Nat.le_of_ble_eq_true h
        exact (IntWalk.i64_in (Int.ofNat a) ⟨by simp only [Int.ofNat_eq_natCast]; omega, by simp only [Int.ofNat_eq_natCast]; omega⟩).symm
    | negSucc a =>
      simp only [wrapI]
      cases h : Nat.ble a 9223372036854775807 with
      | false => exact cond_false _ _
      | true =>
        have h' : a ≤ 9223372036854775807 := Nat.le_of_ble_eq_true h
        exact (IntWalk.i64_in (Int.negSucc a) ⟨by omega, by omega⟩).symm
  · cases n with
    | ofNat a =>
      simp only [wrapI]
      cases h : Nat.ble a 18446744073709551615 with
      | false => show Int.ofNat (a % 18446744073709551616) = _; rw [IntKind.wrap_u64]; simp only [Int.ofNat_eq_natCast]; omega
      | true =>
        have h' : a ≤ 18446744073709551615 := Nat.le_of_ble_eq_true h
        exact (IntWalk.u64_in (Int.ofNat a) ⟨by simp only [Int.ofNat_eq_natCast]; omega, by simp only [Int.ofNat_eq_natCast]; omega⟩).symm
    | negSucc a => rfl
theorem kN_eq {a b : IntKind} (h : Nat.beq (kN a) (kN b) = true) : a = b := by
  cases a <;> cases b <;> first | rfl | (simp [kN] at h)

end Go.Am
