/-
  What every step of the machine keeps, with no world in sight.
-/
import Derived.Test.YthbfmjlcnfgnbaaGreatAmI
namespace Go.Am

structure Pur (H loc H' loc' : Hp) (wg wl : List Nat) : Prop where
  len : H.length ≤ H'.length
  lenl : loc.length ≤ loc'.length
  mod : ∀ i, i < H.length → i ∉ wg → H'[i]? = H[i]?
  modl : ∀ i, i < loc.length → i ∉ wl → loc'[i]? = loc[i]?
  kp : ∀ (i : Nat) (b : Blk), H[i]? = some b → ∃ b', H'[i]? = some b' ∧ b'.esz = b.esz ∧ b'.loose = b.loose

theorem Pur.refl (H loc : Hp) : Pur H loc H loc [] [] := ⟨Nat.le_refl _, Nat.le_refl _, fun _ _ _ => rfl, fun _ _ _ => rfl, fun _ b e => ⟨b, e, rfl, rfl⟩⟩
theorem Pur.wide {H loc H' loc' : Hp} {wg wl wg' wl' : List Nat} (h : Pur H loc H' loc' wg wl) (h1 : ∀ i, i ∈ wg → i ∈ wg') (h2 : ∀ i, i ∈ wl → i ∈ wl') : Pur H loc H' loc' wg' wl' :=
  ⟨h.len, h.lenl, fun i hi hn => h.mod i hi (fun e => hn (h1 i e)), fun i hi hn => h.modl i hi (fun e => hn (h2 i e)), h.kp⟩
theorem Pur.trans {H loc H' loc' H'' loc'' : Hp} {a b c d : List Nat} (h : Pur H loc H' loc' a b) (k : Pur H' loc' H'' loc'' c d) : Pur H loc H'' loc'' (a ++ c) (b ++ d) where
  len := Nat.le_trans h.len k.len
  lenl := Nat.le_trans h.lenl k.lenl
  mod := fun i hi hn => by
    simp only [List.mem_append, not_or] at hn
    exact (k.mod i (Nat.lt_of_lt_of_le hi h.len) hn.2).trans (h.mod i hi hn.1)
  modl := fun i hi hn => by
    simp only [List.mem_append, not_or] at hn
    exact (k.modl i (Nat.lt_of_lt_of_le hi h.lenl) hn.2).trans (h.modl i hi hn.1)
  kp := fun i x e => by
    obtain ⟨y, e1, e2, e3⟩ := h.kp i x e
    obtain ⟨z, f1, f2, f3⟩ := k.kp i y e1
    exact ⟨z, f1, f2.trans e2, f3.trans e3⟩

theorem cond_or {α : Type} {c : Bool} {x y : Option α} {r : α} (h : cond c x y = some r) : x = some r ∨ y = some r := by
  cases c with
  | true => exact .inl h
  | false => exact .inr h

theorem getElem?_snoc_lt {α : Type} {l : List α} {x : α} {i : Nat} (h : i < l.length) : (l ++ [x])[i]? = l[i]? := List.getElem?_append_left h

theorem Pur.newG (H loc : Hp) (b : Blk) : Pur H loc (H ++ [b]) loc [] [] :=
  ⟨by simp, Nat.le_refl _, fun i hi _ => getElem?_snoc_lt hi, fun _ _ _ => rfl, fun i x e => ⟨x, by rw [getElem?_snoc_lt (List.getElem?_eq_some_iff.1 e).1]; exact e, rfl, rfl⟩⟩
theorem Pur.newL (H loc : Hp) (b : Blk) : Pur H loc H (loc ++ [b]) [] [] :=
  ⟨Nat.le_refl _, by simp, fun _ _ _ => rfl, fun i hi _ => getElem?_snoc_lt hi, fun _ x e => ⟨x, e, rfl, rfl⟩⟩
theorem Pur.setG (H loc : Hp) {i : Nat} {b b' : Blk} (hb : H[i]? = some b) (h1 : b'.esz = b.esz) (h2 : b'.loose = b.loose) : Pur H loc (H.set i b') loc [i] [] := by
  refine ⟨by simp, Nat.le_refl _, fun j hj hn => ?_, fun _ _ _ => rfl, fun j x e => ?_⟩
  · simp only [List.mem_singleton] at hn
    rw [List.getElem?_set_ne (fun e => hn e.symm)]
  · by_cases hji : i = j
    · subst hji
      rw [hb] at e; injection e with e; subst e
      exact ⟨b', by rw [List.getElem?_set_self (List.getElem?_eq_some_iff.1 hb).1], h1, h2⟩
    · exact ⟨x, by rw [List.getElem?_set_ne hji]; exact e, rfl, rfl⟩
theorem Pur.setL (H loc : Hp) (i : Nat) (b' : Blk) : Pur H loc H (loc.set i b') [] [i] := by
  refine ⟨Nat.le_refl _, by simp, fun _ _ _ => rfl, fun j hj hn => ?_, fun _ x e => ⟨x, e, rfl, rfl⟩⟩
  simp only [List.mem_singleton] at hn
  rw [List.getElem?_set_ne (fun e => hn e.symm)]

theorem writeCells_pure {H loc H' loc' : Hp} {a : Addr} {vs : List Value} {wg wl : List Nat} (h : writeCells H loc a vs = some (H', loc', wg, wl)) : Pur H loc H' loc' wg wl := by
  unfold writeCells at h
  simp only [fSpine_eq, fSet_eq] at h
  split at h
  · split at h
    · rename_i b hb
      revert h
      cases (b.live && decide (a.off + vs.length ≤ b.cells.length) && vs.all cellOk) with
      | false => intro h; cases h
      | true =>
        intro h
        simp only [cond_true, Option.some.injEq, Prod.mk.injEq] at h
        obtain ⟨rfl, rfl, rfl, rfl⟩ := h
        exact Pur.setG H loc hb rfl rfl
    · cases h
  · split at h
    · rename_i b hb
      revert h
      cases (b.live && decide (a.off + vs.length ≤ b.cells.length) && vs.all (·.oneCell')) with
      | false => intro h; cases h
      | true =>
        intro h
        simp only [cond_true, Option.some.injEq, Prod.mk.injEq] at h
        obtain ⟨rfl, rfl, rfl, rfl⟩ := h
        exact Pur.setL H loc _ _
    · cases h
  · cases h

theorem grown_pure {H loc : Hp} {elem : TypeId} {esz need : Nat} {cells : List Value} {wg : List Nat} {out : Out} (h : grown H loc elem esz need cells wg = some out) : Pur H loc out.H out.loc out.wg out.wl := by
  unfold grown at h
  simp only [fSpine_eq] at h
  revert h
  cases cells.all cellOk with
  | false => intro h; cases h
  | true =>
    intro h
    simp only [cond_true, Option.some.injEq] at h
    subst h
    exact (Pur.newG H loc _).wide (by simp) (by simp)

theorem append_pure {P : Program} {H loc : Hp} {tS tX : TypeId} {s x : Value} {out : Out} (h : evAppend P H loc tS tX s x = some out) : Pur H loc out.H out.loc out.wg out.wl := by
  unfold evAppend at h
  simp only [fSpine_eq] at h
  split at h
  · rename_i elem dX base sLen sCap _ _
    rcases cond_or h with h | h
    · cases h
    split at h
    · cases h
    · rename_i ti hti
      split at h
      · rename_i z n hz hn
        rcases cond_or h with h | h
        · cases h
        split at h
        · cases h
        · rename_i new hnew
          rcases cond_or h with h | h
          · split at h
            · rcases cond_or h with h | h
              · simp only [Option.some.injEq] at h; subst h; exact Pur.refl H loc
              · cases h
            · rcases cond_or h with h | h
              · simp only [Option.some.injEq] at h; subst h; exact Pur.refl H loc
              · split at h
                · rename_i hw
                  injection h with h; subst h
                  exact writeCells_pure hw
                · cases h
          · rcases cond_or h with h | h
            · split at h
              · rcases cond_or h with h | h
                · exact grown_pure h
                · cases h
              · rename_i a
                split at h
                · split at h
                  · exact grown_pure h
                  · cases h
                · cases h
                · split at h
                  · rename_i b old hb hold
                    rcases cond_or h with h | h
                    · exact grown_pure h
                    · rcases cond_or h with h | h
                      · simp only [Option.some.injEq] at h
                        subst h
                        exact ((Pur.setG H loc hb (b' := { b with live := false }) rfl rfl).trans (Pur.newG _ loc _)).wide (by simp) (by simp)
                      · cases h
                  · cases h
            · cases h
      · cases h
  · cases h

theorem copy_pure {P : Program} {H loc : Hp} {t0 : TypeId} {s x : Value} {out : Out} (h : evCopy P H loc t0 s x = some out) : Pur H loc out.H out.loc out.wg out.wl := by
  unfold evCopy at h
  split at h
  · split at h
    · cases h
    · split at h
      · cases h
      · split at h
        · injection h with h; subst h; exact Pur.refl H loc
        · rcases cond_or h with h | h
          · injection h with h; subst h; exact Pur.refl H loc
          · rcases cond_or h with h | h
            · split at h
              · rename_i hw
                injection h with h; subst h
                exact writeCells_pure hw
              · cases h
            · cases h
  · cases h

/-- What an oracle keeps. -/
def PureO (O : Orc) : Prop := ∀ f args H v H' md, O f args H = some (v, H', md) → Pur H [] H' [] md []

theorem evOp_pure {P : Program} {X : Xt} {O : Orc} (hO : PureO O) {esc : Nat → Bool} {o : Oper} {ρ : Operand → Value} {H loc : Hp} {out : Out} (h : evOp P X O esc o ρ H loc = some out) :
    Pur H loc out.H out.loc out.wg out.wl := by
  unfold evOp at h
  simp only [fVals_eq, fSpine_eq] at h
  split at h
  · split at h
    · injection h with h; subst h; exact Pur.refl H loc
    · cases h
  · split at h
    · split at h
      · injection h with h; subst h; exact Pur.refl H loc
      · cases h
    · cases h
  · split at h
    · rename_i b k hb
      rcases cond_or h with h | h
      · rcases cond_or h with h | h
        · injection h with h; subst h; exact Pur.newG H loc _
        · cases h
      · injection h with h; subst h; exact Pur.newL H loc _
    · cases h
  · unfold evEff at h
    split at h
    · unfold evRange at h
      simp only [fSpine_eq] at h
      split at h
      · injection h with h; subst h; exact Pur.newL H loc _
      · cases h
    · unfold evNext at h
      simp only [fNat_eq, fSet_eq] at h
      split at h
      · split at h
        · rcases cond_or h with h | h
          · cases h
          · split at h
            · rcases cond_or h with h | h
              · injection h with h; subst h; exact Pur.setL H loc _ _
              · injection h with h; subst h; exact Pur.refl H loc
            · cases h
        · cases h
      · cases h
    · split at h
      · rename_i hs
        injection h with h; subst h
        unfold evStore at hs
        split at hs
        · split at hs
          · rcases cond_or hs with hs | hs
            · exact writeCells_pure hs
            · cases hs
          · cases hs
        · cases hs
      · cases h
    · exact append_pure h
    · exact copy_pure h
    · unfold evCall at h
      split at h
      · rcases cond_or h with h | h
        · split at h
          · rename_i v H' md hv
            injection h with h; subst h
            have := hO _ _ _ _ _ _ hv
            exact ⟨this.len, Nat.le_refl _, this.mod, fun _ _ _ => rfl, this.kp⟩
          · cases h
        · split at h
          · rcases cond_or h with h | h
            · split at h
              · rcases cond_or h with h | h
                · injection h with h; subst h; exact Pur.refl H loc
                · cases h
              · cases h
            · cases h
          · cases h
      · cases h
    · cases h

end Go.Am
