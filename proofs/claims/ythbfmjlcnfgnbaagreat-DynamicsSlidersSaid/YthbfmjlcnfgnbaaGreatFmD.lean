/-
  The fast machine's operations on memory: each answers as the plain machine's.
-/
import Derived.Test.YthbfmjlcnfgnbaaGreatFmC
namespace Go.Am

section
variable {γ : Type}
theorem snocK_go {α : Type} (x : α) : ∀ (l : List α) (n : Nat) (k : List α → Nat → γ),
    (List.rec (motive := fun _ => Nat → (List α → Nat → γ) → γ) (fun n k => fNat n fun n => k [x] n) (fun y _ ih n k => ih (n + 1) fun l n => k (y :: l) n) l n k) = k (l ++ [x]) (n + l.length)
  | [], n, k => fNat_eq n _
  | y :: l, n, k => by
    have := snocK_go x l (n + 1) (fun l n => k (y :: l) n)
    simp only [List.cons_append, List.length_cons]
    rw [show n + (l.length + 1) = n + 1 + l.length from by omega]
    exact this
theorem snocK_eq {α : Type} (l : List α) (x : α) (k : List α → Nat → γ) : snocK l x k = k (l ++ [x]) l.length := by
  have := snocK_go x l 0 k
  rw [Nat.zero_add] at this
  exact this
theorem setLK_ok {α : Type} (x : α) : ∀ (l : List α) (n : Nat) (k : List α → Option γ) (r : γ), setLK l n x none k = some r → n < l.length ∧ k (l.set n x) = some r
  | [], n, k, r, h => by cases h
  | y :: l, 0, k, r, h => ⟨by simp, h⟩
  | y :: l, n + 1, k, r, h => by
    have := setLK_ok x l n (fun l => k (y :: l)) r h
    exact ⟨by have := this.1; simp; omega, this.2⟩
theorem cellsK_eq (x : Value) (k : List Value → γ) : cellsK x k = k x.cells.toList := by
  cases x <;> rfl
end

theorem noLocB_more : ∀ (d : Nat) (v : Value), noLocB d v = true → noLocB (d + 1) v = true
  | 0, _, h => by cases h
  | d + 1, v, h => by
    unfold noLocB at h ⊢
    split at h
    · exact h
    · exact h
    · simp only [List.all_eq_true] at h ⊢; exact fun x hx => noLocB_more d x (h x hx)
    · simp only [List.all_eq_true] at h ⊢; exact fun x hx => noLocB_more d x (h x hx)
    · exact noLocB_more d _ h
    · simp only [Bool.and_eq_true, List.all_eq_true] at h ⊢; exact ⟨fun x hx => noLocB_more d x (h.1 x hx), fun x hx => noLocB_more d x (h.2 x hx)⟩
    · rfl
theorem plainB_more : ∀ (d : Nat) (v : Value), plainB d v = true → plainB (d + 1) v = true
  | 0, _, h => by cases h
  | d + 1, v, h => by
    unfold plainB at h ⊢
    split at h
    all_goals first
      | rfl
      | (simp only [List.all_eq_true] at h ⊢; exact fun x hx => plainB_more d x (h x hx))
      | exact plainB_more d _ h
      | (simp only [Bool.and_eq_true, List.all_eq_true] at h ⊢; exact ⟨fun x hx => plainB_more d x (h.1 x hx), fun x hx => plainB_more d x (h.2 x hx)⟩)
      | cases h
theorem nl1_5 {v : Value} (h : nl1 v = true) : noLocB 5 v = true := by
  unfold nl1 at h
  split at h <;> first | rfl | exact h
theorem nl1_ok {v : Value} (h : nl1 v = true) : noLoc v = true := noLocB_more 5 v (nl1_5 h)
theorem nls_5 : ∀ {l : List Value}, nls l = true → l.all (noLocB 5) = true
  | [], _ => rfl
  | v :: l, h => by
    have h' : (bif nl1 v then nls l else false) = true := h
    cases hv : nl1 v with
    | false => rw [hv] at h'; cases h'
    | true =>
      rw [hv] at h'
      simp only [List.all_cons, nl1_5 hv, nls_5 h', Bool.and_self]
theorem nls_all {l : List Value} (h : nls l = true) : l.all noLoc = true := by
  have := nls_5 h
  simp only [List.all_eq_true] at this ⊢
  exact fun x hx => noLocB_more 5 x (this x hx)
theorem nlF_ok {v : Value} (h : nlF v = true) : noLoc v = true := by
  unfold nlF at h
  split at h
  · exact nls_5 h
  · exact nls_5 h
  · exact nl1_ok h
theorem nlFs_ok : ∀ {l : List Value}, nlFs l = true → l.all noLoc = true
  | [], _ => rfl
  | v :: l, h => by
    have h' : (bif nlF v then nlFs l else false) = true := h
    cases hv : nlF v with
    | false => rw [hv] at h'; cases h'
    | true =>
      rw [hv] at h'
      simp only [List.all_cons, nlF_ok hv, nlFs_ok h', Bool.and_self]
theorem pl1_eq (v : Value) : pl1 v = plainB 3 v := by
  unfold pl1
  split <;> rfl
theorem pls_eq : ∀ (l : List Value), pls l = l.all (plainB 3)
  | [] => rfl
  | v :: l => by
    have h : pls (v :: l) = bif pl1 v then pls l else false := rfl
    rw [h, pl1_eq, pls_eq l]
    cases hv : plainB 3 v <;> simp [hv]
theorem plF_eq (v : Value) : plF v = plainV v := by
  unfold plF
  split
  · rename_i l; exact pls_eq l
  · rename_i l; exact pls_eq l
  · rfl
  · rfl
  · rfl

section
variable {P : Program} {X : Xt} {O : Orc} {esc : Nat → Bool} {γ : Type} {tr : Tr} {fr : List Value} {H loc : Hp} {r : γ} {o : Oper}

theorem read_one {cs : List Value} {off : Nat} {v : Value} (h : cs[off]? = some v) : (cs.drop off).take 1 = [v] ∧ off + 1 ≤ cs.length := by
  have hl : off < cs.length := by
    rcases Nat.lt_or_ge off cs.length with hlt | hge
    · exact hlt
    · rw [List.getElem?_eq_none hge] at h; cases h
  refine ⟨?_, hl⟩
  rw [List.drop_eq_getElem_cons hl]
  rw [List.getElem?_eq_getElem hl] at h
  injection h with h
  simp [h]

theorem cellK_ok {a : Addr} {k : Value → Option γ} (h : cellK H loc a none k = some r) : ∃ v, readCells H loc a 1 = some [v] ∧ k v = some r := by
  obtain ⟨b, o, s⟩ := a
  unfold cellK at h
  simp only at h
  split at h
  · rw [nthK_eq] at h
    split at h
    · rename_i blk hb
      obtain ⟨cs, t, e, lo, live⟩ := blk
      simp only at h
      replace h := cond_cases h
      rcases h with ⟨hl, h⟩ | ⟨_, h⟩
      · rw [nthK_eq] at h
        split at h
        · rename_i v hv
          obtain ⟨e1, e2⟩ := read_one hv
          subst hl
          refine ⟨v, ?_, h⟩
          simp only [readCells, hb, fSpine_eq, e1, decide_eq_true e2, Bool.and_self, cond_true]
        · cases h
      · cases h
    · cases h
  · rw [nthK_eq] at h
    split at h
    · rename_i blk hb
      obtain ⟨cs, t, e, lo, live⟩ := blk
      simp only at h
      replace h := cond_cases h
      rcases h with ⟨hl, h⟩ | ⟨_, h⟩
      · rw [nthK_eq] at h
        split at h
        · rename_i v hv
          obtain ⟨e1, e2⟩ := read_one hv
          subst hl
          refine ⟨v, ?_, h⟩
          simp only [readCells, hb, fSpine_eq, e1, decide_eq_true e2, Bool.and_self, cond_true]
        · cases h
      · cases h
    · cases h
  · cases h

theorem load_ok {k : Value → Option γ} {e : RP} (hF : FR tr fr) (hc : compL P o = some e) (h : stepP P e tr H loc none k = some r) :
    ∃ t x v, o.op = .load t x ∧ evLoad P H loc t (evalO fr x) = some v ∧ k v = some r := by
  unfold compL at hc
  split at hc
  · rename_i t x hop
    split at hc
    · rename_i ha
      split at hc
      · rename_i i hi
        rw [fNat_eq] at hc
        injection hc with hc; subst hc
        simp only [stepP, hF.op] at h
        split at h
        · rename_i a hx
          split at h
          · rename_i vs hvs
            exact ⟨t, x, _, hop, by simp only [evLoad, hx, ha, hi, hvs], h⟩
          · cases h
        · cases h
      · cases hc
    · rename_i ha
      injection hc with hc; subst hc
      simp only [stepP, hF.op] at h
      split at h
      · rename_i a hx
        obtain ⟨v, e1, e2⟩ := cellK_ok h
        exact ⟨t, x, v, hop, by simp only [evLoad, hx, ha, e1], e2⟩
      · cases h
    · cases hc
  · cases hc

theorem splice_one {cs : List Value} {off : Nat} {v : Value} (h : off < cs.length) : splice cs off [v] = cs.set off v := by
  rw [List.set_eq_take_append_cons_drop]
  simp [splice, h]

theorem wr1_ok {a : Addr} {v : Value} {k : Hp → Hp → List Nat → List Nat → Option γ} (h : wr1 H loc a v none k = some r) :
    ∃ H' loc' wg wl, v.oneCell' = true ∧ writeCells H loc a [v] = some (H', loc', wg, wl) ∧ k H' loc' wg wl = some r := by
  obtain ⟨b, o, s⟩ := a
  unfold wr1 at h
  simp only at h
  split at h
  · rw [nthK_eq] at h
    split at h
    · rename_i blk hb
      obtain ⟨cs, t, e, lo, live⟩ := blk
      simp only at h
      replace h := cond_cases h
      rcases h with ⟨hl, h⟩ | ⟨_, h⟩
      · subst hl
        replace h := cond_cases h
        rcases h with ⟨ho, h⟩ | ⟨_, h⟩
        · replace h := cond_cases h
          rcases h with ⟨hn, h⟩ | ⟨_, h⟩
          · obtain ⟨h1, h⟩ := setLK_ok _ _ _ _ _ h
            obtain ⟨h2, h⟩ := setLK_ok _ _ _ _ _ h
            refine ⟨_, _, _, _, ho, ?_, h⟩
            simp only [writeCells, hb, fSpine_eq, fSet_eq, splice_one h1, List.length_cons, List.length_nil, decide_eq_true (show o + (0 + 1) ≤ cs.length from h1), List.all_cons, List.all_nil, cellOk, ho, nl1_ok hn, Bool.and_self, cond_true]
          · cases h
        · cases h
      · cases h
    · cases h
  · rw [nthK_eq] at h
    split at h
    · rename_i blk hb
      obtain ⟨cs, t, e, lo, live⟩ := blk
      simp only at h
      replace h := cond_cases h
      rcases h with ⟨hl, h⟩ | ⟨_, h⟩
      · subst hl
        replace h := cond_cases h
        rcases h with ⟨ho, h⟩ | ⟨_, h⟩
        · obtain ⟨h1, h⟩ := setLK_ok _ _ _ _ _ h
          obtain ⟨h2, h⟩ := setLK_ok _ _ _ _ _ h
          refine ⟨_, _, _, _, ho, ?_, h⟩
          simp only [writeCells, hb, fSpine_eq, fSet_eq, splice_one h1, List.length_cons, List.length_nil, decide_eq_true (show o + (0 + 1) ≤ cs.length from h1), List.all_cons, List.all_nil, ho, Bool.and_self, cond_true]
        · cases h
      · cases h
    · cases h
  · cases h

theorem opsK_eq {k : List Value → γ} (hF : FR tr fr) : ∀ (xs : List Operand), opsK (xs.map compO) tr k = k (xs.map (evalO fr)) := by
  intro xs
  induction xs generalizing k with
  | nil => rfl
  | cons x xs ih =>
    show opK (compO x) tr (fun v => opsK (xs.map compO) tr fun l => k (v :: l)) = _
    rw [hF.op, ih]; rfl

theorem gmem_ok {k : Value → Hp → Hp → List Nat → List Nat → Option γ} (hF : FR tr fr) (h : stepM P X O esc (.gmem o) tr H loc none k = some r) :
    ∃ out, evOp P X O esc o (evalO fr) H loc = some out ∧ k out.v out.H out.loc out.wg out.wl = some r := by
  simp only [stepM, hF.ev, fVal_eq] at h
  split at h
  · rename_i out ho; exact ⟨out, ho, h⟩
  · cases h

theorem cond_t {α : Type} {c : Bool} {a b : α} (h : c = true) : cond c a b = a := by rw [h]; rfl
theorem cond_f {α : Type} {c : Bool} {a b : α} (h : c = false) : cond c a b = b := by rw [h]; rfl

theorem oneCell_cells {v : Value} (h : v.oneCell' = true) : v.cells = #[v] := by
  cases v <;> first | rfl | cases h

theorem stepM_ok {k : Value → Hp → Hp → List Nat → List Nat → Option γ} (hF : FR tr fr) (h : stepM P X O esc (compM P esc o) tr H loc none k = some r) :
    ∃ out, evOp P X O esc o (evalO fr) H loc = some out ∧ k out.v out.H out.loc out.wg out.wl = some r := by
  unfold compM at h
  split at h
  · rename_i t x v hop
    split at h
    · rename_i ha
      split at h
      · rename_i i hi
        simp only [fNat_eq, stepM, hF.op] at h
        split at h
        · rename_i a hx
          split at h
          · rename_i cs hv
            replace h := cond_cases h
            rcases h with ⟨hl, h⟩ | ⟨_, h⟩
            · have hl' : cs.length = i.size := Nat.eq_of_beq_eq_true hl
              split at h
              · rename_i H' loc' wg wl hw
                refine ⟨⟨undef, H', loc', wg, wl⟩, ?_, h⟩
                simp only [evOp, hop, kindOf, evEff, evStore, hx, hv, hi, Value.cells, List.size_toArray, hl', beq_self_eq_true, cond_true, hw]
              · cases h
            · cases h
          · cases h
        · cases h
      · exact gmem_ok hF h
    · rename_i ha
      split at h
      · rename_i i hi
        cases hz : Nat.beq i.size 1 with
        | false => rw [hz] at h; exact gmem_ok hF h
        | true =>
          rw [hz] at h
          have hz' : i.size = 1 := Nat.eq_of_beq_eq_true hz
          simp only [cond_true, stepM, hF.op] at h
          split at h
          · rename_i a hx
            obtain ⟨H', loc', wg, wl, e1, e2, e3⟩ := wr1_ok h
            refine ⟨⟨undef, H', loc', wg, wl⟩, ?_, e3⟩
            have : (evalO fr v).cells = #[evalO fr v] := oneCell_cells e1
            simp only [evOp, hop, kindOf, evEff, evStore, hx, hi, this, List.size_toArray, List.length_cons, List.length_nil, hz', Nat.zero_add, beq_self_eq_true, cond_true, e2]
          · cases h
      · exact gmem_ok hF h
    · exact gmem_ok hF h
  · rename_i elem x hop
    simp only [fBool_eq, stepM, hF.op, cellsK_eq, snocK_eq] at h
    replace h := cond_cases h
    rcases h with ⟨he, h⟩ | ⟨he, h⟩
    · replace h := cond_cases h
      rcases h with ⟨hn, h⟩ | ⟨_, h⟩
      · refine ⟨⟨_, _, _, _, _⟩, ?_, h⟩
        simp only [evOp, hop, kindOf, evAlloc, cond_true, nls_all hn, fVals_eq, fSpine_eq, nameV]; exact cond_t he
      · cases h
    · refine ⟨⟨_, _, _, _, _⟩, ?_, h⟩
      simp only [evOp, hop, kindOf, evAlloc, fVals_eq, fSpine_eq, nameV]; exact cond_f he
  · rename_i elem hop
    split at h
    · rename_i i hi
      split at h
      · rename_i z hz
        cases hp : (plainV z && z.cells.toList.all noLoc) with
        | false => rw [hp] at h; exact gmem_ok hF h
        | true =>
          rw [hp] at h
          simp only [Bool.and_eq_true] at hp
          simp only [cond_true, fBool_eq, fVals_eq, stepM, snocK_eq] at h
          replace h := cond_cases h
          rcases h with ⟨he, h⟩ | ⟨he, h⟩
          · refine ⟨⟨_, _, _, _, _⟩, ?_, h⟩
            simp only [evOp, hop, kindOf, evAlloc, hi, hz, hp.1, hp.2, cond_true, fVals_eq, fSpine_eq, nameV]; exact cond_t he
          · refine ⟨⟨_, _, _, _, _⟩, ?_, h⟩
            simp only [evOp, hop, kindOf, evAlloc, hi, hz, hp.1, cond_true, fVals_eq, fSpine_eq, nameV]; exact cond_f he
      · exact gmem_ok hF h
    · exact gmem_ok hF h
  · rename_i f as ts hop
    cases hb : hasBody P f with
    | false => rw [hb] at h; exact gmem_ok hF h
    | true =>
      rw [hb] at h
      simp only [cond_true, stepM, opsK_eq hF] at h
      replace h := cond_cases h
      rcases h with ⟨hn, h⟩ | ⟨_, h⟩
      · split at h
        · rename_i v H' md ho
          refine ⟨⟨v, H', loc, md, []⟩, ?_, h⟩
          simp only [evOp, hop, kindOf, evEff, evalO, evCall, hb, List.nil_append, List.append_nil, nlFs_ok hn, Bool.and_self, cond_true, ho]
        · cases h
      · cases h
  · exact gmem_ok hF h
end
end Go.Am
