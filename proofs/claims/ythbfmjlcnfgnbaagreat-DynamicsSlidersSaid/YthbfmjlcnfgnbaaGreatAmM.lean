/-
  Drawn regions: the text's run, step by step.
-/
import Derived.Test.YthbfmjlcnfgnbaaGreatAmL
namespace Go.Am
section
variable {P : Program} {X : Xt} {O : Orc} {esc : Nat → Bool} {ops : List Oper}

theorem trace_states : ∀ (l : List Oper) (s s' : St) (fps : List Fp), traceOps P X O esc ops l s = some (s', fps) →
    ∃ (S : Nat → St) (F : Nat → Fp), S 0 = s ∧ S l.length = s' ∧ (∀ k, k < l.length → fps[k]? = some (F k)) ∧ ∀ k o, l[k]? = some o → stepTr P X O esc ops o (S k) = some (S (k + 1), F k)
  | [], s, s', fps, h => by
    simp only [traceOps, Option.some.injEq, Prod.mk.injEq] at h
    exact ⟨fun _ => s, fun _ => ⟨[], [], [], [], true⟩, rfl, h.1, fun k hk => by simp at hk, fun k o ho => by simp at ho⟩
  | o :: rest, s, s', fps, h => by
    unfold traceOps at h
    split at h
    · rename_i s1 f h1
      split at h
      · rename_i s2 fps' h2
        simp only [Option.some.injEq, Prod.mk.injEq] at h
        obtain ⟨rfl, rfl⟩ := h
        obtain ⟨S, F, e0, e1, e2, e3⟩ := trace_states rest s1 _ _ h2
        refine ⟨fun k => match k with | 0 => s | k + 1 => S k, fun k => match k with | 0 => f | k + 1 => F k, rfl, by simpa using e1, fun k hk => ?_, fun k o' ho => ?_⟩
        · cases k with
          | zero => rfl
          | succ k => simpa using e2 k (by simpa using hk)
        · cases k with
          | zero => simp at ho; subst ho; simp only [e0]; exact h1
          | succ k => exact e3 k o' (by simpa using ho)
      · cases h
    · cases h

theorem putF_length (fr : List Value) (d : Option Tmp) (v : Value) : (putF fr d v).length = fr.length := by cases d <;> simp [putF]
theorem putF_ne (fr : List Value) {d : Option Tmp} (v : Value) {t : Nat} (h : d ≠ some t) : (putF fr d v)[t]? = fr[t]? := by
  cases d with
  | none => rfl
  | some d =>
    simp only [putF]
    rw [List.getElem?_set_ne]
    intro e; subst e; exact h rfl

structure SP (o : Oper) (s s1 : St) (f : Fp) : Prop where
  pur : Pur s.H s.loc s1.H s1.loc f.wg f.wl
  wg : s1.wg = s.wg ++ f.wg
  len : s1.fr.length = s.fr.length
  fr : ∀ t, o.dst ≠ some t → s1.fr[t]? = s.fr[t]?

theorem step_pure (hO : PureO O) {o : Oper} {s s1 : St} {f : Fp} (h : stepTr P X O esc ops o s = some (s1, f)) : SP o s s1 f := by
  unfold stepTr at h
  rcases cond_or h with h | h
  · split at h
    · rename_i out hout
      simp only [Option.some.injEq, Prod.mk.injEq] at h
      obtain ⟨rfl, rfl⟩ := h
      exact ⟨evOp_pure hO hout, rfl, putF_length _ _ _, fun t ht => putF_ne _ _ ht⟩
    · cases h
  · simp only [Option.some.injEq, Prod.mk.injEq] at h
    obtain ⟨rfl, rfl⟩ := h
    exact ⟨Pur.refl _ _, by simp, putF_length _ _ _, fun t ht => putF_ne _ _ ht⟩

theorem step_quiet {o : Oper} (hne : isEff o = false) {s s1 : St} {f : Fp} (h : stepTr P X O esc ops o s = some (s1, f)) : f.wg = [] ∧ f.wl = [] := by
  unfold stepTr at h
  rcases cond_or h with h | h
  · split at h
    · rename_i out hout
      simp only [Option.some.injEq, Prod.mk.injEq] at h
      obtain ⟨rfl, rfl⟩ := h
      unfold isEff at hne
      unfold evOp at hout
      simp only [fVals_eq, fSpine_eq] at hout
      split at hout
      · split at hout
        · injection hout with hout; subst hout; exact ⟨rfl, rfl⟩
        · cases hout
      · split at hout
        · split at hout
          · injection hout with hout; subst hout; exact ⟨rfl, rfl⟩
          · cases hout
        · cases hout
      · split at hout
        · rcases cond_or hout with hout | hout
          · rcases cond_or hout with hout | hout
            · injection hout with hout; subst hout; exact ⟨rfl, rfl⟩
            · cases hout
          · injection hout with hout; subst hout; exact ⟨rfl, rfl⟩
        · cases hout
      · rename_i hk; rw [hk] at hne; cases hne
    · cases h
  · simp only [Option.some.injEq, Prod.mk.injEq] at h
    obtain ⟨rfl, rfl⟩ := h
    exact ⟨rfl, rfl⟩

/-- The text's run. -/
structure Run (ops : List Oper) (S : Nat → St) (F : Nat → Fp) : Prop where
  sp : ∀ k o, ops[k]? = some o → SP o (S k) (S (k + 1)) (F k)
  quiet : ∀ k o, ops[k]? = some o → isEff o = false → (F k).wg = [] ∧ (F k).wl = []

variable {S : Nat → St} {F : Nat → Fp}

theorem Run.pur (h : Run ops S F) {k : Nat} (hk : k < ops.length) : Pur (S k).H (S k).loc (S (k + 1)).H (S (k + 1)).loc (F k).wg (F k).wl :=
  (h.sp k _ (List.getElem?_eq_getElem hk)).pur

theorem Run.mono (h : Run ops S F) {j : Nat} : ∀ {k : Nat}, j ≤ k → k ≤ ops.length → (S j).H.length ≤ (S k).H.length ∧ (S j).loc.length ≤ (S k).loc.length
  | 0, hjk, _ => by have : j = 0 := by omega
                    subst this; exact ⟨Nat.le_refl _, Nat.le_refl _⟩
  | k + 1, hjk, hk => by
    by_cases e : j = k + 1
    · subst e; exact ⟨Nat.le_refl _, Nat.le_refl _⟩
    · have h1 := h.mono (j := j) (k := k) (by omega) (by omega)
      have h2 := h.pur (k := k) (by omega)
      exact ⟨Nat.le_trans h1.1 h2.len, Nat.le_trans h1.2 h2.lenl⟩
theorem Run.monoG (h : Run ops S F) {j k : Nat} (hjk : j ≤ k) (hk : k ≤ ops.length) : (S j).H.length ≤ (S k).H.length := (h.mono hjk hk).1
theorem Run.monoL (h : Run ops S F) {j k : Nat} (hjk : j ≤ k) (hk : k ≤ ops.length) : (S j).loc.length ≤ (S k).loc.length := (h.mono hjk hk).2

theorem Run.keepG (h : Run ops S F) {j i : Nat} (hi : i < (S j).H.length) : ∀ {k : Nat}, j ≤ k → k ≤ ops.length → (∀ e, j ≤ e → e < k → i ∉ (F e).wg) → (S k).H[i]? = (S j).H[i]?
  | 0, hjk, _, _ => by have : j = 0 := by omega
                       subst this; rfl
  | k + 1, hjk, hk, hn => by
    by_cases e : j = k + 1
    · subst e; rfl
    · have h1 := h.keepG hi (k := k) (by omega) (by omega) (fun e he1 he2 => hn e he1 (by omega))
      have hlt : i < (S k).H.length := Nat.lt_of_lt_of_le hi (h.monoG (by omega) (by omega))
      exact ((h.pur (by omega)).mod i hlt (hn k (by omega) (by omega))).trans h1
theorem Run.keepL (h : Run ops S F) {j i : Nat} (hi : i < (S j).loc.length) : ∀ {k : Nat}, j ≤ k → k ≤ ops.length → (∀ e, j ≤ e → e < k → i ∉ (F e).wl) → (S k).loc[i]? = (S j).loc[i]?
  | 0, hjk, _, _ => by have : j = 0 := by omega
                       subst this; rfl
  | k + 1, hjk, hk, hn => by
    by_cases e : j = k + 1
    · subst e; rfl
    · have h1 := h.keepL hi (k := k) (by omega) (by omega) (fun e he1 he2 => hn e he1 (by omega))
      have hlt : i < (S k).loc.length := Nat.lt_of_lt_of_le hi (h.monoL (by omega) (by omega))
      exact ((h.pur (by omega)).modl i hlt (hn k (by omega) (by omega))).trans h1
theorem Run.kp (h : Run ops S F) {j i : Nat} {b : Blk} (hb : (S j).H[i]? = some b) : ∀ {k : Nat}, j ≤ k → k ≤ ops.length → ∃ b', (S k).H[i]? = some b' ∧ b'.esz = b.esz ∧ b'.loose = b.loose
  | 0, hjk, _ => by have : j = 0 := by omega
                    subst this; exact ⟨b, hb, rfl, rfl⟩
  | k + 1, hjk, hk => by
    by_cases e : j = k + 1
    · subst e; exact ⟨b, hb, rfl, rfl⟩
    · obtain ⟨b1, e1, e2, e3⟩ := h.kp hb (k := k) (by omega) (by omega)
      obtain ⟨b2, f1, f2, f3⟩ := (h.pur (k := k) (by omega)).kp i b1 e1
      exact ⟨b2, f1, f2.trans e2, f3.trans e3⟩
theorem Run.same (h : Run ops S F) {j k i : Nat} (hj : j ≤ ops.length) (hk : k ≤ ops.length) {b b' : Blk} (hb : (S j).H[i]? = some b) (hb' : (S k).H[i]? = some b') : b'.esz = b.esz ∧ b'.loose = b.loose := by
  rcases Nat.le_total j k with hjk | hjk
  · obtain ⟨b2, f1, f2, f3⟩ := h.kp hb hjk hk
    rw [hb'] at f1; injection f1 with f1; subst f1; exact ⟨f2, f3⟩
  · obtain ⟨b2, f1, f2, f3⟩ := h.kp hb' hjk hj
    rw [hb] at f1; injection f1 with f1; subst f1; exact ⟨f2.symm, f3.symm⟩
theorem Run.frl (h : Run ops S F) : ∀ {k : Nat}, k ≤ ops.length → (S k).fr.length = (S 0).fr.length
  | 0, _ => rfl
  | k + 1, hk => ((h.sp k _ (List.getElem?_eq_getElem (by omega))).len).trans (h.frl (by omega))
theorem Run.keepF (h : Run ops S F) {j t : Nat} : ∀ {k : Nat}, j ≤ k → k ≤ ops.length → (∀ c o, j ≤ c → c < k → ops[c]? = some o → o.dst ≠ some t) → (S k).fr[t]? = (S j).fr[t]?
  | 0, hjk, _, _ => by have : j = 0 := by omega
                       subst this; rfl
  | k + 1, hjk, hk, hn => by
    by_cases e : j = k + 1
    · subst e; rfl
    · have h1 := h.keepF (j := j) (t := t) (k := k) (by omega) (by omega) (fun c o hc1 hc2 ho => hn c o hc1 (by omega) ho)
      exact ((h.sp k _ (List.getElem?_eq_getElem (by omega))).fr t (hn k _ (by omega) (by omega) (List.getElem?_eq_getElem (by omega)))).trans h1

/-- More of the same: blocks behind the old ones, rows behind the old ones, new places of the map that are their own. -/
theorem ext_more {m0 m1 m2 : Mp} {H0 H loc H' loc' : Hp} {w0 w w' : World} {wg : List Nat} (h : Ext m0 H0 [] w0 m1 H loc w wg []) (hle : Le m1 m2)
    (hH : ∀ i, i < H.length → H'[i]? = H[i]?) (hHl : H.length ≤ H'.length) (hL : ∀ i, i < loc.length → loc'[i]? = loc[i]?) (hLl : loc.length ≤ loc'.length)
    (hw : ∀ g, g < w.heap.size → w'.heap[g]? = w.heap[g]?) (hs : w.heap.size ≤ w'.heap.size) (h1 : w'.os = w.os) (h2 : w'.tape = w.tape) (h3 : w'.output = w.output)
    (hg : ∀ i g, m2.gb i = some g → m1.gb i = some g ∨ (H0.length ≤ i ∧ i < H'.length ∧ g < w'.heap.size ∧ w0.heap.size ≤ g ∧ (∃ b, H'[i]? = some b ∧ GR m2 i g b w') ∧ (∀ j, m2.gb j = some g → j = i) ∧ (∀ j, m2.lb j ≠ some g)))
    (hl : ∀ i g, m2.lb i = some g → m1.lb i = some g ∨ (i < loc'.length ∧ g < w'.heap.size ∧ w0.heap.size ≤ g ∧ (∃ b, loc'[i]? = some b ∧ LR m2 g b w') ∧ (∀ j, m2.lb j = some g → j = i) ∧ (∀ j, m2.gb j ≠ some g))) :
    Ext m0 H0 [] w0 m2 H' loc' w' wg [] where
  le := h.le.trans hle
  rel := by
    refine ⟨fun i g e => ?_, fun i g e => ?_, fun i j g bi bj e e' hbi hbj li lj => ?_, fun i j g e e' => ?_, fun i j g e e' => ?_⟩
    · rcases hg i g e with e1 | ⟨_, _, e1, _, e2, _⟩
      · obtain ⟨f1, b, f2, f3⟩ := h.rel.glob i g e1
        exact ⟨Nat.lt_of_lt_of_le f1 hs, b, (hH i (List.getElem?_eq_some_iff.1 f2).1).trans f2, f3.mono hle e1 (fun _ => hw g f1)⟩
      · exact ⟨e1, e2⟩
    · rcases hl i g e with e1 | ⟨_, e1, _, e2, _⟩
      · obtain ⟨f1, b, f2, f3⟩ := h.rel.locs i g e1
        exact ⟨Nat.lt_of_lt_of_le f1 hs, b, (hL i (List.getElem?_eq_some_iff.1 f2).1).trans f2, f3.mono hle (hw g f1)⟩
      · exact ⟨e1, e2⟩
    · rcases hg i g e with e1 | ⟨_, _, _, _, _, e2, _⟩
      · rcases hg j g e' with e1' | ⟨_, _, _, _, _, e2', _⟩
        · obtain ⟨_, b, f2, _⟩ := h.rel.glob i g e1
          obtain ⟨_, b', f2', _⟩ := h.rel.glob j g e1'
          have g1 := (hH i (List.getElem?_eq_some_iff.1 f2).1).trans f2
          have g2 := (hH j (List.getElem?_eq_some_iff.1 f2').1).trans f2'
          rw [hbi] at g1; rw [hbj] at g2
          injection g1 with g1; injection g2 with g2
          subst g1; subst g2
          exact h.rel.ginj i j g _ _ e1 e1' f2 f2' li lj
        · exact e2' i e
      · exact (e2 j e').symm
    · rcases hl i g e with e1 | ⟨_, _, _, _, e2, _⟩
      · rcases hl j g e' with e1' | ⟨_, _, _, _, e2', _⟩
        · exact h.rel.linj i j g e1 e1'
        · exact e2' i e
      · exact (e2 j e').symm
    · rcases hg i g e with e1 | ⟨_, _, _, _, _, _, e2⟩
      · rcases hl j g e' with e1' | ⟨_, _, _, _, _, e2'⟩
        · exact h.rel.disj i j g e1 e1'
        · exact e2' i e
      · exact e2 j e'
  img := fun i g e => by
    rcases hg i g e with e1 | ⟨_, _, _, e1, _⟩
    · exact h.img i g e1
    · exact .inr e1
  imgl := fun i g e => by
    rcases hl i g e with e1 | ⟨_, _, e1, _⟩
    · exact h.imgl i g e1
    · exact .inr e1
  dom := fun i g e => by
    rcases hg i g e with e1 | ⟨e1, e2, _⟩
    · rcases h.dom i g e1 with f | ⟨f1, f2⟩
      · exact .inl f
      · exact .inr ⟨f1, Nat.lt_of_lt_of_le f2 hHl⟩
    · exact .inr ⟨e1, e2⟩
  doml := fun i g e => by
    rcases hl i g e with e1 | ⟨e1, _⟩
    · rcases h.doml i g e1 with f | ⟨f1, f2⟩
      · exact .inl f
      · exact .inr ⟨f1, Nat.lt_of_lt_of_le f2 hLl⟩
    · exact .inr ⟨by simp, e1⟩
  os := h1.trans h.os
  tape := h2.trans h.tape
  output := h3.trans h.output
  size := Nat.le_trans h.size hs
  frame := fun g hg' hn hn2 => (hw g (Nat.lt_of_lt_of_le hg' h.size)).trans (h.frame g hg' hn hn2)
  un := fun i hi hn => (hH i (Nat.lt_of_lt_of_le hi h.len)).trans (h.un i hi hn)
  unl := fun i hi => by simp at hi
  mod := fun i hi hn => (hH i (Nat.lt_of_lt_of_le hi h.len)).trans (h.mod i hi hn)
  modl := fun i hi => by simp at hi
  len := Nat.le_trans h.len hHl
  lenl := by simp
  kp := fun i b e => by
    obtain ⟨b', e1, e2, e3⟩ := h.kp i b e
    exact ⟨b', (hH i (List.getElem?_eq_some_iff.1 e1).1).trans e1, e2, e3⟩
  cmod := fun i g b e hb hlive hn => by
    have hg' : g < w.heap.size := (h.rel.glob i g (h.le.gb i g e)).1
    exact (hw g hg').trans (h.cmod i g b e hb hlive hn)

end
end Go.Am
