/-
  Drawn regions: maps cut at a moment of the text's run; who waits for whom; the states of the text's run.
-/
import Derived.Test.YthbfmjlcnfgnbaaGreatAmJ
namespace Go.Am

/-- The map up to so many blocks. -/
def Mp.cut (m : Mp) (h l : Nat) : Mp := { m with gb := fun i => if i < h then m.gb i else none, lb := fun i => if i < l then m.lb i else none }

theorem cut_gb {m : Mp} {h l i g : Nat} : (m.cut h l).gb i = some g ↔ i < h ∧ m.gb i = some g := by
  simp only [Mp.cut]
  by_cases hi : i < h <;> simp [hi]
theorem cut_lb {m : Mp} {h l i g : Nat} : (m.cut h l).lb i = some g ↔ i < l ∧ m.lb i = some g := by
  simp only [Mp.cut]
  by_cases hi : i < l <;> simp [hi]
theorem cut_le (m : Mp) (h l : Nat) : Le (m.cut h l) m :=
  ⟨fun _ _ e => (cut_gb.1 e).2, fun _ _ e => (cut_lb.1 e).2, fun _ _ _ => rfl, fun _ _ _ => rfl, fun _ _ _ => rfl⟩
theorem cut_mono (m : Mp) {h h' l l' : Nat} (h1 : h ≤ h') (h2 : l ≤ l') : Le (m.cut h l) (m.cut h' l') :=
  ⟨fun _ _ e => cut_gb.2 ⟨Nat.lt_of_lt_of_le (cut_gb.1 e).1 h1, (cut_gb.1 e).2⟩, fun _ _ e => cut_lb.2 ⟨Nat.lt_of_lt_of_le (cut_lb.1 e).1 h2, (cut_lb.1 e).2⟩, fun _ _ _ => rfl, fun _ _ _ => rfl, fun _ _ _ => rfl⟩
theorem Le.cut {m m' : Mp} (hm : Le m m') (h l : Nat) : Le (m.cut h l) (m'.cut h l) :=
  ⟨fun i g e => cut_gb.2 ⟨(cut_gb.1 e).1, hm.gb i g (cut_gb.1 e).2⟩, fun i g e => cut_lb.2 ⟨(cut_lb.1 e).1, hm.lb i g (cut_lb.1 e).2⟩,
   fun i g e => hm.loose i g (cut_gb.1 e).2, fun i g e => hm.esz i g (cut_gb.1 e).2, fun i g e => hm.tot i g (cut_gb.1 e).2⟩

theorem bound_vr {m : Mp} {h l : Nat} : ∀ (d : Nat) (v v' : Value), boundB h l d v = true → VR m v v' → VR (m.cut h l) v v'
  | 0, _, _, hb, _ => by simp [boundB] at hb
  | d + 1, v, v', hb, hv => by
    cases hv with
    | bool b => exact .bool b
    | int k n => exact .int k n
    | float k n => exact .float k n
    | string s => exact .string s
    | ptrN => exact .ptrN
    | ptrG e => simp [boundB] at hb; exact .ptrG (cut_gb.2 ⟨hb, e⟩)
    | ptrL e => simp [boundB] at hb; exact .ptrL (cut_lb.2 ⟨hb, e⟩)
    | sliceN n c => exact .sliceN n c
    | sliceG e => simp [boundB] at hb; exact .sliceG (cut_gb.2 ⟨hb, e⟩)
    | sliceO e hl hc ht => simp [boundB] at hb; exact .sliceO (cut_gb.2 ⟨hb, e⟩) hl hc ht
    | sliceE e hl => simp [boundB] at hb; exact .sliceE (cut_gb.2 ⟨hb, e⟩) hl
    | sliceL e => simp [boundB] at hb; exact .sliceL (cut_lb.2 ⟨hb, e⟩)
    | mapN => exact .mapN
    | nilFunc => exact .nilFunc
    | nilIface => exact .nilIface
    | func hl hh hl2 hh2 =>
      simp only [boundB, Bool.and_eq_true, List.all_eq_true] at hb
      exact .func hl (fun i a b ha hb' => bound_vr d a b (hb.1 a (List.mem_of_getElem? ha)) (hh i a b ha hb')) hl2
        (fun i a b ha hb' => bound_vr d a b (hb.2 a (List.mem_of_getElem? ha)) (hh2 i a b ha hb'))
    | iface hh => simp only [boundB] at hb; exact .iface (bound_vr d _ _ hb hh)
    | agg hl hh =>
      simp only [boundB, List.all_eq_true] at hb
      exact .agg hl (fun i a b ha hb' => bound_vr d a b (hb a (List.mem_of_getElem? ha)) (hh i a b ha hb'))
    | tuple hl hh =>
      simp only [boundB, List.all_eq_true] at hb
      exact .tuple hl (fun i a b ha hb' => bound_vr d a b (hb a (List.mem_of_getElem? ha)) (hh i a b ha hb'))

/-- Operation i comes before operation j in every order. -/
inductive Bef (ops : List Oper) : Nat → Nat → Prop
  | edge {j : Nat} {o : Oper} {e : Edge} (ho : ops[j]? = some o) (he : e ∈ o.after) (hb : Region.binds .any e = true) : Bef ops e.on j
  | step {i j : Nat} {o : Oper} {e : Edge} (ho : ops[j]? = some o) (he : e ∈ o.after) (hb : Region.binds .any e = true) (h : Bef ops i e.on) : Bef ops i j

def Closed (ops : List Oper) (L : Nat → Prop) : Prop := ∀ j o, ops[j]? = some o → L j → ∀ e ∈ o.after, Region.binds .any e = true → L e.on

theorem Bef.closed {ops : List Oper} {L : Nat → Prop} (hL : Closed ops L) {i j : Nat} (h : Bef ops i j) : L j → L i := by
  induction h with
  | edge ho he hb => intro hj; exact hL _ _ ho hj _ he hb
  | step ho he hb _ ih => intro hj; exact ih (hL _ _ ho hj _ he hb)
theorem Bef.ready {ops : List Oper} {L : Nat → Prop} (hL : Closed ops L) {i j : Nat} (h : Bef ops i j) (hj : ∀ o, ops[j]? = some o → ∀ e ∈ o.after, Region.binds .any e = true → L e.on) : L i := by
  cases h with
  | edge ho he hb => exact hj _ ho _ he hb
  | step ho he hb h => exact h.closed hL (hj _ ho _ he hb)

theorem bmRow_bit {j : Nat} {acc : List Nat} {i : Nat} : ∀ (es : List Edge), (bmRow j acc es).testBit i = true →
    ∃ e ∈ es, Region.binds .any e = true ∧ (e.on = i ∨ (e.on < j ∧ (acc.getD (j - 1 - e.on) 0).testBit i = true))
  | [], h => by simp [bmRow] at h
  | e :: es, h => by
    unfold bmRow at h
    cases hb : Region.binds .any e with
    | false =>
      rw [hb] at h
      simp only [cond_false] at h
      obtain ⟨e', h1, h2⟩ := bmRow_bit es h
      exact ⟨e', List.mem_cons_of_mem _ h1, h2⟩
    | true =>
      rw [hb] at h
      simp only [cond_true, Nat.testBit_or, Bool.or_eq_true] at h
      rcases h with (h | h) | h
      · refine ⟨e, List.mem_cons_self, hb, .inl ?_⟩
        simpa using (Nat.testBit_two_pow (n := e.on) (m := i)).symm.trans h
      · refine ⟨e, List.mem_cons_self, hb, .inr ?_⟩
        cases hlt : Nat.blt e.on j with
        | false => rw [hlt] at h; simp at h
        | true => rw [hlt] at h; exact ⟨by simpa using hlt, h⟩
      · obtain ⟨e', h1, h2⟩ := bmRow_bit es h
        exact ⟨e', List.mem_cons_of_mem _ h1, h2⟩

theorem bmGo_bit {ops : List Oper} : ∀ (l : List Oper) (j : Nat) (acc : List Nat), (∀ k, l[k]? = ops[j + k]?) → acc.length = j →
    (∀ i' i, i' < j → (acc.getD (j - 1 - i') 0).testBit i = true → Bef ops i i') →
    ∀ i' i, i' < j + l.length → ((bmGo l j acc).getD (j + l.length - 1 - i') 0).testBit i = true → Bef ops i i'
  | [], j, acc, _, _, hacc => fun i' i hi h => hacc i' i (by simpa using hi) (by simpa [bmGo] using h)
  | o :: rest, j, acc, hl, hlen, hacc => fun i' i hi h => by
    have h0 : ops[j]? = some o := by simpa using (hl 0).symm
    simp only [bmGo, fNat_eq, List.length_cons] at h hi
    refine bmGo_bit rest (j + 1) (bmRow j acc o.after.toList :: acc) (fun k => ?_) (by simp [hlen]) ?_ i' i (by omega) ?_
    · have := hl (k + 1)
      simp only [List.getElem?_cons_succ] at this
      rw [this]; congr 1; omega
    · intro i' i hi' hb
      by_cases hij : i' = j
      · subst hij
        have e0 : i' + 1 - 1 - i' = 0 := by omega
        rw [e0, List.getD_cons_zero] at hb
        obtain ⟨e, he, hbind, h1 | ⟨h1, h2⟩⟩ := bmRow_bit _ hb
        · subst h1; exact .edge h0 (by simpa using he) hbind
        · exact .step h0 (by simpa using he) hbind (hacc _ _ h1 h2)
      · have e1 : j + 1 - 1 - i' = (j - 1 - i') + 1 := by omega
        rw [e1, List.getD_cons_succ] at hb
        exact hacc i' i (by omega) hb
    · have e2 : j + 1 + rest.length - 1 - i' = j + (rest.length + 1) - 1 - i' := by omega
      rw [e2]; exact h

theorem bmGo_length : ∀ (l : List Oper) (j : Nat) (acc : List Nat), (bmGo l j acc).length = l.length + acc.length
  | [], _, _ => by simp [bmGo]
  | o :: rest, j, acc => by simp [bmGo, fNat_eq, bmGo_length rest]; omega

theorem bms_bit {ops : List Oper} {j i x : Nat} (h : (bms ops)[j]? = some x) (hb : x.testBit i = true) : Bef ops i j := by
  have hlen : (bmGo ops 0 []).length = ops.length := by rw [bmGo_length]; simp
  have hj : j < ops.length := by
    have := (List.getElem?_eq_some_iff.1 h).1
    simpa [bms, hlen] using this
  refine bmGo_bit ops 0 [] (fun k => by simp) rfl (fun i' i hi => by omega) j i (by simpa using hj) ?_
  unfold bms at h
  rw [List.getElem?_reverse (by omega)] at h
  have e : 0 + ops.length - 1 - j = (bmGo ops 0 []).length - 1 - j := by omega
  rw [List.getD_eq_getElem?_getD, e, h]
  exact hb
theorem bms_at {ops : List Oper} {j : Nat} (hj : j < ops.length) : ∃ x, (bms ops)[j]? = some x := by
  have hlen : (bms ops).length = ops.length := by simp [bms, bmGo_length]
  exact ⟨_, List.getElem?_eq_getElem (by omega)⟩

theorem pairsFrom_spec {A : Array Oper} : ∀ (l : List (Oper × Nat)) (k : Nat), pairsFrom A k l = true → ∀ (i j : Nat) (x y : Oper × Nat), i < j → l[i]? = some x → l[j]? = some y → pairOk A (x.1, k + i) y = true
  | [], _, _, i, j, x, y, _, hi, _ => by simp at hi
  | z :: l, k, h, i, j, x, y, hij, hi, hj => by
    simp only [pairsFrom, Bool.and_eq_true, List.all_eq_true] at h
    cases i with
    | zero =>
      simp at hi; subst hi
      cases j with
      | zero => omega
      | succ j =>
        simp only [List.getElem?_cons_succ] at hj
        exact h.1 y (List.mem_of_getElem? hj)
    | succ i =>
      cases j with
      | zero => omega
      | succ j =>
        simp only [List.getElem?_cons_succ] at hi hj
        have := pairsFrom_spec l (k + 1) h.2 i j x y (by omega) hi hj
        rw [show k + (i + 1) = k + 1 + i by omega]
        exact this

/-- What the static check says. -/
structure Sta (ops : List Oper) : Prop where
  back : ∀ j o, ops[j]? = some o → ∀ e ∈ o.after, Region.binds .any e = true → e.on < j
  sel : ∀ (j : Nat) (o : Oper) cs b, ops[j]? = some o → o.op ≠ .select cs b
  pair : ∀ i j x y, i < j → ops[i]? = some x → ops[j]? = some y → Bef ops i j ∨ (¬ (isEff x = true ∧ isEff y = true) ∧ x.apart ops.toArray y = true)

theorem static_spec {ops : List Oper} (h : staticOk ops = true) : Sta ops := by
  simp only [staticOk, Bool.and_eq_true] at h
  obtain ⟨⟨h1, h2⟩, h3⟩ := h
  refine ⟨fun j o ho e he hb => ?_, fun j o cs b ho hs => ?_, fun i j x y hij hx hy => ?_⟩
  · rw [List.all_eq_true] at h1
    have := h1 (o, j) (by rw [List.mem_zipIdx_iff_getElem?]; simpa using ho)
    simp only [List.all_eq_true] at this
    have := this e (by simpa using he)
    rw [hb] at this
    simpa using this
  · rw [List.all_eq_true] at h2
    have := h2 o (List.mem_of_getElem? ho)
    rw [hs] at this
    simp at this
  · have hji : j < ops.length := (List.getElem?_eq_some_iff.1 hy).1
    obtain ⟨bi, hbi⟩ := bms_at (ops := ops) (j := i) (by omega)
    obtain ⟨bj, hbj⟩ := bms_at (ops := ops) (j := j) hji
    have := pairsFrom_spec _ 0 h3 i j (x, bi) (y, bj) hij (by rw [List.getElem?_zip_eq_some]; exact ⟨hx, hbi⟩) (by rw [List.getElem?_zip_eq_some]; exact ⟨hy, hbj⟩)
    simp only [pairOk, Nat.zero_add, Bool.or_eq_true, Bool.and_eq_true, Bool.not_eq_true'] at this
    rcases this with h | ⟨h, h'⟩
    · exact .inl (bms_bit hbj h)
    · refine .inr ⟨fun ⟨e1, e2⟩ => ?_, h'⟩
      rw [e1, e2] at h; simp at h

theorem dyn_spec {ops : List Oper} {fps : List Fp} (h : dynOk (confOf ops) fps = true) {i j : Nat} {x y : Oper} (hx : ops[i]? = some x) (hy : ops[j]? = some y) (ex : isEff x = true) (ly : isLoad y = true)
    (n1 : ¬ Bef ops i j) (n2 : ¬ Bef ops j i) {p q : Fp} (hp : fps[i]? = some p) (hq : fps[j]? = some q) : (∀ b, b ∈ q.rg → b ∉ p.wg) ∧ (∀ b, b ∈ q.rl → b ∉ p.wl) ∧ (j < i → q.bd = true) := by
  have hil : i < ops.length := (List.getElem?_eq_some_iff.1 hx).1
  have hjl : j < ops.length := (List.getElem?_eq_some_iff.1 hy).1
  obtain ⟨bi, hbi⟩ := bms_at (ops := ops) hil
  obtain ⟨bj, hbj⟩ := bms_at (ops := ops) hjl
  have m1 : bi.testBit j = false := by
    cases hb : bi.testBit j with
    | false => rfl
    | true => exact absurd (bms_bit hbi hb) n2
  have m2 : bj.testBit i = false := by
    cases hb : bj.testBit i with
    | false => rfl
    | true => exact absurd (bms_bit hbj hb) n1
  have hmem : (i, j) ∈ confOf ops := by
    unfold confOf
    rw [List.mem_flatMap]
    refine ⟨((x, bi), i), ?_, ?_⟩
    · rw [List.mem_zipIdx_iff_getElem?, List.getElem?_zip_eq_some]; exact ⟨hx, hbi⟩
    · rw [List.mem_filterMap]
      refine ⟨((y, bj), j), ?_, ?_⟩
      · rw [List.mem_zipIdx_iff_getElem?, List.getElem?_zip_eq_some]; exact ⟨hy, hbj⟩
      · simp [ex, ly, m1, m2]
  unfold dynOk at h
  rw [List.all_eq_true] at h
  have := h _ hmem
  simp only [hp, hq, Bool.and_eq_true, Bool.not_eq_true', Bool.or_eq_true] at this
  obtain ⟨⟨h1, h2⟩, h3⟩ := this
  unfold meets at h1 h2
  rw [List.any_eq_false] at h1 h2
  refine ⟨fun b hb hm => h1 b hb (by simpa using hm), fun b hb hm => h2 b hb (by simpa using hm), fun hji => ?_⟩
  rcases h3 with h3 | h3
  · have : i < j := by simpa using h3
    omega
  · exact h3

end Go.Am
