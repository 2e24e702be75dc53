/-
  Drawn regions: what holds whichever of the operations have come up.
-/
import Derived.Test.YthbfmjlcnfgnbaaGreatAmM
namespace Go.Am

/-- The map at a moment of the text's run. -/
def cutAt (m : Mp) (S : Nat → St) (k : Nat) : Mp := m.cut (S k).H.length (S k).loc.length

structure Inv (ops : List Oper) (S : Nat → St) (m0 : Mp) (H0 : Hp) (w0 : World) (L : Nat → Prop) (pe : Nat) (m : Mp) (a : Act) (w : World) : Prop where
  pel : pe ≤ ops.length
  effs : ∀ e o, ops[e]? = some o → isEff o = true → (L e ↔ e < pe)
  ext : Ext m0 H0 [] w0 (cutAt m S pe) (S pe).H (S pe).loc w (S pe).wg []
  dom : ∀ i g, m.gb i = some g → i < (S 0).H.length ∨ ∃ c, c < ops.length ∧ L c ∧ (S c).H.length ≤ i ∧ i < (S (c + 1)).H.length
  doml : ∀ i g, m.lb i = some g → i < (S 0).loc.length ∨ ∃ c, c < ops.length ∧ L c ∧ (S c).loc.length ≤ i ∧ i < (S (c + 1)).loc.length
  flG : ∀ c i g, pe ≤ c → c < ops.length → (S c).H.length ≤ i → i < (S (c + 1)).H.length → m.gb i = some g →
    g < w.heap.size ∧ w0.heap.size ≤ g ∧ (∃ b, (S (c + 1)).H[i]? = some b ∧ GR (cutAt m S (c + 1)) i g b w) ∧ (∀ j, m.gb j = some g → j = i) ∧ (∀ j, m.lb j ≠ some g)
  flL : ∀ c i g, pe ≤ c → c < ops.length → (S c).loc.length ≤ i → i < (S (c + 1)).loc.length → m.lb i = some g →
    g < w.heap.size ∧ w0.heap.size ≤ g ∧ (∃ b, (S (c + 1)).loc[i]? = some b ∧ LR (cutAt m S (c + 1)) g b w) ∧ (∀ j, m.lb j = some g → j = i) ∧ (∀ j, m.gb j ≠ some g)
  late : ∀ c, c < pe → ¬ L c → ∀ i, (S c).H.length ≤ i → i < (S (c + 1)).H.length → (S pe).H[i]? = (S (c + 1)).H[i]?
  latel : ∀ c, c < pe → ¬ L c → ∀ i, (S c).loc.length ≤ i → i < (S (c + 1)).loc.length → (S pe).loc[i]? = (S (c + 1)).loc[i]?
  fr : ∀ (t : Nat) v', a.tmps[t]? = some v' → ∃ j v, j ≤ ops.length ∧ (S j).fr[t]? = some v ∧ VR (cutAt m S j) v v' ∧ (∀ c o, ops[c]? = some o → L c → o.dst = some t → c < j) ∧
    (j = 0 ∨ ∃ c o, j = c + 1 ∧ ops[c]? = some o ∧ L c ∧ o.dst = some t)
  frl : a.tmps.size = (S 0).fr.length
  df : a.defers = []

section
variable {ops : List Oper} {S : Nat → St} {F : Nat → Fp} {m0 : Mp} {H0 : Hp} {w0 : World} {L : Nat → Prop} {pe : Nat} {m : Mp} {a : Act} {w : World}

theorem cutAt_gb {k i g : Nat} : (cutAt m S k).gb i = some g ↔ i < (S k).H.length ∧ m.gb i = some g := cut_gb
theorem cutAt_lb {k i g : Nat} : (cutAt m S k).lb i = some g ↔ i < (S k).loc.length ∧ m.lb i = some g := cut_lb
theorem Run.cutAt_mono (hr : Run ops S F) {j k : Nat} (hjk : j ≤ k) (hk : k ≤ ops.length) : Le (cutAt m S j) (cutAt m S k) := cut_mono m (hr.monoG hjk hk) (hr.monoL hjk hk)
theorem Le.cutAt {m' : Mp} (h : Le m m') (k : Nat) : Le (cutAt m S k) (cutAt m' S k) := h.cut _ _

/-- Whoever made a block is one. -/
theorem Run.makerG (hr : Run ops S F) {c d i : Nat} (hc : c < ops.length) (hd : d < ops.length) (c1 : (S c).H.length ≤ i) (c2 : i < (S (c + 1)).H.length) (d1 : (S d).H.length ≤ i) (d2 : i < (S (d + 1)).H.length) : c = d := by
  rcases Nat.lt_trichotomy c d with h | h | h
  · have := hr.monoG (j := c + 1) (k := d) (by omega) (by omega); omega
  · exact h
  · have := hr.monoG (j := d + 1) (k := c) (by omega) (by omega); omega
theorem Run.makerL (hr : Run ops S F) {c d i : Nat} (hc : c < ops.length) (hd : d < ops.length) (c1 : (S c).loc.length ≤ i) (c2 : i < (S (c + 1)).loc.length) (d1 : (S d).loc.length ≤ i) (d2 : i < (S (d + 1)).loc.length) : c = d := by
  rcases Nat.lt_trichotomy c d with h | h | h
  · have := hr.monoL (j := c + 1) (k := d) (by omega) (by omega); omega
  · exact h
  · have := hr.monoL (j := d + 1) (k := c) (by omega) (by omega); omega

/-- The blocks of one that has not come up lie nowhere. -/
theorem Inv.noneG (hr : Run ops S F) (hI : Inv ops S m0 H0 w0 L pe m a w) {k i : Nat} (hk : k < ops.length) (hnot : ¬ L k) (h1 : (S k).H.length ≤ i) (h2 : i < (S (k + 1)).H.length) : m.gb i = none := by
  cases e : m.gb i with
  | none => rfl
  | some g =>
    rcases hI.dom i g e with h | ⟨c, hc, hl, c1, c2⟩
    · have := hr.monoG (j := 0) (k := k) (by omega) (by omega); omega
    · have := hr.makerG hc hk c1 c2 h1 h2
      subst this; exact absurd hl hnot
theorem Inv.noneL (hr : Run ops S F) (hI : Inv ops S m0 H0 w0 L pe m a w) {k i : Nat} (hk : k < ops.length) (hnot : ¬ L k) (h1 : (S k).loc.length ≤ i) (h2 : i < (S (k + 1)).loc.length) : m.lb i = none := by
  cases e : m.lb i with
  | none => rfl
  | some g =>
    rcases hI.doml i g e with h | ⟨c, hc, hl, c1, c2⟩
    · have := hr.monoL (j := 0) (k := k) (by omega) (by omega); omega
    · have := hr.makerL hc hk c1 c2 h1 h2
      subst this; exact absurd hl hnot

/-- A mapped block is either there at the moment pe, or made by one that came up early. -/
theorem Inv.whereG (hr : Run ops S F) (hI : Inv ops S m0 H0 w0 L pe m a w) {i g : Nat} (e : m.gb i = some g) : i < (S pe).H.length ∨ ∃ c, pe ≤ c ∧ c < ops.length ∧ (S c).H.length ≤ i ∧ i < (S (c + 1)).H.length := by
  rcases hI.dom i g e with h | ⟨c, hc, hl, c1, c2⟩
  · exact .inl (Nat.lt_of_lt_of_le h (hr.monoG (by omega) hI.pel))
  · by_cases h : pe ≤ c
    · exact .inr ⟨c, h, hc, c1, c2⟩
    · exact .inl (Nat.lt_of_lt_of_le c2 (hr.monoG (by omega) hI.pel))
theorem Inv.whereL (hr : Run ops S F) (hI : Inv ops S m0 H0 w0 L pe m a w) {i g : Nat} (e : m.lb i = some g) : i < (S pe).loc.length ∨ ∃ c, pe ≤ c ∧ c < ops.length ∧ (S c).loc.length ≤ i ∧ i < (S (c + 1)).loc.length := by
  rcases hI.doml i g e with h | ⟨c, hc, hl, c1, c2⟩
  · exact .inl (Nat.lt_of_lt_of_le h (hr.monoL (by omega) hI.pel))
  · by_cases h : pe ≤ c
    · exact .inr ⟨c, h, hc, c1, c2⟩
    · exact .inl (Nat.lt_of_lt_of_le c2 (hr.monoL (by omega) hI.pel))
theorem Inv.ltG (hr : Run ops S F) (hI : Inv ops S m0 H0 w0 L pe m a w) {i g : Nat} (e : m.gb i = some g) : g < w.heap.size := by
  rcases hI.whereG hr e with h | ⟨c, h1, h2, h3, h4⟩
  · exact (hI.ext.rel.glob i g (cutAt_gb.2 ⟨h, e⟩)).1
  · exact (hI.flG c i g h1 h2 h3 h4 e).1
theorem Inv.ltL (hr : Run ops S F) (hI : Inv ops S m0 H0 w0 L pe m a w) {i g : Nat} (e : m.lb i = some g) : g < w.heap.size := by
  rcases hI.whereL hr e with h | ⟨c, h1, h2, h3, h4⟩
  · exact (hI.ext.rel.locs i g (cutAt_lb.2 ⟨h, e⟩)).1
  · exact (hI.flL c i g h1 h2 h3 h4 e).1

theorem Inv.esz (hr : Run ops S F) (hI : Inv ops S m0 H0 w0 L pe m a w) {k : Nat} (hk : k ≤ ops.length) : EszR (cutAt m S k) (S k).H := by
  intro i g b hi hb
  have e := (cutAt_gb.1 hi).2
  rcases hI.whereG hr e with h | ⟨c, h1, h2, h3, h4⟩
  · obtain ⟨_, b0, hb0, hG⟩ := hI.ext.rel.glob i g (cutAt_gb.2 ⟨h, e⟩)
    have := hr.same hI.pel hk hb0 hb
    exact ⟨hG.ez.trans this.1.symm, hG.lo.trans this.2.symm⟩
  · obtain ⟨_, _, ⟨b0, hb0, hG⟩, _⟩ := hI.flG c i g h1 h2 h3 h4 e
    have := hr.same (by omega) hk hb0 hb
    exact ⟨hG.ez.trans this.1.symm, hG.lo.trans this.2.symm⟩

/-- The moment moves past one that does not act. -/
theorem Inv.shift1 (hr : Run ops S F) (hI : Inv ops S m0 H0 w0 L pe m a w) {o : Oper} (ho : ops[pe]? = some o) (hq : isEff o = false) : Inv ops S m0 H0 w0 L (pe + 1) m a w := by
  have hlt : pe < ops.length := (List.getElem?_eq_some_iff.1 ho).1
  have hp := hr.pur hlt
  have hqu := hr.quiet pe o ho hq
  rw [hqu.1, hqu.2] at hp
  have hwg : (S (pe + 1)).wg = (S pe).wg := by have := (hr.sp pe o ho).wg; rw [hqu.1] at this; simpa using this
  refine ⟨hlt, fun e o' ho' he => ?_, ?_, hI.dom, hI.doml, fun c i g h1 => hI.flG c i g (by omega), fun c i g h1 => hI.flL c i g (by omega), fun c hc hn i h1 h2 => ?_, fun c hc hn i h1 h2 => ?_, hI.fr, hI.frl, hI.df⟩
  · rw [hI.effs e o' ho' he]
    constructor
    · intro h; omega
    · intro h
      by_cases he' : e = pe
      · subst he'; rw [ho] at ho'; injection ho' with ho'; subst ho'; rw [hq] at he; cases he
      · omega
  · rw [hwg]
    refine ext_more hI.ext (hr.cutAt_mono (by omega) hlt) (fun i hi => hp.mod i hi (by simp)) hp.len (fun i hi => hp.modl i hi (by simp)) hp.lenl (fun _ _ => rfl) (Nat.le_refl _) rfl rfl rfl (fun i g e => ?_) (fun i g e => ?_)
    · obtain ⟨e1, e2⟩ := cutAt_gb.1 e
      by_cases hi : i < (S pe).H.length
      · exact .inl (cutAt_gb.2 ⟨hi, e2⟩)
      · obtain ⟨f1, f2, f3, f4, f5⟩ := hI.flG pe i g (Nat.le_refl _) hlt (by omega) e1 e2
        exact .inr ⟨Nat.le_trans hI.ext.len (by omega), e1, f1, f2, f3, fun j ej => f4 j (cutAt_gb.1 ej).2, fun j ej => f5 j (cutAt_lb.1 ej).2⟩
    · obtain ⟨e1, e2⟩ := cutAt_lb.1 e
      by_cases hi : i < (S pe).loc.length
      · exact .inl (cutAt_lb.2 ⟨hi, e2⟩)
      · obtain ⟨f1, f2, f3, f4, f5⟩ := hI.flL pe i g (Nat.le_refl _) hlt (by omega) e1 e2
        exact .inr ⟨e1, f1, f2, f3, fun j ej => f4 j (cutAt_lb.1 ej).2, fun j ej => f5 j (cutAt_gb.1 ej).2⟩
  · by_cases hcp : c = pe
    · subst hcp; rfl
    · have hi : i < (S pe).H.length := Nat.lt_of_lt_of_le h2 (hr.monoG (by omega) hI.pel)
      exact (hp.mod i hi (by simp)).trans (hI.late c (by omega) hn i h1 h2)
  · by_cases hcp : c = pe
    · subst hcp; rfl
    · have hi : i < (S pe).loc.length := Nat.lt_of_lt_of_le h2 (hr.monoL (by omega) hI.pel)
      exact (hp.modl i hi (by simp)).trans (hI.latel c (by omega) hn i h1 h2)

theorem Inv.shift (hr : Run ops S F) : ∀ (d : Nat) {pe : Nat}, Inv ops S m0 H0 w0 L pe m a w → pe + d ≤ ops.length → (∀ e o, pe ≤ e → e < pe + d → ops[e]? = some o → isEff o = false) → Inv ops S m0 H0 w0 L (pe + d) m a w
  | 0, _, hI, _, _ => hI
  | d + 1, pe, hI, hd, hn => by
    have h1 := hI.shift1 hr (List.getElem?_eq_getElem (show pe < ops.length by omega)) (hn pe _ (Nat.le_refl _) (by omega) (List.getElem?_eq_getElem (by omega)))
    have := Inv.shift hr d h1 (by omega) (fun e o h1 h2 => hn e o (by omega) (by omega))
    rw [show pe + (d + 1) = pe + 1 + d by omega]
    exact this

/-- What a slot holds for one that may come up. -/
theorem Inv.read (hr : Run ops S F) (hs : Sta ops) (hI : Inv ops S m0 H0 w0 L pe m a w) (hcl : Closed ops L) {k : Nat} {o : Oper} (ho : ops[k]? = some o) (hnot : ¬ L k)
    (hrd : ∀ e ∈ o.after, Region.binds .any e = true → L e.on) {t : Nat} (ht : t ∈ o.looksAt ops.toArray) {v' : Value} (hv : a.tmps[t]? = some v') :
    ∃ v, (S k).fr[t]? = some v ∧ VR (cutAt m S k) v v' := by
  have hk : k < ops.length := (List.getElem?_eq_some_iff.1 ho).1
  have hrd' : ∀ o', ops[k]? = some o' → ∀ e ∈ o'.after, Region.binds .any e = true → L e.on := fun o' ho' => by
    rw [ho] at ho'; injection ho' with ho'; subst ho'; exact hrd
  obtain ⟨j, v, hj, e1, e2, e3, e4⟩ := hI.fr t v' hv
  by_cases hjk : j ≤ k
  · refine ⟨v, ?_, e2.mono (hr.cutAt_mono hjk (by omega))⟩
    rw [hr.keepF (j := j) hjk (by omega) (fun c o' hc1 hc2 ho' hd => ?_)]
    · exact e1
    · rcases hs.pair c k o' o hc2 ho' ho with hb | ⟨_, hap⟩
      · have := e3 c o' ho' (hb.ready hcl hrd') hd; omega
      · exact (Oper.apart_spec hap).1 t hd ht
  · rcases e4 with rfl | ⟨c, o', rfl, ho', hLc, hd⟩
    · omega
    · have hck : c ≠ k := fun e => hnot (e ▸ hLc)
      rcases hs.pair k c o o' (by omega) ho ho' with hb | ⟨_, hap⟩
      · exact absurd (hb.closed hcl hLc) hnot
      · exact absurd ht ((Oper.apart_spec hap).2.2 t hd)

theorem Inv.readD (hr : Run ops S F) (hs : Sta ops) (hI : Inv ops S m0 H0 w0 L pe m a w) (hcl : Closed ops L) {k : Nat} {o : Oper} (ho : ops[k]? = some o) (hnot : ¬ L k)
    (hrd : ∀ e ∈ o.after, Region.binds .any e = true → L e.on) {t : Nat} (ht : t ∈ o.looksAt ops.toArray) : VR (cutAt m S k) ((S k).fr.getD t undef) (a.tmps.getD t undef) := by
  have hk : k < ops.length := (List.getElem?_eq_some_iff.1 ho).1
  cases hv : a.tmps[t]? with
  | some v' =>
    obtain ⟨v, h1, h2⟩ := hI.read hr hs hcl ho hnot hrd ht hv
    rw [List.getD_eq_getElem?_getD, h1, Array.getD_eq_getD_getElem?, hv]
    exact h2
  | none =>
    have h1 : a.tmps.size ≤ t := by simpa using hv
    have h2 : (S k).fr[t]? = none := by
      rw [List.getElem?_eq_none]
      rw [hr.frl (by omega), ← hI.frl]; exact h1
    rw [List.getD_eq_getElem?_getD, h2, Array.getD_eq_getD_getElem?, hv]
    exact VR.undef _

theorem Inv.opR (hr : Run ops S F) (hs : Sta ops) (hc : constsOk ops = true) (hI : Inv ops S m0 H0 w0 L pe m a w) (hcl : Closed ops L) {k : Nat} {o : Oper} (ho : ops[k]? = some o) (hnot : ¬ L k)
    (hrd : ∀ e ∈ o.after, Region.binds .any e = true → L e.on) : OpR (cutAt m S k) (evalO (S k).fr) a.eval o := by
  intro x hx
  have hx' : operandOk x = true := by
    unfold constsOk at hc
    rw [List.all_eq_true] at hc
    have := hc o (List.mem_of_getElem? ho)
    rw [List.all_eq_true] at this
    exact this x (by simpa using hx)
  cases x with
  | tmp t =>
    have ht : t ∈ o.looksAt ops.toArray := List.mem_append_left _ (List.mem_filterMap.2 ⟨.tmp t, by simpa using hx, rfl⟩)
    exact hI.readD hr hs hcl ho hnot hrd ht
  | const v => exact plain_vr _ 4 v hx'
  | global g => cases hx'
  | func f => exact .func rfl (fun i v v' h => by simp at h) rfl (fun i v v' h => by simp at h)

theorem Inv.wanted (hr : Run ops S F) (hs : Sta ops) (hI : Inv ops S m0 H0 w0 L pe m a w) (hcl : Closed ops L) {k : Nat} {o : Oper} (ho : ops[k]? = some o) (hnot : ¬ L k)
    (hrd : ∀ e ∈ o.after, Region.binds .any e = true → L e.on) : Region.wanted o (yielded ops.toArray a.tmps) = wantedA ops (S k).fr o := by
  have hk : k < ops.length := (List.getElem?_eq_some_iff.1 ho).1
  unfold Region.wanted wantedA
  cases hg : o.guard with
  | none => rfl
  | some jw =>
    obtain ⟨j, want⟩ := jw
    simp only [yielded, List.getElem?_toArray]
    cases hd : (ops[j]?).bind (·.dst) with
    | none => simp
    | some t =>
      simp only [Option.bind_some]
      have ht : t ∈ o.looksAt ops.toArray := by
        unfold Oper.looksAt
        rw [hg]
        refine List.mem_append_right _ ?_
        simp [hd]
      cases hv : a.tmps[t]? with
      | none =>
        have h1 : a.tmps.size ≤ t := by simpa using hv
        have h2 : (S k).fr[t]? = none := by
          rw [List.getElem?_eq_none]
          rw [hr.frl (by omega), ← hI.frl]; exact h1
        simp [h2]
      | some v' =>
        obtain ⟨v, h1, h2⟩ := hI.read hr hs hcl ho hnot hrd ht hv
        rw [h1]
        cases h2 <;> simp

/-- A slot is written by the one that comes up. -/
theorem Inv.slots (hr : Run ops S F) (hs : Sta ops) (hI : Inv ops S m0 H0 w0 L pe m a w) (hcl : Closed ops L) {k : Nat} {o : Oper} (ho : ops[k]? = some o) (hnot : ¬ L k) {m' : Mp} (hle : Le m m') {v v' : Value}
    (hfr : (S (k + 1)).fr = putF (S k).fr o.dst v) (hv : VR (cutAt m' S (k + 1)) v v') :
    ∀ (t : Nat) u', (a.put o.dst v').tmps[t]? = some u' → ∃ j u, j ≤ ops.length ∧ (S j).fr[t]? = some u ∧ VR (cutAt m' S j) u u' ∧ (∀ c o', ops[c]? = some o' → (L c ∨ c = k) → o'.dst = some t → c < j) ∧
      (j = 0 ∨ ∃ c o', j = c + 1 ∧ ops[c]? = some o' ∧ (L c ∨ c = k) ∧ o'.dst = some t) := by
  have hk : k < ops.length := (List.getElem?_eq_some_iff.1 ho).1
  intro t u' hu
  by_cases hd : o.dst = some t
  · have hts : t < a.tmps.size := by
      have := (Array.getElem?_eq_some_iff.1 hu).1
      rw [hd] at this
      simpa [Act.put] using this
    have hu' : u' = v' := by
      rw [hd] at hu
      simp only [Act.put] at hu
      rw [Array.getElem?_setIfInBounds_self_of_lt hts] at hu
      injection hu with hu; exact hu.symm
    subst hu'
    refine ⟨k + 1, v, hk, ?_, hv, fun c o' ho' hc hd' => ?_, .inr ⟨k, o, rfl, ho, .inr rfl, hd⟩⟩
    · rw [hfr, hd]
      simp only [putF]
      rw [List.getElem?_set_self]
      rw [hr.frl (by omega), ← hI.frl]; exact hts
    · rcases hc with hc | hc
      · by_cases hck : c ≤ k
        · omega
        · rcases hs.pair k c o o' (by omega) ho ho' with hb | ⟨_, hap⟩
          · exact absurd (hb.closed hcl hc) hnot
          · exact absurd hd' ((Oper.apart_spec hap).2.1 t hd)
      · omega
  · have hu2 : a.tmps[t]? = some u' := by
      cases hdd : o.dst with
      | none => rw [hdd] at hu; exact hu
      | some d =>
        rw [hdd] at hu hd
        simp only [Act.put] at hu
        rwa [Array.getElem?_setIfInBounds_ne (fun e => hd (by rw [e]))] at hu
    obtain ⟨j, u, h1, h2, h3, h4, h5⟩ := hI.fr t u' hu2
    refine ⟨j, u, h1, h2, h3.mono (hle.cutAt j), fun c o' ho' hc hd' => ?_, ?_⟩
    · rcases hc with hc | hc
      · exact h4 c o' ho' hc hd'
      · subst hc; rw [ho] at ho'; injection ho' with ho'; subst ho'; exact absurd hd' hd
    · rcases h5 with h5 | ⟨c, o', e1, e2, e3, e4⟩
      · exact .inl h5
      · exact .inr ⟨c, o', e1, e2, .inl e3, e4⟩

theorem put_size (a : Act) (d : Option Tmp) (v : Value) : (a.put d v).tmps.size = a.tmps.size := by cases d <;> simp [Act.put]
theorem put_df (a : Act) (d : Option Tmp) (v : Value) : (a.put d v).defers = a.defers := by cases d <;> rfl

/-- One that neither acts nor makes a block comes up. -/
theorem Inv.calm (hr : Run ops S F) (hs : Sta ops) (hI : Inv ops S m0 H0 w0 L pe m a w) (hcl : Closed ops L) {k : Nat} {o : Oper} (ho : ops[k]? = some o) (hnot : ¬ L k) (hq : isEff o = false) {v v' : Value}
    (hfr : (S (k + 1)).fr = putF (S k).fr o.dst v) (hv : VR (cutAt m S (k + 1)) v v') : Inv ops S m0 H0 w0 (fun c => L c ∨ c = k) pe m (a.put o.dst v') w := by
  refine ⟨hI.pel, fun e o' ho' he => ?_, hI.ext, fun i g e => ?_, fun i g e => ?_, hI.flG, hI.flL, fun c hc hn => hI.late c hc (fun h => hn (.inl h)), fun c hc hn => hI.latel c hc (fun h => hn (.inl h)),
    hI.slots hr hs hcl ho hnot (Le.refl m) hfr hv, by rw [put_size]; exact hI.frl, by rw [put_df]; exact hI.df⟩
  · rw [← hI.effs e o' ho' he]
    constructor
    · rintro (h | h)
      · exact h
      · subst h; rw [ho] at ho'; injection ho' with ho'; subst ho'; rw [hq] at he; cases he
    · exact .inl
  · rcases hI.dom i g e with h | ⟨c, h1, h2, h3⟩
    · exact .inl h
    · exact .inr ⟨c, h1, .inl h2, h3⟩
  · rcases hI.doml i g e with h | ⟨c, h1, h2, h3⟩
    · exact .inl h
    · exact .inr ⟨c, h1, .inl h2, h3⟩

end
end Go.Am
