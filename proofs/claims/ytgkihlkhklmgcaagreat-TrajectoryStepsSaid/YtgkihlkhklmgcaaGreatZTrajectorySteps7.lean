/-
  Texts put together: AmO AmP AmQ.
-/
import Derived.Test.YtgkihlkhklmgcaaGreatZTrajectorySteps6
set_option linter.unusedVariables false
section
/-
  Drawn regions: one after the other comes up, in whatever order.
-/
namespace Go.Am
section
variable {P : Program} {ops : List Oper} {S : Nat → St} {F : Nat → Fp} {m0 : Mp} {H0 : Hp} {w0 : World} {L : Nat → Prop} {pe : Nat} {m : Mp} {a : Act} {w : World}

theorem addG_inv {i g : Nat} {lo : Bool} {ez tt j g' : Nat} (e : (m.addG i g lo ez tt).gb j = some g') : m.gb j = some g' ∨ (j = i ∧ g' = g) := by
  simp only [Mp.addG] at e
  by_cases h : j = i
  · simp [h] at e; exact .inr ⟨h, e.symm⟩
  · simp [h] at e; exact .inl e
theorem addL_inv {i g j g' : Nat} (e : (m.addL i g).lb j = some g') : m.lb j = some g' ∨ (j = i ∧ g' = g) := by
  simp only [Mp.addL] at e
  by_cases h : j = i
  · simp [h] at e; exact .inr ⟨h, e.symm⟩
  · simp [h] at e; exact .inl e

theorem size_alloc' (w : World) (o : Obj) : (w.alloc o).heap.size = w.heap.size + 1 := World.size_alloc ..

theorem Inv.grG (hr : Run ops S F) (hI : Inv ops S m0 H0 w0 L pe m a w) {k : Nat} (hk : k < ops.length) (hnot : ¬ L k) {b : Blk} {cs : Array Value}
    (hH : (S (k + 1)).H = (S k).H ++ [b]) (hc : VRs (cutAt m S k).noL b.cells cs.toList) (hlo : b.loose = false) (hlv : b.live = true) :
    GR (cutAt (m.addG (S k).H.length w.heap.size b.loose b.esz cs.size) S (k + 1)) (S k).H.length w.heap.size b (w.alloc (.cells cs b.elem)) := by
  have hlen : (S (k + 1)).H.length = (S k).H.length + 1 := by rw [hH]; simp
  have hnone : m.gb (S k).H.length = none := hI.noneG hr hk hnot (Nat.le_refl _) (by omega)
  have hle : Le m (m.addG (S k).H.length w.heap.size b.loose b.esz cs.size) := le_addG hnone
  have hcl : b.cells.length = cs.size := by simpa using hc.1
  refine ⟨by simp [cutAt, Mp.cut, Mp.addG], by simp [cutAt, Mp.cut, Mp.addG], fun _ => ⟨cs, heap_alloc_new w _, by omega, ?_, fun _ => hcl.symm, fun e => by rw [hlo] at e; cases e⟩, fun e => by rw [hlv] at e; cases e⟩
  rw [hcl, show cs.size = cs.toList.length by simp, List.take_length]
  exact hc.mono ((hle.cutAt k).trans (hr.cutAt_mono (by omega) hk)).noL

theorem Inv.makeG (hr : Run ops S F) (hs : Sta ops) (hI : Inv ops S m0 H0 w0 L pe m a w) (h0 : H0.length ≤ (S 0).H.length) (hcl : Closed ops L) {k : Nat} {o : Oper} (ho : ops[k]? = some o) (hnot : ¬ L k) (hq : isEff o = false) {b : Blk} {obj : Obj} {tt : Nat}
    (hH : (S (k + 1)).H = (S k).H ++ [b]) (hl : (S (k + 1)).loc = (S k).loc) (hGR : GR (cutAt (m.addG (S k).H.length w.heap.size b.loose b.esz tt) S (k + 1)) (S k).H.length w.heap.size b (w.alloc obj)) {v v' : Value}
    (hfr : (S (k + 1)).fr = putF (S k).fr o.dst v) (hv : VR (cutAt (m.addG (S k).H.length w.heap.size b.loose b.esz tt) S (k + 1)) v v') :
    Inv ops S m0 H0 w0 (fun c => L c ∨ c = k) pe (m.addG (S k).H.length w.heap.size b.loose b.esz tt) (a.put o.dst v') (w.alloc obj) := by
  have hk : k < ops.length := (List.getElem?_eq_some_iff.1 ho).1
  have hlen : (S (k + 1)).H.length = (S k).H.length + 1 := by rw [hH]; simp
  have hnone : m.gb (S k).H.length = none := hI.noneG hr hk hnot (Nat.le_refl _) (by omega)
  have hle : Le m (m.addG (S k).H.length w.heap.size b.loose b.esz tt) := le_addG hnone
  have hb : (S (k + 1)).H[(S k).H.length]? = some b := by rw [hH]; simp
  have hin : (m.addG (S k).H.length w.heap.size b.loose b.esz tt).gb (S k).H.length = some w.heap.size := by simp [Mp.addG]
  have huniq : ∀ j, (m.addG (S k).H.length w.heap.size b.loose b.esz tt).gb j = some w.heap.size → j = (S k).H.length := fun j e => by
    rcases addG_inv e with e | ⟨e, _⟩
    · have := hI.ltG hr e; omega
    · exact e
  have hnl : ∀ j, m.lb j ≠ some w.heap.size := fun j e => by have := hI.ltL hr e; omega
  have hws : w0.heap.size ≤ w.heap.size := hI.ext.size
  refine ⟨hI.pel, fun e o' ho' he => ?_, ?_, fun i g e => ?_, fun i g e => ?_, fun c i g c1 c2 c3 c4 e => ?_, fun c i g c1 c2 c3 c4 e => ?_, fun c hc hn => hI.late c hc (fun h => hn (.inl h)), fun c hc hn => hI.latel c hc (fun h => hn (.inl h)),
    hI.slots hr hs hcl ho hnot hle hfr hv, by rw [put_size]; exact hI.frl, by rw [put_df]; exact hI.df⟩
  · rw [← hI.effs e o' ho' he]
    constructor
    · rintro (h | h)
      · exact h
      · subst h; rw [ho] at ho'; injection ho' with ho'; subst ho'; rw [hq] at he; cases he
    · exact .inl
  · refine ext_more hI.ext (hle.cutAt pe) (fun _ _ => rfl) (Nat.le_refl _) (fun _ _ => rfl) (Nat.le_refl _) (fun g hg => heap_alloc_lt w _ hg) (by rw [size_alloc']; omega) rfl rfl rfl (fun i g e => ?_) (fun i g e => .inl e)
    obtain ⟨e1, e2⟩ := cutAt_gb.1 e
    rcases addG_inv e2 with e3 | ⟨rfl, rfl⟩
    · exact .inl (cutAt_gb.2 ⟨e1, e3⟩)
    · have hkp : k < pe := by
        rcases Nat.lt_or_ge k pe with h | h
        · exact h
        · have := hr.monoG h (by omega); omega
      refine .inr ⟨Nat.le_trans h0 (hr.monoG (by omega) (by omega)), e1, by rw [size_alloc']; omega, hws, ⟨b, ?_, hGR.mono (hr.cutAt_mono (by omega) hI.pel) (cutAt_gb.2 ⟨by omega, hin⟩) (fun _ => rfl)⟩, fun j e => huniq j (cutAt_gb.1 e).2, fun j e => hnl j (cutAt_lb.1 e).2⟩
      rw [hI.late k hkp hnot _ (Nat.le_refl _) (by omega)]; exact hb
  · rcases addG_inv e with e | ⟨rfl, rfl⟩
    · rcases hI.dom i g e with h | ⟨c, h1, h2, h3⟩
      · exact .inl h
      · exact .inr ⟨c, h1, .inl h2, h3⟩
    · exact .inr ⟨k, hk, .inr rfl, Nat.le_refl _, by omega⟩
  · rcases hI.doml i g e with h | ⟨c, h1, h2, h3⟩
    · exact .inl h
    · exact .inr ⟨c, h1, .inl h2, h3⟩
  · rcases addG_inv e with e | ⟨rfl, rfl⟩
    · obtain ⟨f1, f2, ⟨b0, f3, f4⟩, f5, f6⟩ := hI.flG c i g c1 c2 c3 c4 e
      refine ⟨by rw [size_alloc']; omega, f2, ⟨b0, f3, f4.mono (hle.cutAt (c + 1)) (cutAt_gb.2 ⟨c4, e⟩) (fun _ => heap_alloc_lt w _ f1)⟩, fun j ej => ?_, f6⟩
      rcases addG_inv ej with ej | ⟨_, ej⟩
      · exact f5 j ej
      · omega
    · have := hr.makerG c2 hk c3 c4 (Nat.le_refl _) (by omega)
      subst this
      exact ⟨by rw [size_alloc']; omega, hws, ⟨b, hb, hGR⟩, huniq, hnl⟩
  · obtain ⟨f1, f2, ⟨b0, f3, f4⟩, f5, f6⟩ := hI.flL c i g c1 c2 c3 c4 e
    refine ⟨by rw [size_alloc']; omega, f2, ⟨b0, f3, f4.mono (hle.cutAt (c + 1)) (heap_alloc_lt w _ f1)⟩, f5, fun j ej => ?_⟩
    rcases addG_inv ej with ej | ⟨_, ej⟩
    · exact f6 j ej
    · omega

theorem Inv.makeL (hr : Run ops S F) (hs : Sta ops) (hI : Inv ops S m0 H0 w0 L pe m a w) (hcl : Closed ops L) {k : Nat} {o : Oper} (ho : ops[k]? = some o) (hnot : ¬ L k) (hq : isEff o = false) {b : Blk} {cs : Array Value}
    (hH : (S (k + 1)).H = (S k).H) (hl : (S (k + 1)).loc = (S k).loc ++ [b]) (hc : VRs (cutAt m S k) b.cells cs.toList) (hlive : b.live = true) {v v' : Value}
    (hfr : (S (k + 1)).fr = putF (S k).fr o.dst v) (hv : VR (cutAt (m.addL (S k).loc.length w.heap.size) S (k + 1)) v v') :
    Inv ops S m0 H0 w0 (fun c => L c ∨ c = k) pe (m.addL (S k).loc.length w.heap.size) (a.put o.dst v') (w.alloc (.cells cs b.elem)) := by
  have hk : k < ops.length := (List.getElem?_eq_some_iff.1 ho).1
  have hlen : (S (k + 1)).loc.length = (S k).loc.length + 1 := by rw [hl]; simp
  have hnone : m.lb (S k).loc.length = none := hI.noneL hr hk hnot (Nat.le_refl _) (by omega)
  have hle : Le m (m.addL (S k).loc.length w.heap.size) := le_addL hnone
  have hb : (S (k + 1)).loc[(S k).loc.length]? = some b := by rw [hl]; simp
  have hLR : LR (cutAt (m.addL (S k).loc.length w.heap.size) S (k + 1)) w.heap.size b (w.alloc (.cells cs b.elem)) :=
    ⟨fun _ => ⟨cs, heap_alloc_new w _, hc.mono ((hle.cutAt k).trans (hr.cutAt_mono (by omega) hk))⟩, fun e => by rw [hlive] at e; cases e⟩
  have huniq : ∀ j, (m.addL (S k).loc.length w.heap.size).lb j = some w.heap.size → j = (S k).loc.length := fun j e => by
    rcases addL_inv e with e | ⟨e, _⟩
    · have := hI.ltL hr e; omega
    · exact e
  have hnl : ∀ j, m.gb j ≠ some w.heap.size := fun j e => by have := hI.ltG hr e; omega
  have hws : w0.heap.size ≤ w.heap.size := hI.ext.size
  refine ⟨hI.pel, fun e o' ho' he => ?_, ?_, fun i g e => ?_, fun i g e => ?_, fun c i g c1 c2 c3 c4 e => ?_, fun c i g c1 c2 c3 c4 e => ?_, fun c hc hn => hI.late c hc (fun h => hn (.inl h)), fun c hc hn => hI.latel c hc (fun h => hn (.inl h)),
    hI.slots hr hs hcl ho hnot hle hfr hv, by rw [put_size]; exact hI.frl, by rw [put_df]; exact hI.df⟩
  · rw [← hI.effs e o' ho' he]
    constructor
    · rintro (h | h)
      · exact h
      · subst h; rw [ho] at ho'; injection ho' with ho'; subst ho'; rw [hq] at he; cases he
    · exact .inl
  · refine ext_more hI.ext (hle.cutAt pe) (fun _ _ => rfl) (Nat.le_refl _) (fun _ _ => rfl) (Nat.le_refl _) (fun g hg => heap_alloc_lt w _ hg) (by rw [size_alloc']; omega) rfl rfl rfl (fun i g e => .inl e) (fun i g e => ?_)
    obtain ⟨e1, e2⟩ := cutAt_lb.1 e
    rcases addL_inv e2 with e3 | ⟨rfl, rfl⟩
    · exact .inl (cutAt_lb.2 ⟨e1, e3⟩)
    · have hkp : k < pe := by
        rcases Nat.lt_or_ge k pe with h | h
        · exact h
        · have := hr.monoL h (by omega); omega
      refine .inr ⟨e1, by rw [size_alloc']; omega, hws, ⟨b, ?_, hLR.mono (hr.cutAt_mono (by omega) hI.pel) rfl⟩, fun j e => huniq j (cutAt_lb.1 e).2, fun j e => hnl j (cutAt_gb.1 e).2⟩
      rw [hI.latel k hkp hnot _ (Nat.le_refl _) (by omega)]; exact hb
  · rcases hI.dom i g e with h | ⟨c, h1, h2, h3⟩
    · exact .inl h
    · exact .inr ⟨c, h1, .inl h2, h3⟩
  · rcases addL_inv e with e | ⟨rfl, rfl⟩
    · rcases hI.doml i g e with h | ⟨c, h1, h2, h3⟩
      · exact .inl h
      · exact .inr ⟨c, h1, .inl h2, h3⟩
    · exact .inr ⟨k, hk, .inr rfl, Nat.le_refl _, by omega⟩
  · obtain ⟨f1, f2, ⟨b0, f3, f4⟩, f5, f6⟩ := hI.flG c i g c1 c2 c3 c4 e
    refine ⟨by rw [size_alloc']; omega, f2, ⟨b0, f3, f4.mono (hle.cutAt (c + 1)) (cutAt_gb.2 ⟨c4, e⟩) (fun _ => heap_alloc_lt w _ f1)⟩, f5, fun j ej => ?_⟩
    rcases addL_inv ej with ej | ⟨_, ej⟩
    · exact f6 j ej
    · omega
  · rcases addL_inv e with e | ⟨rfl, rfl⟩
    · obtain ⟨f1, f2, ⟨b0, f3, f4⟩, f5, f6⟩ := hI.flL c i g c1 c2 c3 c4 e
      refine ⟨by rw [size_alloc']; omega, f2, ⟨b0, f3, f4.mono (hle.cutAt (c + 1)) (heap_alloc_lt w _ f1)⟩, fun j ej => ?_, f6⟩
      rcases addL_inv ej with ej | ⟨_, ej⟩
      · exact f5 j ej
      · omega
    · have := hr.makerL c2 hk c3 c4 (Nat.le_refl _) (by omega)
      subst this
      exact ⟨by rw [size_alloc']; omega, hws, ⟨b, hb, hLR⟩, huniq, hnl⟩

/-- The one that acts comes up: the moment stands at it. -/
theorem Inv.act (hr : Run ops S F) (hs : Sta ops) (hcl : Closed ops L) {k : Nat} (hI : Inv ops S m0 H0 w0 L k m a w) {o : Oper} (ho : ops[k]? = some o) (hnot : ¬ L k) {m1 : Mp} {w' : World} {wl : List Nat}
    (hx : Ext (cutAt m S k) (S k).H (S k).loc w m1 (S (k + 1)).H (S (k + 1)).loc w' (F k).wg wl) {v v' : Value}
    (hfr : (S (k + 1)).fr = putF (S k).fr o.dst v) (hv : VR m1 v v') : ∃ m', Inv ops S m0 H0 w0 (fun c => L c ∨ c = k) (k + 1) m' (a.put o.dst v') w' := by
  have hk : k < ops.length := (List.getElem?_eq_some_iff.1 ho).1
  have hp := hr.pur hk
  let m' : Mp := { gb := fun i => if i < (S (k + 1)).H.length then m1.gb i else m.gb i, lb := fun i => if i < (S (k + 1)).loc.length then m1.lb i else m.lb i,
                   loose := fun i => if i < (S (k + 1)).H.length then m1.loose i else m.loose i, esz := fun i => if i < (S (k + 1)).H.length then m1.esz i else m.esz i, tot := fun i => if i < (S (k + 1)).H.length then m1.tot i else m.tot i }
  have hgb : ∀ i g, m'.gb i = some g → (i < (S (k + 1)).H.length ∧ m1.gb i = some g) ∨ ((S (k + 1)).H.length ≤ i ∧ m.gb i = some g) := fun i g e => by
    simp only [m'] at e
    by_cases h : i < (S (k + 1)).H.length
    · simp [h] at e; exact .inl ⟨h, e⟩
    · simp [h] at e; exact .inr ⟨by omega, e⟩
  have hlb : ∀ i g, m'.lb i = some g → (i < (S (k + 1)).loc.length ∧ m1.lb i = some g) ∨ ((S (k + 1)).loc.length ≤ i ∧ m.lb i = some g) := fun i g e => by
    simp only [m'] at e
    by_cases h : i < (S (k + 1)).loc.length
    · simp [h] at e; exact .inl ⟨h, e⟩
    · simp [h] at e; exact .inr ⟨by omega, e⟩
  have hdom1 : ∀ i g, m1.gb i = some g → i < (S (k + 1)).H.length := fun i g e => by
    obtain ⟨_, b, h2, _⟩ := hx.rel.glob i g e
    exact (List.getElem?_eq_some_iff.1 h2).1
  have hdom1l : ∀ i g, m1.lb i = some g → i < (S (k + 1)).loc.length := fun i g e => by
    obtain ⟨_, b, h2, _⟩ := hx.rel.locs i g e
    exact (List.getElem?_eq_some_iff.1 h2).1
  have hle1 : Le m1 m' := ⟨fun i g e => by simp [m', hdom1 i g e, e], fun i g e => by simp [m', hdom1l i g e, e], fun i g e => by simp [m', hdom1 i g e], fun i g e => by simp [m', hdom1 i g e], fun i g e => by simp [m', hdom1 i g e]⟩
  have hle1c : Le m1 (cutAt m' S (k + 1)) := ⟨fun i g e => cutAt_gb.2 ⟨hdom1 i g e, hle1.gb i g e⟩, fun i g e => cutAt_lb.2 ⟨hdom1l i g e, hle1.lb i g e⟩, fun i g e => hle1.loose i g e, fun i g e => hle1.esz i g e, fun i g e => hle1.tot i g e⟩
  have hmk : ∀ i g, m.gb i = some g → i < (S (k + 1)).H.length → (cutAt m S k).gb i = some g := fun i g e hi => by
    by_cases h : i < (S k).H.length
    · exact cutAt_gb.2 ⟨h, e⟩
    · rw [hI.noneG hr hk hnot (by omega) hi] at e; cases e
  have hmkl : ∀ i g, m.lb i = some g → i < (S (k + 1)).loc.length → (cutAt m S k).lb i = some g := fun i g e hi => by
    by_cases h : i < (S k).loc.length
    · exact cutAt_lb.2 ⟨h, e⟩
    · rw [hI.noneL hr hk hnot (by omega) hi] at e; cases e
  have hle : Le m m' := by
    refine ⟨fun i g e => ?_, fun i g e => ?_, fun i g e => ?_, fun i g e => ?_, fun i g e => ?_⟩
    · by_cases h : i < (S (k + 1)).H.length
      · simp [m', h, hx.le.gb i g (hmk i g e h)]
      · simp [m', h, e]
    · by_cases h : i < (S (k + 1)).loc.length
      · simp [m', h, hx.le.lb i g (hmkl i g e h)]
      · simp [m', h, e]
    · by_cases h : i < (S (k + 1)).H.length
      · simp [m', h, hx.le.loose i g (hmk i g e h), cutAt, Mp.cut]
      · simp [m', h]
    · by_cases h : i < (S (k + 1)).H.length
      · simp [m', h, hx.le.esz i g (hmk i g e h), cutAt, Mp.cut]
      · simp [m', h]
    · by_cases h : i < (S (k + 1)).H.length
      · simp [m', h, hx.le.tot i g (hmk i g e h), cutAt, Mp.cut]
      · simp [m', h]
  refine ⟨m', hk, fun e o' ho' he => ?_, ?_, fun i g e => ?_, fun i g e => ?_, fun c i g c1 c2 c3 c4 e => ?_, fun c i g c1 c2 c3 c4 e => ?_, fun c hc hn i h1 h2 => ?_, fun c hc hn i h1 h2 => ?_,
    hI.slots hr hs hcl ho hnot hle hfr (hv.mono hle1c), by rw [put_size]; exact hI.frl, by rw [put_df]; exact hI.df⟩
  · constructor
    · rintro (h | h)
      · have := (hI.effs e o' ho' he).1 h; omega
      · omega
    · intro h
      by_cases hek : e = k
      · exact .inr hek
      · exact .inl ((hI.effs e o' ho' he).2 (by omega))
  · have h1 := (hI.ext.trans hx).nil_wl
    have hwg : (S (k + 1)).wg = (S k).wg ++ (F k).wg := (hr.sp k o ho).wg
    rw [hwg]
    refine ext_more h1 hle1c (fun _ _ => rfl) (Nat.le_refl _) (fun _ _ => rfl) (Nat.le_refl _) (fun _ _ => rfl) (Nat.le_refl _) rfl rfl rfl (fun i g e => ?_) (fun i g e => ?_)
    · obtain ⟨e1, e2⟩ := cutAt_gb.1 e
      rcases hgb i g e2 with ⟨_, h⟩ | ⟨h, _⟩
      · exact .inl h
      · omega
    · obtain ⟨e1, e2⟩ := cutAt_lb.1 e
      rcases hlb i g e2 with ⟨_, h⟩ | ⟨h, _⟩
      · exact .inl h
      · omega
  · rcases hgb i g e with ⟨h1, h2⟩ | ⟨h1, h2⟩
    · rcases hx.dom i g h2 with h3 | ⟨h3, h4⟩
      · rcases hI.dom i g (cutAt_gb.1 h3).2 with h | ⟨c, h1, h2, h3⟩
        · exact .inl h
        · exact .inr ⟨c, h1, .inl h2, h3⟩
      · exact .inr ⟨k, hk, .inr rfl, h3, h4⟩
    · rcases hI.dom i g h2 with h | ⟨c, h1, h2, h3⟩
      · exact .inl h
      · exact .inr ⟨c, h1, .inl h2, h3⟩
  · rcases hlb i g e with ⟨h1, h2⟩ | ⟨h1, h2⟩
    · rcases hx.doml i g h2 with h3 | ⟨h3, h4⟩
      · rcases hI.doml i g (cutAt_lb.1 h3).2 with h | ⟨c, h1, h2, h3⟩
        · exact .inl h
        · exact .inr ⟨c, h1, .inl h2, h3⟩
      · exact .inr ⟨k, hk, .inr rfl, h3, h4⟩
    · rcases hI.doml i g h2 with h | ⟨c, h1, h2, h3⟩
      · exact .inl h
      · exact .inr ⟨c, h1, .inl h2, h3⟩
  · have hge : (S (k + 1)).H.length ≤ i := Nat.le_trans (hr.monoG c1 (by omega)) c3
    rcases hgb i g e with ⟨h1, _⟩ | ⟨_, e⟩
    · omega
    obtain ⟨f1, f2, ⟨b0, f3, f4⟩, f5, f6⟩ := hI.flG c i g (by omega) c2 c3 c4 e
    have hgek : (S k).H.length ≤ i := Nat.le_trans hp.len hge
    have hsame : w'.heap[g]? = w.heap[g]? := hx.frame g f1 (fun j ej => by have := f5 j (cutAt_gb.1 ej).2; have := (cutAt_gb.1 ej).1; omega) (fun j ej => f6 j (cutAt_lb.1 ej).2)
    refine ⟨Nat.lt_of_lt_of_le f1 hx.size, f2, ⟨b0, f3, f4.mono (hle.cutAt (c + 1)) (cutAt_gb.2 ⟨c4, e⟩) (fun _ => hsame)⟩, fun j ej => ?_, fun j ej => ?_⟩
    · rcases hgb j g ej with ⟨_, ej⟩ | ⟨_, ej⟩
      · rcases hx.img j g ej with ⟨j', ej'⟩ | h
        · have := f5 j' (cutAt_gb.1 ej').2; have := (cutAt_gb.1 ej').1; omega
        · omega
      · exact f5 j ej
    · rcases hlb j g ej with ⟨_, ej⟩ | ⟨_, ej⟩
      · rcases hx.imgl j g ej with ej' | h
        · exact f6 j (cutAt_lb.1 ej').2
        · omega
      · exact f6 j ej
  · have hge : (S (k + 1)).loc.length ≤ i := Nat.le_trans (hr.monoL c1 (by omega)) c3
    rcases hlb i g e with ⟨h1, _⟩ | ⟨_, e⟩
    · omega
    obtain ⟨f1, f2, ⟨b0, f3, f4⟩, f5, f6⟩ := hI.flL c i g (by omega) c2 c3 c4 e
    have hgek : (S k).loc.length ≤ i := Nat.le_trans hp.lenl hge
    have hsame : w'.heap[g]? = w.heap[g]? := hx.frame g f1 (fun j ej => f6 j (cutAt_gb.1 ej).2) (fun j ej => by have := f5 j (cutAt_lb.1 ej).2; have := (cutAt_lb.1 ej).1; omega)
    refine ⟨Nat.lt_of_lt_of_le f1 hx.size, f2, ⟨b0, f3, f4.mono (hle.cutAt (c + 1)) hsame⟩, fun j ej => ?_, fun j ej => ?_⟩
    · rcases hlb j g ej with ⟨_, ej⟩ | ⟨_, ej⟩
      · rcases hx.imgl j g ej with ej' | h
        · have := f5 j (cutAt_lb.1 ej').2; have := (cutAt_lb.1 ej').1; omega
        · omega
      · exact f5 j ej
    · rcases hgb j g ej with ⟨_, ej⟩ | ⟨_, ej⟩
      · rcases hx.img j g ej with ⟨j', ej'⟩ | h
        · exact f6 j' (cutAt_gb.1 ej').2
        · omega
      · exact f6 j ej
  · have hck : c < k := by
      by_cases h : c = k
      · exact absurd (.inr h) hn
      · omega
    have hnL : ¬ L c := fun h => hn (.inl h)
    have hi : i < (S k).H.length := Nat.lt_of_lt_of_le h2 (hr.monoG (by omega) (by omega))
    have hnone : (cutAt m S k).gb i = none := by
      cases e : (cutAt m S k).gb i with
      | none => rfl
      | some g => have := hI.noneG hr (show c < ops.length by omega) hnL h1 h2; rw [(cutAt_gb.1 e).2] at this; cases this
    exact (hx.un i hi hnone).trans (hI.late c hck hnL i h1 h2)
  · have hck : c < k := by
      by_cases h : c = k
      · exact absurd (.inr h) hn
      · omega
    have hnL : ¬ L c := fun h => hn (.inl h)
    have hi : i < (S k).loc.length := Nat.lt_of_lt_of_le h2 (hr.monoL (by omega) (by omega))
    have hnone : (cutAt m S k).lb i = none := by
      cases e : (cutAt m S k).lb i with
      | none => rfl
      | some g => have := hI.noneL hr (show c < ops.length by omega) hnL h1 h2; rw [(cutAt_lb.1 e).2] at this; cases this
    exact (hx.unl i hi hnone).trans (hI.latel c hck hnL i h1 h2)

end
end Go.Am
end

section
/-
  Drawn regions: every order does what the text's order does.
-/
namespace Go.Am
section
variable {P : Program} {m : Mp} {H loc : Hp} {w : World}

theorem read_blk {a a' : Addr} (hG : ∀ i g, a.spot = none → a.block = i → m.gb i = some g → ∃ b, H[i]? = some b ∧ GR m i g b w) (hLc : ∀ i g, a.spot = some 0 → a.block = i → m.lb i = some g → ∃ b, loc[i]? = some b ∧ LR m g b w) (har : AR m a a') {n : Nat} {vs : List Value} (h : readCells H loc a n = some vs) :
    ∃ vs', VRs m vs vs' ∧ vs.length = n ∧ ∀ j v, vs'[j]? = some v → w.cell? (a'.add j) = some v := by
  obtain ⟨b', o', s'⟩ := a'
  have hs := har.spot
  simp only at hs
  subst hs
  have hadd : ∀ j, (⟨b', o', none⟩ : Addr).add j = ⟨b', o' + j, none⟩ := fun j => addr_add_spot rfl j
  unfold readCells at h
  simp only [fSpine_eq] at h
  rcases har with ⟨h1, h2, h3, _⟩ | ⟨h1, h2, h3, _⟩
  · rw [h1] at h
    simp only at h h2 h3
    split at h
    · rename_i b hb
      cases hc : (b.live && decide (a.off + n ≤ b.cells.length)) with
      | false => rw [hc] at h; cases h
      | true =>
        rw [hc] at h
        simp only [cond_true, Option.some.injEq] at h
        subst h
        simp only [Bool.and_eq_true, decide_eq_true_eq] at hc
        obtain ⟨b0, hb0, hG⟩ := hG _ _ h1 rfl h2
        rw [hb] at hb0; injection hb0 with hb0; subst hb0
        obtain ⟨cs, e1, e2, e3, _⟩ := hG.blk hc.1
        refine ⟨(((cs.toList.take b.cells.length)).drop a.off).take n, ((e3.mono (noL_le m)).drop _).take _, by simp; omega, fun j v hv => ?_⟩
        rw [hadd, cell_of_block e1]
        simp only [List.getElem?_take, List.getElem?_drop] at hv
        split at hv
        · split at hv
          · rw [h3]; simpa using hv
          · cases hv
        · cases hv
    · cases h
  · rw [h1] at h
    simp only at h h2 h3
    split at h
    · rename_i b hb
      cases hc : (b.live && decide (a.off + n ≤ b.cells.length)) with
      | false => rw [hc] at h; cases h
      | true =>
        rw [hc] at h
        simp only [cond_true, Option.some.injEq] at h
        subst h
        simp only [Bool.and_eq_true, decide_eq_true_eq] at hc
        obtain ⟨b0, hb0, hL⟩ := hLc _ _ h1 rfl h2
        rw [hb] at hb0; injection hb0 with hb0; subst hb0
        obtain ⟨cs, e1, e3⟩ := hL.blk hc.1
        refine ⟨((cs.toList).drop a.off).take n, (e3.drop _).take _, by simp; omega, fun j v hv => ?_⟩
        rw [hadd, cell_of_block e1]
        simp only [List.getElem?_take, List.getElem?_drop] at hv
        split at hv
        · rw [h3]; simpa using hv
        · cases hv
    · cases h

theorem load_blk {t : TypeId} {x x' v : Value} (hG : ∀ a i g, x = .pointer (some a) → a.spot = none → a.block = i → m.gb i = some g → ∃ b, H[i]? = some b ∧ GR m i g b w) (hLc : ∀ a i g, x = .pointer (some a) → a.spot = some 0 → a.block = i → m.lb i = some g → ∃ b, loc[i]? = some b ∧ LR m g b w) (hx : VR m x x') (h : evLoad P H loc t x = some v) :
    ∃ v', (Instr.loadAt t x').run P w = .ok v' w ∧ VR m v v' := by
  unfold evLoad at h
  split at h
  · rename_i a
    obtain ⟨a', rfl, har⟩ := vr_ptr hx
    split at h
    · rename_i hagg
      split at h
      · rename_i i hi
        split at h
        · rename_i vs hvs
          injection h with h; subst h
          obtain ⟨vs', hvr, hlen, hcell⟩ := read_blk (fun i g => hG _ i g rfl) (fun i g => hLc _ i g rfl) har hvs
          refine ⟨.agg vs'.toArray, ?_, hvr.agg⟩
          have := run_loadCells_list (P := P) w a' vs' hcell
          have hl : vs'.length = i.size := by have := hvr.1; omega
          rw [hl] at this
          simp [Instr.loadAt, Instr.sureAddr, loadVar, run_isAgg hagg, run_sizeOf' hi, this]
        · cases h
      · cases h
    · rename_i hagg
      split at h
      · rename_i v0 hvs
        injection h with h; subst h
        obtain ⟨vs', hvr, hlen, hcell⟩ := read_blk (fun i g => hG _ i g rfl) (fun i g => hLc _ i g rfl) har hvs
        obtain ⟨v', l', rfl, h1, h2⟩ := hvr.cons_inv
        have hc := hcell 0 v' rfl
        have e0 : a'.add 0 = a' := rfl
        rw [e0] at hc
        exact ⟨v', by simp [Instr.loadAt, Instr.sureAddr, loadVar, run_isAgg hagg, hc], h1⟩
      · cases h
    · cases h
  · cases h


theorem Bef.lt {ops : List Oper} (hs : Sta ops) {i j : Nat} (h : Bef ops i j) : i < j := by
  induction h with
  | edge ho he hb => exact hs.back _ _ ho _ he hb
  | step ho he hb _ ih => exact Nat.lt_trans ih (hs.back _ _ ho _ he hb)
end

section
variable {P : Program} {ops : List Oper} {S : Nat → St} {F : Nat → Fp} {m0 : Mp} {H0 : Hp} {w0 : World} {L : Nat → Prop} {pe : Nat} {m : Mp} {a : Act} {w : World}

/-- What a load is told of those that act and stand apart from it. -/
def DynR (ops : List Oper) (F : Nat → Fp) : Prop := ∀ i j x y, ops[i]? = some x → ops[j]? = some y → isEff x = true → isLoad y = true → ¬ Bef ops i j → ¬ Bef ops j i →
  (∀ b, b ∈ (F j).rg → b ∉ (F i).wg) ∧ (∀ b, b ∈ (F j).rl → b ∉ (F i).wl) ∧ (j < i → (F j).bd = true)

/-- A load comes up. -/
theorem Inv.load (hr : Run ops S F) (hs : Sta ops) (hdy : DynR ops F) (hI : Inv ops S m0 H0 w0 L pe m a w) (hcl : Closed ops L) (htop : pe = 0 ∨ ∃ o, ops[pe - 1]? = some o ∧ isEff o = true) {k : Nat} {o : Oper} (ho : ops[k]? = some o) (hnot : ¬ L k)
    (hrd : ∀ e ∈ o.after, Region.binds .any e = true → L e.on) (hld : isLoad o = true) {t : TypeId} {x x' v : Value} (hx : VR (cutAt m S k) x x') (h : evLoad P (S k).H (S k).loc t x = some v)
    (hrg : ∀ ad, x = .pointer (some ad) → (ad.spot = none → ad.block ∈ (F k).rg) ∧ (ad.spot = some 0 → ad.block ∈ (F k).rl)) (hbd : (F k).bd = boundB (S k).H.length (S k).loc.length 6 v) :
    ∃ v', (Instr.loadAt t x').run P w = .ok v' w ∧ VR (cutAt m S (k + 1)) v v' := by
  have hk : k < ops.length := (List.getElem?_eq_some_iff.1 ho).1
  have hne : isEff o = false := by unfold isLoad at hld; unfold isEff; split at hld <;> simp_all
  have hrd' : ∀ o', ops[k]? = some o' → ∀ e ∈ o'.after, Region.binds .any e = true → L e.on := fun o' ho' => by
    rw [ho] at ho'; injection ho' with ho'; subst ho'; exact hrd
  -- those that act between: they stand apart
  have hfar : ∀ e o', ops[e]? = some o' → isEff o' = true → ((e < k ∧ ¬ L e) ∨ (k < e ∧ L e)) → ¬ Bef ops e k ∧ ¬ Bef ops k e := fun e o' ho' he hc => by
    rcases hc with ⟨h1, h2⟩ | ⟨h1, h2⟩
    · exact ⟨fun hb => h2 (hb.ready hcl hrd'), fun hb => by have := hb.lt hs; omega⟩
    · exact ⟨fun hb => by have := hb.lt hs; omega, fun hb => hnot (hb.closed hcl h2)⟩
  have hskipG : ∀ j, pe ≤ j → ∀ i, i ∈ (F k).rg → ∀ e, j ≤ e → e < k → i ∉ (F e).wg := fun j hj i hi e h1 h2 => by
    have ho' : ops[e]? = some ops[e] := List.getElem?_eq_getElem (by omega)
    cases he : isEff ops[e] with
    | false => rw [(hr.quiet e _ ho' he).1]; simp
    | true =>
      have hnL : ¬ L e := fun hl => by have := (hI.effs e _ ho' he).1 hl; omega
      obtain ⟨n1, n2⟩ := hfar e _ ho' he (.inl ⟨h2, hnL⟩)
      exact (hdy e k _ o ho' ho he hld n1 n2).1 i hi
  have hskipL : ∀ j, pe ≤ j → ∀ i, i ∈ (F k).rl → ∀ e, j ≤ e → e < k → i ∉ (F e).wl := fun j hj i hi e h1 h2 => by
    have ho' : ops[e]? = some ops[e] := List.getElem?_eq_getElem (by omega)
    cases he : isEff ops[e] with
    | false => rw [(hr.quiet e _ ho' he).2]; simp
    | true =>
      have hnL : ¬ L e := fun hl => by have := (hI.effs e _ ho' he).1 hl; omega
      obtain ⟨n1, n2⟩ := hfar e _ ho' he (.inl ⟨h2, hnL⟩)
      exact (hdy e k _ o ho' ho he hld n1 n2).2.1 i hi
  have hbackG : ∀ i, i ∈ (F k).rg → ∀ e, k ≤ e → e < pe → i ∉ (F e).wg := fun i hi e h1 h2 => by
    have hpl := hI.pel
    have ho' : ops[e]? = some ops[e] := List.getElem?_eq_getElem (by omega)
    cases he : isEff ops[e] with
    | false => rw [(hr.quiet e _ ho' he).1]; simp
    | true =>
      have hek : e ≠ k := fun e' => by subst e'; rw [ho] at ho'; injection ho' with ho'; rw [← ho', hne] at he; cases he
      have hL : L e := (hI.effs e _ ho' he).2 h2
      obtain ⟨n1, n2⟩ := hfar e _ ho' he (.inr ⟨by omega, hL⟩)
      exact (hdy e k _ o ho' ho he hld n1 n2).1 i hi
  have hbackL : ∀ i, i ∈ (F k).rl → ∀ e, k ≤ e → e < pe → i ∉ (F e).wl := fun i hi e h1 h2 => by
    have hpl := hI.pel
    have ho' : ops[e]? = some ops[e] := List.getElem?_eq_getElem (by omega)
    cases he : isEff ops[e] with
    | false => rw [(hr.quiet e _ ho' he).2]; simp
    | true =>
      have hek : e ≠ k := fun e' => by subst e'; rw [ho] at ho'; injection ho' with ho'; rw [← ho', hne] at he; cases he
      have hL : L e := (hI.effs e _ ho' he).2 h2
      obtain ⟨n1, n2⟩ := hfar e _ ho' he (.inr ⟨by omega, hL⟩)
      exact (hdy e k _ o ho' ho he hld n1 n2).2.1 i hi
  obtain ⟨ad, hxa⟩ : ∃ ad, x = .pointer (some ad) := by
    unfold evLoad at h
    split at h
    · exact ⟨_, rfl⟩
    · cases h
  obtain ⟨hrg1, hrg2⟩ := hrg ad hxa
  have hx0 := hx
  rw [hxa] at hx
  obtain ⟨ad', hx', har⟩ := vr_ptr hx
  have hpl := hI.pel
  rcases har with ⟨s1, s2, s3, s4⟩ | ⟨s1, s2, s3, s4⟩
  · obtain ⟨hik, hig⟩ := cutAt_gb.1 s2
    have hmem := hrg1 s1
    rcases hI.whereG hr hig with hw | ⟨c, c1, c2, c3, c4⟩
    · -- there at the moment
      have hsame : (S k).H[ad.block]? = (S pe).H[ad.block]? := by
        rcases Nat.le_total pe k with hpk | hpk
        · exact hr.keepG hw hpk (by omega) (hskipG pe (Nat.le_refl _) _ hmem)
        · exact (hr.keepG hik hpk hpl (hbackG _ hmem)).symm
      have hxp : VR (cutAt m S pe) x x' := by
        rw [hxa, hx']
        exact AR.vr (.inl ⟨s1, cutAt_gb.2 ⟨hw, hig⟩, s3, s4⟩)
      obtain ⟨v', h1, h2⟩ := load_blk (m := cutAt m S pe) (w := w) (P := P) (H := (S k).H) (loc := (S k).loc) (fun a1 i g e1 e2 e3 e4 => by
          rw [hxa] at e1; injection e1 with e1; injection e1 with e1; subst e1; subst e3
          obtain ⟨_, b, f1, f2⟩ := hI.ext.rel.glob _ g e4
          exact ⟨b, hsame.trans f1, f2⟩) (fun a1 i g e1 e2 => by
          rw [hxa] at e1; injection e1 with e1; injection e1 with e1; subst e1; rw [s1] at e2; cases e2) hxp h
      refine ⟨v', h1, ?_⟩
      rcases Nat.lt_or_ge k pe with hpk | hpk
      · have hb : (F k).bd = true := by
          rcases htop with hp0 | ⟨oe, hoe, hee⟩
          · omega
          · have hLe : L (pe - 1) := (hI.effs _ _ hoe hee).2 (by omega)
            have hek : pe - 1 ≠ k := fun e' => by rw [e', ho] at hoe; injection hoe with hoe; rw [← hoe, hne] at hee; cases hee
            obtain ⟨n1, n2⟩ := hfar _ _ hoe hee (.inr ⟨by omega, hLe⟩)
            exact (hdy _ k _ o hoe ho hee hld n1 n2).2.2 (by omega)
        rw [hbd] at hb
        have := bound_vr 6 v v' hb h2
        exact this.mono ⟨fun i g e => cutAt_gb.2 ⟨Nat.lt_of_lt_of_le (cut_gb.1 e).1 (hr.monoG (by omega) (by omega)), (cutAt_gb.1 (cut_gb.1 e).2).2⟩, fun i g e => cutAt_lb.2 ⟨Nat.lt_of_lt_of_le (cut_lb.1 e).1 (hr.monoL (by omega) (by omega)), (cutAt_lb.1 (cut_lb.1 e).2).2⟩, fun _ _ _ => rfl, fun _ _ _ => rfl, fun _ _ _ => rfl⟩
      · exact h2.mono (hr.cutAt_mono (by omega) (by omega))
    · -- made early
      have hck : c < k := by
        rcases Nat.lt_or_ge c k with h | h
        · exact h
        · have := hr.monoG h (by omega); omega
      obtain ⟨f1, f2, ⟨b, f3, f4⟩, f5, f6⟩ := hI.flG c _ _ c1 c2 c3 c4 hig
      have hsame : (S k).H[ad.block]? = (S (c + 1)).H[ad.block]? := hr.keepG c4 (by omega) (by omega) (hskipG (c + 1) (by omega) _ hmem)
      have hxp : VR (cutAt m S (c + 1)) x x' := by
        rw [hxa, hx']
        exact AR.vr (.inl ⟨s1, cutAt_gb.2 ⟨c4, hig⟩, s3, s4⟩)
      obtain ⟨v', h1, h2⟩ := load_blk (m := cutAt m S (c + 1)) (w := w) (P := P) (H := (S k).H) (loc := (S k).loc) (fun a1 i g e1 e2 e3 e4 => by
          rw [hxa] at e1; injection e1 with e1; injection e1 with e1; subst e1; subst e3
          have e5 := (cutAt_gb.1 e4).2
          rw [hig] at e5; injection e5 with e5; subst e5
          exact ⟨b, hsame.trans f3, f4⟩) (fun a1 i g e1 e2 => by
          rw [hxa] at e1; injection e1 with e1; injection e1 with e1; subst e1; rw [s1] at e2; cases e2) hxp h
      exact ⟨v', h1, h2.mono (hr.cutAt_mono (by omega) (by omega))⟩
  · obtain ⟨hik, hig⟩ := cutAt_lb.1 s2
    have hmem := hrg2 s1
    rcases hI.whereL hr hig with hw | ⟨c, c1, c2, c3, c4⟩
    · have hsame : (S k).loc[ad.block]? = (S pe).loc[ad.block]? := by
        rcases Nat.le_total pe k with hpk | hpk
        · exact hr.keepL hw hpk (by omega) (hskipL pe (Nat.le_refl _) _ hmem)
        · exact (hr.keepL hik hpk hpl (hbackL _ hmem)).symm
      have hxp : VR (cutAt m S pe) x x' := by
        rw [hxa, hx']
        exact AR.vr (.inr ⟨s1, cutAt_lb.2 ⟨hw, hig⟩, s3, s4⟩)
      obtain ⟨v', h1, h2⟩ := load_blk (m := cutAt m S pe) (w := w) (P := P) (H := (S k).H) (loc := (S k).loc) (fun a1 i g e1 e2 => by
          rw [hxa] at e1; injection e1 with e1; injection e1 with e1; subst e1; rw [s1] at e2; cases e2) (fun a1 i g e1 e2 e3 e4 => by
          rw [hxa] at e1; injection e1 with e1; injection e1 with e1; subst e1; subst e3
          obtain ⟨_, b, f1, f2⟩ := hI.ext.rel.locs _ g e4
          exact ⟨b, hsame.trans f1, f2⟩) hxp h
      refine ⟨v', h1, ?_⟩
      rcases Nat.lt_or_ge k pe with hpk | hpk
      · have hb : (F k).bd = true := by
          rcases htop with hp0 | ⟨oe, hoe, hee⟩
          · omega
          · have hLe : L (pe - 1) := (hI.effs _ _ hoe hee).2 (by omega)
            have hek : pe - 1 ≠ k := fun e' => by rw [e', ho] at hoe; injection hoe with hoe; rw [← hoe, hne] at hee; cases hee
            obtain ⟨n1, n2⟩ := hfar _ _ hoe hee (.inr ⟨by omega, hLe⟩)
            exact (hdy _ k _ o hoe ho hee hld n1 n2).2.2 (by omega)
        rw [hbd] at hb
        have := bound_vr 6 v v' hb h2
        exact this.mono ⟨fun i g e => cutAt_gb.2 ⟨Nat.lt_of_lt_of_le (cut_gb.1 e).1 (hr.monoG (by omega) (by omega)), (cutAt_gb.1 (cut_gb.1 e).2).2⟩, fun i g e => cutAt_lb.2 ⟨Nat.lt_of_lt_of_le (cut_lb.1 e).1 (hr.monoL (by omega) (by omega)), (cutAt_lb.1 (cut_lb.1 e).2).2⟩, fun _ _ _ => rfl, fun _ _ _ => rfl, fun _ _ _ => rfl⟩
      · exact h2.mono (hr.cutAt_mono (by omega) (by omega))
    · have hck : c < k := by
        rcases Nat.lt_or_ge c k with h | h
        · exact h
        · have := hr.monoL h (by omega); omega
      obtain ⟨f1, f2, ⟨b, f3, f4⟩, f5, f6⟩ := hI.flL c _ _ c1 c2 c3 c4 hig
      have hsame : (S k).loc[ad.block]? = (S (c + 1)).loc[ad.block]? := hr.keepL c4 (by omega) (by omega) (hskipL (c + 1) (by omega) _ hmem)
      have hxp : VR (cutAt m S (c + 1)) x x' := by
        rw [hxa, hx']
        exact AR.vr (.inr ⟨s1, cutAt_lb.2 ⟨c4, hig⟩, s3, s4⟩)
      obtain ⟨v', h1, h2⟩ := load_blk (m := cutAt m S (c + 1)) (w := w) (P := P) (H := (S k).H) (loc := (S k).loc) (fun a1 i g e1 e2 => by
          rw [hxa] at e1; injection e1 with e1; injection e1 with e1; subst e1; rw [s1] at e2; cases e2) (fun a1 i g e1 e2 e3 e4 => by
          rw [hxa] at e1; injection e1 with e1; injection e1 with e1; subst e1; subst e3
          have e5 := (cutAt_lb.1 e4).2
          rw [hig] at e5; injection e5 with e5; subst e5
          exact ⟨b, hsame.trans f3, f4⟩) hxp h
      exact ⟨v', h1, h2.mono (hr.cutAt_mono (by omega) (by omega))⟩

end
end Go.Am
end

section
/-
  Drawn regions: sound.
-/
namespace Go.Am
section
variable {P : Program} {ops : List Oper} {S : Nat → St} {F : Nat → Fp} {m0 : Mp} {H0 : Hp} {w0 : World}

def Lof (listed : Array Bool) (k : Nat) : Prop := listed.getD k false = true

theorem lof_set {listed : Array Bool} {k : Nat} (hk : k < listed.size) : Lof (listed.setIfInBounds k true) = fun c => Lof listed c ∨ c = k := by
  funext c
  apply propext
  unfold Lof
  by_cases hck : c = k
  · subst hck
    simp [Array.getD_eq_getD_getElem?, hk]
  · simp only [Array.getD_eq_getD_getElem?, Array.getElem?_setIfInBounds_ne (Ne.symm hck), hck, or_false]

theorem cond_cases {α : Type} {c : Bool} {x y : Option α} {r : α} (h : cond c x y = some r) : (c = true ∧ x = some r) ∨ (c = false ∧ y = some r) := by
  cases c with
  | true => exact .inl ⟨rfl, h⟩
  | false => exact .inr ⟨rfl, h⟩

theorem count_set {l : List Bool} : ∀ {k : Nat}, l[k]? = some false → (l.set k true).count false + 1 = l.count false := by
  induction l with
  | nil => intro k h; simp at h
  | cons b l ih =>
    intro k h
    cases k with
    | zero => simp at h; subst h; simp
    | succ k =>
      simp only [List.getElem?_cons_succ] at h
      have := ih h
      simp only [List.set_cons_succ, List.count_cons]
      omega

theorem any_sound (hN : Named P) {X : Xt} (hX : GoodX P X) {O : Orc} (hO : GoodO P O) {esc : Nat → Bool} (hr : Run ops S F) (hs : Sta ops) (hdy : DynR ops F)
    (hlk : ∀ i j x y, ops[i]? = some x → ops[j]? = some y → isLook x = true → isEff y = true → i < j → ¬ Bef ops i j → ∃ v, evLook P (S i).H x.op (evalO (S i).fr) = some v ∧ evLook P (S (j + 1)).H x.op (evalO (S i).fr) = some v) (hc : constsOk ops = true) (h0 : H0.length ≤ (S 0).H.length)
    (hst : ∀ k o, ops[k]? = some o → stepTr P X O esc ops o (S k) = some (S (k + 1), F k)) {Q : Exit → Act → World → Prop}
    (hQ : ∀ m a w, Sim m0 H0 w0 (S ops.length) m a w → Q .normal a w) :
    ∀ (fuel : Nat) (listed : Array Bool) (pe : Nat) (m : Mp) (a : Act) (w : World), listed.size = ops.length → listed.toList.count false = fuel → Closed ops (Lof listed) →
      (pe = 0 ∨ ∃ o, ops[pe - 1]? = some o ∧ isEff o = true) → Inv ops S m0 H0 w0 (Lof listed) pe m a w → wpAny P .any ops.toArray Q fuel listed a w := by
  have hdone : ∀ (listed : Array Bool) (pe : Nat) (m : Mp) (a : Act) (w : World), listed.size = ops.length → Inv ops S m0 H0 w0 (Lof listed) pe m a w → Region.ready .any ops.toArray listed = [] → Q .normal a w := by
    intro listed pe m a w hsz hI hrdy
    have hall : ∀ k, k < ops.length → Lof listed k := by
      intro k
      induction k using Nat.strongRecOn with
      | ind k ih =>
        intro hk
        by_cases h : Lof listed k
        · exact h
        · exfalso
          have : k ∈ Region.ready .any ops.toArray listed := by
            rw [mem_ready]
            refine ⟨?_, ops[k], by simp [hk], fun e he hb => ?_⟩
            · unfold Lof at h
              have : k < listed.size := by omega
              simp [Array.getD_eq_getD_getElem?, this] at h ⊢
              exact h
            · have hlt := hs.back k _ (List.getElem?_eq_getElem hk) e he hb
              exact ih e.on hlt (by omega)
          rw [hrdy] at this; cases this
    have hpl := hI.pel
    have hI' := hI.shift hr (ops.length - pe) (by omega) (fun e o h1 h2 ho => by
      cases he : isEff o with
      | false => rfl
      | true => have := (hI.effs e o ho he).1 (hall e (List.getElem?_eq_some_iff.1 ho).1); omega)
    rw [show pe + (ops.length - pe) = ops.length by omega] at hI'
    refine hQ (cutAt m S ops.length) a w ⟨hI'.ext, ?_, hI.df⟩
    refine ⟨by rw [hr.frl (Nat.le_refl _), ← hI.frl]; simp, fun t v v' hv hv' => ?_⟩
    obtain ⟨j, u, h1, h2, h3, h4, h5⟩ := hI.fr t v' (by simpa using hv')
    have : (S ops.length).fr[t]? = (S j).fr[t]? := hr.keepF h1 (Nat.le_refl _) (fun c o hc1 hc2 ho hd => by have := h4 c o ho (hall c hc2) hd; omega)
    rw [hv, h2] at this
    injection this with this
    subst this
    exact h3.mono (hr.cutAt_mono h1 (Nat.le_refl _))
  intro fuel
  induction fuel with
  | zero =>
    intro listed pe m a w hsz hcnt hcl htop hI
    have hr0 : Region.ready .any ops.toArray listed = [] := by
      rw [List.eq_nil_iff_forall_not_mem]
      intro j hj
      obtain ⟨h1, o, ho, _⟩ := mem_ready.1 hj
      have hj' : j < listed.size := by
        rcases Nat.lt_or_ge j listed.size with h | h
        · exact h
        · simp [Array.getD_eq_getD_getElem?, Array.getElem?_eq_none h] at h1
      rw [List.count_eq_zero] at hcnt
      apply hcnt
      simp [Array.getD_eq_getD_getElem?, hj'] at h1
      rw [← h1]
      simp
    exact ⟨hr0, hdone listed pe m a w hsz hI hr0⟩
  | succ fuel ih =>
    intro listed pe m a w hsz hcnt hcl htop hI
    refine ⟨fun h => hdone listed pe m a w hsz hI h, fun k hk => ?_⟩
    obtain ⟨h1, o, ho, hrd⟩ := mem_ready.1 hk
    have ho' : ops[k]? = some o := by simpa using ho
    have hkl : k < ops.length := (List.getElem?_eq_some_iff.1 ho').1
    have hks : k < listed.size := by omega
    have hkf : listed[k] = false := by simpa [Array.getD_eq_getD_getElem?, hks] using h1
    have hnot : ¬ Lof listed k := by unfold Lof; simp [Array.getD_eq_getD_getElem?, hks, hkf]
    have hrd' : ∀ e ∈ o.after, Region.binds .any e = true → Lof listed e.on := hrd
    have hcnt' : (listed.setIfInBounds k true).toList.count false = fuel := by
      have := count_set (l := listed.toList) (k := k) (by simp [hks, hkf])
      simp only [Array.toList_setIfInBounds]
      omega
    have hcl' : Closed ops (fun c => Lof listed c ∨ c = k) := fun j o' hj hL e he hb => by
      rcases hL with hL | rfl
      · exact .inl (hcl j o' hj hL e he hb)
      · rw [ho'] at hj; injection hj with hj; subst hj; exact .inl (hrd' e he hb)
    have next : ∀ pe' m' a' w', (pe' = 0 ∨ ∃ o, ops[pe' - 1]? = some o ∧ isEff o = true) → Inv ops S m0 H0 w0 (fun c => Lof listed c ∨ c = k) pe' m' a' w' → wpAny P .any ops.toArray Q fuel (listed.setIfInBounds k true) a' w' := fun pe' m' a' w' ht' hI' =>
      ih _ pe' m' a' w' (by simpa using hsz) hcnt' (by rw [lof_set hks]; exact hcl') ht' (by rw [lof_set hks]; exact hI')
    have hstep := hst k o ho'
    unfold wpOp
    rw [ho]
    simp only
    rw [hI.wanted hr hs hcl ho' hnot hrd']
    unfold stepTr at hstep
    cases hw : wantedA ops (S k).fr o with
    | false =>
      rw [hw] at hstep
      simp only [cond_false, Option.some.injEq, Prod.mk.injEq] at hstep
      simp only [Bool.false_eq_true, if_false]
      have hne : isEff o = false ∨ isEff o = true := by cases isEff o <;> simp
      have hS : (S (k + 1)).fr = putF (S k).fr o.dst undef := by rw [← hstep.1]
      rcases hne with hne | hne
      · exact next pe m _ w htop (hI.calm hr hs hcl ho' hnot hne hS (VR.undef _))
      · -- one that would have acted
        have hIk : Inv ops S m0 H0 w0 (Lof listed) k m a w := by
          have hpk : pe ≤ k := by
            rcases Nat.lt_or_ge k pe with h | h
            · exact absurd ((hI.effs k o ho' hne).2 h) hnot
            · exact h
          have := hI.shift hr (k - pe) (by omega) (fun e o'' e1 e2 e3 => by
            cases he : isEff o'' with
            | false => rfl
            | true =>
              have hnL : ¬ Lof listed e := fun hl => by have := (hI.effs e o'' e3 he).1 hl; omega
              rcases hs.pair e k o'' o (by omega) e3 ho' with hb | ⟨hb, _⟩
              · exact absurd (hb.ready hcl (fun o1 ho1 => by rw [ho'] at ho1; injection ho1 with ho1; subst ho1; exact hrd')) hnL
              · exact absurd ⟨he, hne⟩ hb)
          rwa [show pe + (k - pe) = k by omega] at this
        have hx : Ext (cutAt m S k) (S k).H (S k).loc w (cutAt m S k) (S (k + 1)).H (S (k + 1)).loc w (F k).wg [] := by
          rw [← hstep.1, ← hstep.2]; exact Ext.refl hIk.ext.rel
        obtain ⟨m', hI'⟩ := hIk.act hr hs hcl ho' hnot hx hS (VR.undef _)
        exact next (k + 1) m' _ w (.inr ⟨o, by simpa using ho', hne⟩) hI'
    | true =>
      rw [hw] at hstep
      simp only [cond_true] at hstep
      simp only [if_true]
      left
      split at hstep
      · rename_i out hout
        simp only [Option.some.injEq, Prod.mk.injEq] at hstep
        obtain ⟨hS, hF⟩ := hstep
        have hSfr : (S (k + 1)).fr = putF (S k).fr o.dst out.v := by rw [← hS]
        have hSH : (S (k + 1)).H = out.H := by rw [← hS]
        have hSl : (S (k + 1)).loc = out.loc := by rw [← hS]
        have hopR := hI.opR hr hs hc hcl ho' hnot hrd'
        cases hkd : kindOf o.op with
        | eff =>
          have hne : isEff o = true := by unfold isEff; rw [hkd]
          have hIk : Inv ops S m0 H0 w0 (Lof listed) k m a w := by
            have hpk : pe ≤ k := by
              rcases Nat.lt_or_ge k pe with h | h
              · exact absurd ((hI.effs k o ho' hne).2 h) hnot
              · exact h
            have := hI.shift hr (k - pe) (by omega) (fun e o'' e1 e2 e3 => by
              cases he : isEff o'' with
              | false => rfl
              | true =>
                have hnL : ¬ Lof listed e := fun hl => by have := (hI.effs e o'' e3 he).1 hl; omega
                rcases hs.pair e k o'' o (by omega) e3 ho' with hb | ⟨hb, _⟩
                · exact absurd (hb.ready hcl (fun o1 ho1 => by rw [ho'] at ho1; injection ho1 with ho1; subst ho1; exact hrd')) hnL
                · exact absurd ⟨he, hne⟩ hb)
            rwa [show pe + (k - pe) = k by omega] at this
          refine evOp_sound hN hX hO hopR hIk.ext.rel hout fun v' w' m1 ds hds hx hv => ?_
          have hx' : Ext (cutAt m S k) (S k).H (S k).loc w m1 (S (k + 1)).H (S (k + 1)).loc w' (F k).wg out.wl := by
            rw [hSH, hSl, ← hF]; exact hx
          obtain ⟨m', hI'⟩ := (hIk.defer (hds hIk.df)).act hr hs hcl ho' hnot hx' hSfr hv
          exact next (k + 1) m' _ w' (.inr ⟨o, by simpa using ho', hne⟩) hI'
        | inert =>
          have hne : isEff o = false := by unfold isEff; rw [hkd]
          unfold evOp at hout
          rw [hkd] at hout
          simp only at hout
          split at hout
          · rename_i v hv
            injection hout with hout
            have hov : out.v = v := by rw [← hout]
            obtain ⟨v', hrun, hvr⟩ := evInert_sound (P := P) (hI.esz hr (k := k) (by omega)) hopR hv w
            unfold Oper.wp
            rw [hrun]
            exact next pe m _ w htop (hI.calm hr hs hcl ho' hnot hne (by rw [hSfr, hov]) (hvr.mono (hr.cutAt_mono (by omega) hkl)))
          · cases hout
        | load =>
          have hne : isEff o = false := by unfold isEff; rw [hkd]
          have hld : isLoad o = true := by unfold isLoad; rw [hkd]
          unfold evOp at hout
          rw [hkd] at hout
          simp only at hout
          split at hout
          · rename_i t x hox
            split at hout
            · rename_i v hv
              injection hout with hout
              have hov : out.v = v := by rw [← hout]
              obtain ⟨v', hrun, hvr⟩ := hI.load (P := P) hr hs hdy hcl htop ho' hnot hrd' hld (hopR x (by simp [hox, Op.operands])) hv (fun ad had => by
                rw [← hF]
                simp only [readsOf, hox, had]
                obtain ⟨ab, ao, asp⟩ := ad
                constructor
                · intro e; simp only at e; subst e; simp
                · intro e; simp only at e; subst e; simp) (by rw [← hF, ← hov])
              unfold Oper.wp execOp
              simp only [hox, Sem.run_bind, hrun, Result.andThen_ok, Sem.run_pure]
              exact next pe m _ w htop (hI.calm hr hs hcl ho' hnot hne (by rw [hSfr, hov]) hvr)
            · cases hout
          · cases hout
        | alloc =>
          have hne : isEff o = false := by unfold isEff; rw [hkd]
          unfold evOp at hout
          rw [hkd] at hout
          simp only [fVals_eq, fSpine_eq] at hout
          split at hout
          · rename_i b kk hb
            obtain ⟨cs, hrun, hvr, hlive, hloose⟩ := alloc_run (P := P) hopR hb w
            unfold Oper.wp
            rw [hrun]
            simp only [Oper.upon]
            rcases cond_cases hout with ⟨_, hout⟩ | ⟨_, hout⟩
            · rcases cond_cases hout with ⟨hn, hout⟩ | ⟨_, hout⟩
              · simp only [Option.some.injEq] at hout
                have hoH : out.H = (S k).H ++ [b] := by rw [← hout]
                have hol : out.loc = (S k).loc := by rw [← hout]
                have hov : out.v = nameV kk ⟨(S k).H.length, 0, none⟩ := by rw [← hout]
                refine next pe _ _ _ htop (hI.makeG hr hs h0 hcl ho' hnot hne (hSH.trans hoH) (hSl.trans hol) (hI.grG hr hkl hnot (hSH.trans hoH) (vrs_noLoc hn hvr) hloose hlive) (by rw [hSfr, hov]) ?_)
                exact nameV_vr (a := ⟨(S k).H.length, 0, none⟩) (a' := ⟨w.heap.size, 0, none⟩) (.inl ⟨rfl, cutAt_gb.2 ⟨by rw [hSH, hoH]; simp, by simp [Mp.addG]⟩, rfl, rfl⟩) kk
              · cases hout
            · simp only [Option.some.injEq] at hout
              have hoH : out.H = (S k).H := by rw [← hout]
              have hol : out.loc = (S k).loc ++ [b] := by rw [← hout]
              have hov : out.v = nameV kk ⟨(S k).loc.length, 0, some 0⟩ := by rw [← hout]
              refine next pe _ _ _ htop (hI.makeL hr hs hcl ho' hnot hne (hSH.trans hoH) (hSl.trans hol) hvr hlive (by rw [hSfr, hov]) ?_)
              exact nameV_vr (a := ⟨(S k).loc.length, 0, some 0⟩) (a' := ⟨w.heap.size, 0, none⟩) (.inr ⟨rfl, cutAt_lb.2 ⟨by rw [hSl, hol]; simp, by simp [Mp.addL]⟩, rfl, rfl⟩) kk
          · cases hout
        | look =>
          have hne : isEff o = false := by unfold isEff; rw [hkd]
          have hlo : isLook o = true := by unfold isLook; rw [hkd]
          unfold evOp at hout
          rw [hkd] at hout
          simp only at hout
          split at hout
          · rename_i v hv
            injection hout with hout
            have hov : out.v = v := by rw [← hout]
            have hrun : (execOp a.eval o).run P w = .ok (.value v) w ∧ ∀ m', VR m' v v := by
              have hpl := hI.pel
              rcases Nat.lt_or_ge k pe with hpk | hpk
              · rcases htop with h0' | ⟨oe, hoe, hee⟩
                · omega
                · have hek : pe - 1 ≠ k := fun e' => by rw [e', ho'] at hoe; injection hoe with hoe; rw [← hoe, hne] at hee; cases hee
                  have hLe : Lof listed (pe - 1) := (hI.effs _ _ hoe hee).2 (by omega)
                  obtain ⟨v1, e1, e2⟩ := hlk k (pe - 1) o oe ho' hoe hlo hee (by omega) (fun hb => hnot (hb.closed hcl hLe))
                  rw [hv] at e1; injection e1 with e1; subst e1
                  rw [show pe - 1 + 1 = pe by omega] at e2
                  exact look_sound hI.ext.rel (fun x hx => (hopR x hx).mono (hr.cutAt_mono (by omega) hpl)) e2
              · have hI' := hI.shift hr (k - pe) (by omega) (fun e o'' e1 e2 e3 => by
                  cases he : isEff o'' with
                  | false => rfl
                  | true =>
                    have hnL : ¬ Lof listed e := fun hl => by have := (hI.effs e o'' e3 he).1 hl; omega
                    exact absurd ((hs.lk e k o'' o (by omega) e3 ho' he hlo).ready hcl (fun o1 ho1 => by rw [ho'] at ho1; injection ho1 with ho1; subst ho1; exact hrd')) hnL)
                rw [show pe + (k - pe) = k by omega] at hI'
                exact look_sound hI'.ext.rel hopR hv
            unfold Oper.wp
            rw [hrun.1]
            exact next pe m _ w htop (hI.calm hr hs hcl ho' hnot hne (by rw [hSfr, hov]) (hrun.2 _))
          · cases hout
        | mkmap =>
          have hne : isEff o = false := by unfold isEff; rw [hkd]
          unfold evOp at hout
          rw [hkd] at hout
          simp only [fSpine_eq] at hout
          split at hout
          · rename_i t hox
            simp only [Option.some.injEq] at hout
            have hoH : out.H = (S k).H ++ [⟨[.bool true], 0, 0, false, false⟩] := by rw [← hout]; rfl
            have hol : out.loc = (S k).loc := by rw [← hout]
            have hov : out.v = .map (some (S k).H.length) := by rw [← hout]; rfl
            have hrun : (Instr.makeMap t none).run P w = .ok (.map (some w.heap.size)) (w.alloc (.map #[] 0)) := by simp [Instr.makeMap]
            unfold Oper.wp execOp
            simp only [hox, Option.map_none, Sem.run_bind, hrun, Result.andThen_ok, Sem.run_pure]
            refine next pe _ _ _ htop (hI.makeG (tt := 0) hr hs h0 hcl ho' hnot hne (hSH.trans hoH) (hSl.trans hol) ⟨by simp [cutAt, Mp.cut, Mp.addG], by simp [cutAt, Mp.cut, Mp.addG], (fun e => by cases e), fun _ _ => ⟨#[], heap_alloc_new w _, trivial⟩⟩ (by rw [hSfr, hov]) ?_)
            exact .mapG (cutAt_gb.2 ⟨by rw [hSH, hoH]; simp, by simp [Mp.addG]⟩)
          · cases hout
      · cases hstep

theorem draw_sound (hm : P.follows .mixedOrders = true) (hN : Named P) {X : Xt} (hX : GoodX P X) {O : Orc} (hO : GoodO P O) (hP : PureO O) {esc : Nat → Bool} (hc : constsOk ops = true) {s s' : St} {m : Mp} {a : Act} {w : World} {id : Nat}
    (h : drawOps P X O esc ops s = some s') (hsim : Sim m0 H0 w0 s m a w) {Q : Exit → Act → World → Prop} (hQ : ∀ m' a' w', Sim m0 H0 w0 s' m' a' w' → Q .normal a' w') : (Code.region id ops.toArray true).wp P Q a w := by
  unfold drawOps at h
  cases hst : staticOk ops with
  | false => rw [hst] at h; cases h
  | true =>
    rw [hst] at h
    simp only [cond_true] at h
    split at h
    · rename_i s1 fps htr
      cases hdl : (dynOk (confOf ops) fps && (lkOf ops).all (lookAt P X O esc ops s)) with
      | false => rw [hdl] at h; cases h
      | true =>
        rw [hdl] at h
        obtain ⟨hdy, hlk⟩ := Bool.and_eq_true_iff.1 hdl
        simp only [cond_true, Option.some.injEq] at h
        subst h
        obtain ⟨S, F, e0, e1, e2, e3⟩ := trace_states ops s s1 fps htr
        have hr : Run ops S F := ⟨fun k o ho => step_pure hP (e3 k o ho), fun k o ho hne => step_quiet hne (e3 k o ho)⟩
        have hs := static_spec hst
        have hdr : DynR ops F := fun i j x y hx hy ex ly n1 n2 => dyn_spec hdy hx hy ex ly n1 n2 (e2 i (List.getElem?_eq_some_iff.1 hx).1) (e2 j (List.getElem?_eq_some_iff.1 hy).1)
        have hfr := hsim.fr
        have hext := hsim.ext
        have hcut : Le m (cutAt m S 0) := by
          refine ⟨fun i g e => cutAt_gb.2 ⟨?_, e⟩, fun i g e => cutAt_lb.2 ⟨?_, e⟩, fun _ _ _ => rfl, fun _ _ _ => rfl, fun _ _ _ => rfl⟩
          · obtain ⟨_, b, hb, _⟩ := hext.rel.glob i g e
            rw [e0]; exact (List.getElem?_eq_some_iff.1 hb).1
          · obtain ⟨_, b, hb, _⟩ := hext.rel.locs i g e
            rw [e0]; exact (List.getElem?_eq_some_iff.1 hb).1
        refine wp_region_any hm (any_sound hN hX hO hr hs hdr (fun i j x y hx hy lx ey hij n => look_spec (by rw [e0]; exact hlk) e3 hx hy lx ey hij n) hc (by rw [e0]; exact hext.len) e3 (fun m' a' w' hs' => hQ m' a' w' (e1 ▸ hs')) _ _ 0 m a _ (by simp) (by simp) (fun j o ho hL => ?_) (.inl rfl) ?_)
        · unfold Lof at hL
          simp [Array.getD_eq_getD_getElem?] at hL
          rcases Nat.lt_or_ge j ops.length with h | h
          · simp [h] at hL
          · simp [Nat.not_lt.2 h] at hL
        · have hLf : ∀ c, ¬ Lof (Array.replicate ops.toArray.size false) c := fun c hL => by
            unfold Lof at hL
            rcases Nat.lt_or_ge c ops.length with h | h
            · simp [Array.getD_eq_getD_getElem?, h] at hL
            · simp [Array.getD_eq_getD_getElem?, Nat.not_lt.2 h] at hL
          refine ⟨by omega, fun e o ho he => ⟨fun hL => absurd hL (hLf e), fun h => by omega⟩, ?_, fun i g e => ?_, fun i g e => ?_, fun c i g c1 c2 c3 c4 e => ?_, fun c i g c1 c2 c3 c4 e => ?_, fun c hc => by omega, fun c hc => by omega, fun t v' hv => ?_, ?_, hsim.df⟩
          · rw [e0]
            refine ext_more hext hcut (fun _ _ => rfl) (Nat.le_refl _) (fun _ _ => rfl) (Nat.le_refl _) (fun _ _ => rfl) (Nat.le_refl _) rfl rfl rfl (fun i g e => .inl (cutAt_gb.1 e).2) (fun i g e => .inl (cutAt_lb.1 e).2)
          · obtain ⟨_, b, hb, _⟩ := hext.rel.glob i g e
            rw [e0]; exact .inl (List.getElem?_eq_some_iff.1 hb).1
          · obtain ⟨_, b, hb, _⟩ := hext.rel.locs i g e
            rw [e0]; exact .inl (List.getElem?_eq_some_iff.1 hb).1
          · obtain ⟨_, b, hb, _⟩ := hext.rel.glob i g e
            have h1 := (List.getElem?_eq_some_iff.1 hb).1
            have h2 := hr.monoG (j := 0) (k := c) (by omega) (by omega)
            rw [e0] at h2; omega
          · obtain ⟨_, b, hb, _⟩ := hext.rel.locs i g e
            have h1 := (List.getElem?_eq_some_iff.1 hb).1
            have h2 := hr.monoL (j := 0) (k := c) (by omega) (by omega)
            rw [e0] at h2; omega
          · have hlen : s.fr.length = a.tmps.size := by simpa using hfr.1
            have ht : t < s.fr.length := by rw [hlen]; exact (Array.getElem?_eq_some_iff.1 hv).1
            refine ⟨0, s.fr[t], by omega, by rw [e0]; exact List.getElem?_eq_getElem ht, (hfr.2 t _ v' (List.getElem?_eq_getElem ht) (by simpa using hv)).mono hcut, fun c o ho hL => absurd hL (hLf c), .inl rfl⟩
          · rw [e0]; simpa using hfr.1.symm
    · cases h

end
end Go.Am
end

