/-
  Drawn regions: one after the other comes up, in whatever order.
-/
import Derived.Test.YthbfmjlcnfgnbaaGreatAmN
namespace Go.Am
section
variable {P : Program} {ops : List Oper} {S : Nat → St} {F : Nat → Fp} {m0 : Mp} {H0 : Hp} {w0 : World} {L : Nat → Prop} {pe : Nat} {m : Mp} {a : Act} {w : World}

theorem addG_inv {i g : Nat} {lo : Bool} {ez tt j g' : Nat} (e : (m.addG i g lo ez tt).gb j = some g') : m.gb j = some g' ∨ (j = i ∧ g' = g) := by
  simp only [Mp.addG] at e
  by_cases h : j = i
  · simp [h] at e; exact .inr ⟨h, e.symm⟩
  · simp [h] at e; exact .inl e
theorem addL_inv {i g j g' : Nat} (e : (m.addL i g).lb j = some g') : m.lb j = some g' ∨ (j = i ∧ g' = g) := by
  simp only [Mp.addL] at e
  by_cases h : j = i
  · simp [h] at e; exact .inr ⟨h, e.symm⟩
  · simp [h] at e; exact .inl e

theorem size_alloc' (w : World) (o : Obj) : (w.alloc o).heap.size = w.heap.size + 1 := World.size_alloc ..

theorem Inv.makeG (hr : Run ops S F) (hs : Sta ops) (hI : Inv ops S m0 H0 w0 L pe m a w) (h0 : H0.length ≤ (S 0).H.length) (hcl : Closed ops L) {k : Nat} {o : Oper} (ho : ops[k]? = some o) (hnot : ¬ L k) (hq : isEff o = false) {b : Blk} {cs : Array Value}
    (hH : (S (k + 1)).H = (S k).H ++ [b]) (hl : (S (k + 1)).loc = (S k).loc) (hc : VRs (cutAt m S k).noL b.cells cs.toList) (hlo : b.loose = false) {v v' : Value}
    (hfr : (S (k + 1)).fr = putF (S k).fr o.dst v) (hv : VR (cutAt (m.addG (S k).H.length w.heap.size b.loose b.esz cs.size) S (k + 1)) v v') :
    Inv ops S m0 H0 w0 (fun c => L c ∨ c = k) pe (m.addG (S k).H.length w.heap.size b.loose b.esz cs.size) (a.put o.dst v') (w.alloc (.cells cs b.elem)) := by
  have hk : k < ops.length := (List.getElem?_eq_some_iff.1 ho).1
  have hlen : (S (k + 1)).H.length = (S k).H.length + 1 := by rw [hH]; simp
  have hnone : m.gb (S k).H.length = none := hI.noneG hr hk hnot (Nat.le_refl _) (by omega)
  have hle : Le m (m.addG (S k).H.length w.heap.size b.loose b.esz cs.size) := le_addG hnone
  have hb : (S (k + 1)).H[(S k).H.length]? = some b := by rw [hH]; simp
  have hin : (m.addG (S k).H.length w.heap.size b.loose b.esz cs.size).gb (S k).H.length = some w.heap.size := by simp [Mp.addG]
  have hGR : GR (cutAt (m.addG (S k).H.length w.heap.size b.loose b.esz cs.size) S (k + 1)) (S k).H.length w.heap.size b (w.alloc (.cells cs b.elem)) := by
    have hcl : b.cells.length = cs.size := by simpa using hc.1
    refine ⟨by simp [cutAt, Mp.cut, Mp.addG], by simp [cutAt, Mp.cut, Mp.addG], fun _ => ⟨cs, heap_alloc_new w _, by omega, ?_, fun _ => hcl.symm, fun e => by rw [hlo] at e; cases e⟩⟩
    rw [hcl, show cs.size = cs.toList.length by simp, List.take_length]
    exact hc.mono ((hle.cutAt k).trans (hr.cutAt_mono (by omega) hk)).noL
  have huniq : ∀ j, (m.addG (S k).H.length w.heap.size b.loose b.esz cs.size).gb j = some w.heap.size → j = (S k).H.length := fun j e => by
    rcases addG_inv e with e | ⟨e, _⟩
    · have := hI.ltG hr e; omega
    · exact e
  have hnl : ∀ j, m.lb j ≠ some w.heap.size := fun j e => by have := hI.ltL hr e; omega
  have hws : w0.heap.size ≤ w.heap.size := hI.ext.size
  refine ⟨hI.pel, fun e o' ho' he => ?_, ?_, fun i g e => ?_, fun i g e => ?_, fun c i g c1 c2 c3 c4 e => ?_, fun c i g c1 c2 c3 c4 e => ?_, fun c hc hn => hI.late c hc (fun h => hn (.inl h)), fun c hc hn => hI.latel c hc (fun h => hn (.inl h)),
    hI.slots hr hs hcl ho hnot hle hfr hv, by rw [put_size]; exact hI.frl, by rw [put_df]; exact hI.df⟩
  · rw [← hI.effs e o' ho' he]
    constructor
    · rintro (h | h)
      · exact h
      · subst h; rw [ho] at ho'; injection ho' with ho'; subst ho'; rw [hq] at he; cases he
    · exact .inl
  · refine ext_more hI.ext (hle.cutAt pe) (fun _ _ => rfl) (Nat.le_refl _) (fun _ _ => rfl) (Nat.le_refl _) (fun g hg => heap_alloc_lt w _ hg) (by rw [size_alloc']; omega) rfl rfl rfl (fun i g e => ?_) (fun i g e => .inl e)
    obtain ⟨e1, e2⟩ := cutAt_gb.1 e
    rcases addG_inv e2 with e3 | ⟨rfl, rfl⟩
    · exact .inl (cutAt_gb.2 ⟨e1, e3⟩)
    · have hkp : k < pe := by
        rcases Nat.lt_or_ge k pe with h | h
        · exact h
        · have := hr.monoG h (by omega); omega
      refine .inr ⟨Nat.le_trans h0 (hr.monoG (by omega) (by omega)), e1, by rw [size_alloc']; omega, hws, ⟨b, ?_, hGR.mono (hr.cutAt_mono (by omega) hI.pel) (cutAt_gb.2 ⟨by omega, hin⟩) (fun _ => rfl)⟩, fun j e => huniq j (cutAt_gb.1 e).2, fun j e => hnl j (cutAt_lb.1 e).2⟩
      rw [hI.late k hkp hnot _ (Nat.le_refl _) (by omega)]; exact hb
  · rcases addG_inv e with e | ⟨rfl, rfl⟩
    · rcases hI.dom i g e with h | ⟨c, h1, h2, h3⟩
      · exact .inl h
      · exact .inr ⟨c, h1, .inl h2, h3⟩
    · exact .inr ⟨k, hk, .inr rfl, Nat.le_refl _, by omega⟩
  · rcases hI.doml i g e with h | ⟨c, h1, h2, h3⟩
    · exact .inl h
    · exact .inr ⟨c, h1, .inl h2, h3⟩
  · rcases addG_inv e with e | ⟨rfl, rfl⟩
    · obtain ⟨f1, f2, ⟨b0, f3, f4⟩, f5, f6⟩ := hI.flG c i g c1 c2 c3 c4 e
      refine ⟨by rw [size_alloc']; omega, f2, ⟨b0, f3, f4.mono (hle.cutAt (c + 1)) (cutAt_gb.2 ⟨c4, e⟩) (fun _ => heap_alloc_lt w _ f1)⟩, fun j ej => ?_, f6⟩
      rcases addG_inv ej with ej | ⟨_, ej⟩
      · exact f5 j ej
      · omega
    · have := hr.makerG c2 hk c3 c4 (Nat.le_refl _) (by omega)
      subst this
      exact ⟨by rw [size_alloc']; omega, hws, ⟨b, hb, hGR⟩, huniq, hnl⟩
  · obtain ⟨f1, f2, ⟨b0, f3, f4⟩, f5, f6⟩ := hI.flL c i g c1 c2 c3 c4 e
    refine ⟨by rw [size_alloc']; omega, f2, ⟨b0, f3, f4.mono (hle.cutAt (c + 1)) (heap_alloc_lt w _ f1)⟩, f5, fun j ej => ?_⟩
    rcases addG_inv ej with ej | ⟨_, ej⟩
    · exact f6 j ej
    · omega

theorem Inv.makeL (hr : Run ops S F) (hs : Sta ops) (hI : Inv ops S m0 H0 w0 L pe m a w) (hcl : Closed ops L) {k : Nat} {o : Oper} (ho : ops[k]? = some o) (hnot : ¬ L k) (hq : isEff o = false) {b : Blk} {cs : Array Value}
    (hH : (S (k + 1)).H = (S k).H) (hl : (S (k + 1)).loc = (S k).loc ++ [b]) (hc : VRs (cutAt m S k) b.cells cs.toList) (hlive : b.live = true) {v v' : Value}
    (hfr : (S (k + 1)).fr = putF (S k).fr o.dst v) (hv : VR (cutAt (m.addL (S k).loc.length w.heap.size) S (k + 1)) v v') :
    Inv ops S m0 H0 w0 (fun c => L c ∨ c = k) pe (m.addL (S k).loc.length w.heap.size) (a.put o.dst v') (w.alloc (.cells cs b.elem)) := by
  have hk : k < ops.length := (List.getElem?_eq_some_iff.1 ho).1
  have hlen : (S (k + 1)).loc.length = (S k).loc.length + 1 := by rw [hl]; simp
  have hnone : m.lb (S k).loc.length = none := hI.noneL hr hk hnot (Nat.le_refl _) (by omega)
  have hle : Le m (m.addL (S k).loc.length w.heap.size) := le_addL hnone
  have hb : (S (k + 1)).loc[(S k).loc.length]? = some b := by rw [hl]; simp
  have hLR : LR (cutAt (m.addL (S k).loc.length w.heap.size) S (k + 1)) w.heap.size b (w.alloc (.cells cs b.elem)) :=
    ⟨fun _ => ⟨cs, heap_alloc_new w _, hc.mono ((hle.cutAt k).trans (hr.cutAt_mono (by omega) hk))⟩, fun e => by rw [hlive] at e; cases e⟩
  have huniq : ∀ j, (m.addL (S k).loc.length w.heap.size).lb j = some w.heap.size → j = (S k).loc.length := fun j e => by
    rcases addL_inv e with e | ⟨e, _⟩
    · have := hI.ltL hr e; omega
    · exact e
  have hnl : ∀ j, m.gb j ≠ some w.heap.size := fun j e => by have := hI.ltG hr e; omega
  have hws : w0.heap.size ≤ w.heap.size := hI.ext.size
  refine ⟨hI.pel, fun e o' ho' he => ?_, ?_, fun i g e => ?_, fun i g e => ?_, fun c i g c1 c2 c3 c4 e => ?_, fun c i g c1 c2 c3 c4 e => ?_, fun c hc hn => hI.late c hc (fun h => hn (.inl h)), fun c hc hn => hI.latel c hc (fun h => hn (.inl h)),
    hI.slots hr hs hcl ho hnot hle hfr hv, by rw [put_size]; exact hI.frl, by rw [put_df]; exact hI.df⟩
  · rw [← hI.effs e o' ho' he]
    constructor
    · rintro (h | h)
      · exact h
      · subst h; rw [ho] at ho'; injection ho' with ho'; subst ho'; rw [hq] at he; cases he
    · exact .inl
  · refine ext_more hI.ext (hle.cutAt pe) (fun _ _ => rfl) (Nat.le_refl _) (fun _ _ => rfl) (Nat.le_refl _) (fun g hg => heap_alloc_lt w _ hg) (by rw [size_alloc']; omega) rfl rfl rfl (fun i g e => .inl e) (fun i g e => ?_)
    obtain ⟨e1, e2⟩ := cutAt_lb.1 e
    rcases addL_inv e2 with e3 | ⟨rfl, rfl⟩
    · exact .inl (cutAt_lb.2 ⟨e1, e3⟩)
    · have hkp : k < pe := by
        rcases Nat.lt_or_ge k pe with h | h
        · exact h
        · have := hr.monoL h (by omega); omega
      refine .inr ⟨e1, by rw [size_alloc']; omega, hws, ⟨b, ?_, hLR.mono (hr.cutAt_mono (by omega) hI.pel) rfl⟩, fun j e => huniq j (cutAt_lb.1 e).2, fun j e => hnl j (cutAt_gb.1 e).2⟩
      rw [hI.latel k hkp hnot _ (Nat.le_refl _) (by omega)]; exact hb
  · rcases hI.dom i g e with h | ⟨c, h1, h2, h3⟩
    · exact .inl h
    · exact .inr ⟨c, h1, .inl h2, h3⟩
  · rcases addL_inv e with e | ⟨rfl, rfl⟩
    · rcases hI.doml i g e with h | ⟨c, h1, h2, h3⟩
      · exact .inl h
      · exact .inr ⟨c, h1, .inl h2, h3⟩
    · exact .inr ⟨k, hk, .inr rfl, Nat.le_refl _, by omega⟩
  · obtain ⟨f1, f2, ⟨b0, f3, f4⟩, f5, f6⟩ := hI.flG c i g c1 c2 c3 c4 e
    refine ⟨by rw [size_alloc']; omega, f2, ⟨b0, f3, f4.mono (hle.cutAt (c + 1)) (cutAt_gb.2 ⟨c4, e⟩) (fun _ => heap_alloc_lt w _ f1)⟩, f5, fun j ej => ?_⟩
    rcases addL_inv ej with ej | ⟨_, ej⟩
    · exact f6 j ej
    · omega
  · rcases addL_inv e with e | ⟨rfl, rfl⟩
    · obtain ⟨f1, f2, ⟨b0, f3, f4⟩, f5, f6⟩ := hI.flL c i g c1 c2 c3 c4 e
      refine ⟨by rw [size_alloc']; omega, f2, ⟨b0, f3, f4.mono (hle.cutAt (c + 1)) (heap_alloc_lt w _ f1)⟩, fun j ej => ?_, f6⟩
      rcases addL_inv ej with ej | ⟨_, ej⟩
      · exact f5 j ej
      · omega
    · have := hr.makerL c2 hk c3 c4 (Nat.le_refl _) (by omega)
      subst this
      exact ⟨by rw [size_alloc']; omega, hws, ⟨b, hb, hLR⟩, huniq, hnl⟩

/-- The one that acts comes up: the moment stands at it. -/
theorem Inv.act (hr : Run ops S F) (hs : Sta ops) (hcl : Closed ops L) {k : Nat} (hI : Inv ops S m0 H0 w0 L k m a w) {o : Oper} (ho : ops[k]? = some o) (hnot : ¬ L k) {m1 : Mp} {w' : World} {wl : List Nat}
    (hx : Ext (cutAt m S k) (S k).H (S k).loc w m1 (S (k + 1)).H (S (k + 1)).loc w' (F k).wg wl) {v v' : Value}
    (hfr : (S (k + 1)).fr = putF (S k).fr o.dst v) (hv : VR m1 v v') : ∃ m', Inv ops S m0 H0 w0 (fun c => L c ∨ c = k) (k + 1) m' (a.put o.dst v') w' := by
  have hk : k < ops.length := (List.getElem?_eq_some_iff.1 ho).1
  have hp := hr.pur hk
  let m' : Mp := { gb := fun i => if i < (S (k + 1)).H.length then m1.gb i else m.gb i, lb := fun i => if i < (S (k + 1)).loc.length then m1.lb i else m.lb i,
                   loose := fun i => if i < (S (k + 1)).H.length then m1.loose i else m.loose i, esz := fun i => if i < (S (k + 1)).H.length then m1.esz i else m.esz i, tot := fun i => if i < (S (k + 1)).H.length then m1.tot i else m.tot i }
  have hgb : ∀ i g, m'.gb i = some g → (i < (S (k + 1)).H.length ∧ m1.gb i = some g) ∨ ((S (k + 1)).H.length ≤ i ∧ m.gb i = some g) := fun i g e => by
    simp only [m'] at e
    by_cases h : i < (S (k + 1)).H.length
    · simp [h] at e; exact .inl ⟨h, e⟩
    · simp [h] at e; exact .inr ⟨by omega, e⟩
  have hlb : ∀ i g, m'.lb i = some g → (i < (S (k + 1)).loc.length ∧ m1.lb i = some g) ∨ ((S (k + 1)).loc.length ≤ i ∧ m.lb i = some g) := fun i g e => by
    simp only [m'] at e
    by_cases h : i < (S (k + 1)).loc.length
    · simp [h] at e; exact .inl ⟨h, e⟩
    · simp [h] at e; exact .inr ⟨by omega, e⟩
  have hdom1 : ∀ i g, m1.gb i = some g → i < (S (k + 1)).H.length := fun i g e => by
    obtain ⟨_, b, h2, _⟩ := hx.rel.glob i g e
    exact (List.getElem?_eq_some_iff.1 h2).1
  have hdom1l : ∀ i g, m1.lb i = some g → i < (S (k + 1)).loc.length := fun i g e => by
    obtain ⟨_, b, h2, _⟩ := hx.rel.locs i g e
    exact (List.getElem?_eq_some_iff.1 h2).1
  have hle1 : Le m1 m' := ⟨fun i g e => by simp [m', hdom1 i g e, e], fun i g e => by simp [m', hdom1l i g e, e], fun i g e => by simp [m', hdom1 i g e], fun i g e => by simp [m', hdom1 i g e], fun i g e => by simp [m', hdom1 i g e]⟩
  have hle1c : Le m1 (cutAt m' S (k + 1)) := ⟨fun i g e => cutAt_gb.2 ⟨hdom1 i g e, hle1.gb i g e⟩, fun i g e => cutAt_lb.2 ⟨hdom1l i g e, hle1.lb i g e⟩, fun i g e => hle1.loose i g e, fun i g e => hle1.esz i g e, fun i g e => hle1.tot i g e⟩
  have hmk : ∀ i g, m.gb i = some g → i < (S (k + 1)).H.length → (cutAt m S k).gb i = some g := fun i g e hi => by
    by_cases h : i < (S k).H.length
    · exact cutAt_gb.2 ⟨h, e⟩
    · rw [hI.noneG hr hk hnot (by omega) hi] at e; cases e
  have hmkl : ∀ i g, m.lb i = some g → i < (S (k + 1)).loc.length → (cutAt m S k).lb i = some g := fun i g e hi => by
    by_cases h : i < (S k).loc.length
    · exact cutAt_lb.2 ⟨h, e⟩
    · rw [hI.noneL hr hk hnot (by omega) hi] at e; cases e
  have hle : Le m m' := by
    refine ⟨fun i g e => ?_, fun i g e => ?_, fun i g e => ?_, fun i g e => ?_, fun i g e => ?_⟩
    · by_cases h : i < (S (k + 1)).H.length
      · simp [m', h, hx.le.gb i g (hmk i g e h)]
      · simp [m', h, e]
    · by_cases h : i < (S (k + 1)).loc.length
      · simp [m', h, hx.le.lb i g (hmkl i g e h)]
      · simp [m', h, e]
    · by_cases h : i < (S (k + 1)).H.length
      · simp [m', h, hx.le.loose i g (hmk i g e h), cutAt, Mp.cut]
      · simp [m', h]
    · by_cases h : i < (S (k + 1)).H.length
      · simp [m', h, hx.le.esz i g (hmk i g e h), cutAt, Mp.cut]
      · simp [m', h]
    · by_cases h : i < (S (k + 1)).H.length
      · simp [m', h, hx.le.tot i g (hmk i g e h), cutAt, Mp.cut]
      · simp [m', h]
  refine ⟨m', hk, fun e o' ho' he => ?_, ?_, fun i g e => ?_, fun i g e => ?_, fun c i g c1 c2 c3 c4 e => ?_, fun c i g c1 c2 c3 c4 e => ?_, fun c hc hn i h1 h2 => ?_, fun c hc hn i h1 h2 => ?_,
    hI.slots hr hs hcl ho hnot hle hfr (hv.mono hle1c), by rw [put_size]; exact hI.frl, by rw [put_df]; exact hI.df⟩
  · constructor
    · rintro (h | h)
      · have := (hI.effs e o' ho' he).1 h; omega
      · omega
    · intro h
      by_cases hek : e = k
      · exact .inr hek
      · exact .inl ((hI.effs e o' ho' he).2 (by omega))
  · have h1 := (hI.ext.trans hx).nil_wl
    have hwg : (S (k + 1)).wg = (S k).wg ++ (F k).wg := (hr.sp k o ho).wg
    rw [hwg]
    refine ext_more h1 hle1c (fun _ _ => rfl) (Nat.le_refl _) (fun _ _ => rfl) (Nat.le_refl _) (fun _ _ => rfl) (Nat.le_refl _) rfl rfl rfl (fun i g e => ?_) (fun i g e => ?_)
    · obtain ⟨e1, e2⟩ := cutAt_gb.1 e
      rcases hgb i g e2 with ⟨_, h⟩ | ⟨h, _⟩
      · exact .inl h
      · omega
    · obtain ⟨e1, e2⟩ := cutAt_lb.1 e
      rcases hlb i g e2 with ⟨_, h⟩ | ⟨h, _⟩
      · exact .inl h
      · omega
  · rcases hgb i g e with ⟨h1, h2⟩ | ⟨h1, h2⟩
    · rcases hx.dom i g h2 with h3 | ⟨h3, h4⟩
      · rcases hI.dom i g (cutAt_gb.1 h3).2 with h | ⟨c, h1, h2, h3⟩
        · exact .inl h
        · exact .inr ⟨c, h1, .inl h2, h3⟩
      · exact .inr ⟨k, hk, .inr rfl, h3, h4⟩
    · rcases hI.dom i g h2 with h | ⟨c, h1, h2, h3⟩
      · exact .inl h
      · exact .inr ⟨c, h1, .inl h2, h3⟩
  · rcases hlb i g e with ⟨h1, h2⟩ | ⟨h1, h2⟩
    · rcases hx.doml i g h2 with h3 | ⟨h3, h4⟩
      · rcases hI.doml i g (cutAt_lb.1 h3).2 with h | ⟨c, h1, h2, h3⟩
        · exact .inl h
        · exact .inr ⟨c, h1, .inl h2, h3⟩
      · exact .inr ⟨k, hk, .inr rfl, h3, h4⟩
    · rcases hI.doml i g h2 with h | ⟨c, h1, h2, h3⟩
      · exact .inl h
      · exact .inr ⟨c, h1, .inl h2, h3⟩
  · have hge : (S (k + 1)).H.length ≤ i := Nat.le_trans (hr.monoG c1 (by omega)) c3
    rcases hgb i g e with ⟨h1, _⟩ | ⟨_, e⟩
    · omega
    obtain ⟨f1, f2, ⟨b0, f3, f4⟩, f5, f6⟩ := hI.flG c i g (by omega) c2 c3 c4 e
    have hgek : (S k).H.length ≤ i := Nat.le_trans hp.len hge
    have hsame : w'.heap[g]? = w.heap[g]? := hx.frame g f1 (fun j ej => by have := f5 j (cutAt_gb.1 ej).2; have := (cutAt_gb.1 ej).1; omega) (fun j ej => f6 j (cutAt_lb.1 ej).2)
    refine ⟨Nat.lt_of_lt_of_le f1 hx.size, f2, ⟨b0, f3, f4.mono (hle.cutAt (c + 1)) (cutAt_gb.2 ⟨c4, e⟩) (fun _ => hsame)⟩, fun j ej => ?_, fun j ej => ?_⟩
    · rcases hgb j g ej with ⟨_, ej⟩ | ⟨_, ej⟩
      · rcases hx.img j g ej with ⟨j', ej'⟩ | h
        · have := f5 j' (cutAt_gb.1 ej').2; have := (cutAt_gb.1 ej').1; omega
        · omega
      · exact f5 j ej
    · rcases hlb j g ej with ⟨_, ej⟩ | ⟨_, ej⟩
      · rcases hx.imgl j g ej with ej' | h
        · exact f6 j (cutAt_lb.1 ej').2
        · omega
      · exact f6 j ej
  · have hge : (S (k + 1)).loc.length ≤ i := Nat.le_trans (hr.monoL c1 (by omega)) c3
    rcases hlb i g e with ⟨h1, _⟩ | ⟨_, e⟩
    · omega
    obtain ⟨f1, f2, ⟨b0, f3, f4⟩, f5, f6⟩ := hI.flL c i g (by omega) c2 c3 c4 e
    have hgek : (S k).loc.length ≤ i := Nat.le_trans hp.lenl hge
    have hsame : w'.heap[g]? = w.heap[g]? := hx.frame g f1 (fun j ej => f6 j (cutAt_gb.1 ej).2) (fun j ej => by have := f5 j (cutAt_lb.1 ej).2; have := (cutAt_lb.1 ej).1; omega)
    refine ⟨Nat.lt_of_lt_of_le f1 hx.size, f2, ⟨b0, f3, f4.mono (hle.cutAt (c + 1)) hsame⟩, fun j ej => ?_, fun j ej => ?_⟩
    · rcases hlb j g ej with ⟨_, ej⟩ | ⟨_, ej⟩
      · rcases hx.imgl j g ej with ej' | h
        · have := f5 j (cutAt_lb.1 ej').2; have := (cutAt_lb.1 ej').1; omega
        · omega
      · exact f5 j ej
    · rcases hgb j g ej with ⟨_, ej⟩ | ⟨_, ej⟩
      · rcases hx.img j g ej with ⟨j', ej'⟩ | h
        · exact f6 j' (cutAt_gb.1 ej').2
        · omega
      · exact f6 j ej
  · have hck : c < k := by
      by_cases h : c = k
      · exact absurd (.inr h) hn
      · omega
    have hnL : ¬ L c := fun h => hn (.inl h)
    have hi : i < (S k).H.length := Nat.lt_of_lt_of_le h2 (hr.monoG (by omega) (by omega))
    have hnone : (cutAt m S k).gb i = none := by
      cases e : (cutAt m S k).gb i with
      | none => rfl
      | some g => have := hI.noneG hr (show c < ops.length by omega) hnL h1 h2; rw [(cutAt_gb.1 e).2] at this; cases this
    exact (hx.un i hi hnone).trans (hI.late c hck hnL i h1 h2)
  · have hck : c < k := by
      by_cases h : c = k
      · exact absurd (.inr h) hn
      · omega
    have hnL : ¬ L c := fun h => hn (.inl h)
    have hi : i < (S k).loc.length := Nat.lt_of_lt_of_le h2 (hr.monoL (by omega) (by omega))
    have hnone : (cutAt m S k).lb i = none := by
      cases e : (cutAt m S k).lb i with
      | none => rfl
      | some g => have := hI.noneL hr (show c < ops.length by omega) hnL h1 h2; rw [(cutAt_lb.1 e).2] at this; cases this
    exact (hx.unl i hi hnone).trans (hI.latel c hck hnL i h1 h2)

end
end Go.Am
