/-
  Drawn regions: every order does what the text's order does.
-/
import Derived.Test.YthbfmjlcnfgnbaaGreatAmO
namespace Go.Am
section
variable {P : Program} {m : Mp} {H loc : Hp} {w : World}

theorem read_blk {a a' : Addr} (hG : ∀ i g, a.spot = none → a.block = i → m.gb i = some g → ∃ b, H[i]? = some b ∧ GR m i g b w) (hLc : ∀ i g, a.spot = some 0 → a.block = i → m.lb i = some g → ∃ b, loc[i]? = some b ∧ LR m g b w) (har : AR m a a') {n : Nat} {vs : List Value} (h : readCells H loc a n = some vs) :
    ∃ vs', VRs m vs vs' ∧ vs.length = n ∧ ∀ j v, vs'[j]? = some v → w.cell? (a'.add j) = some v := by
  obtain ⟨b', o', s'⟩ := a'
  have hs := har.spot
  simp only at hs
  subst hs
  have hadd : ∀ j, (⟨b', o', none⟩ : Addr).add j = ⟨b', o' + j, none⟩ := fun j => addr_add_spot rfl j
  unfold readCells at h
  simp only [fSpine_eq] at h
  rcases har with ⟨h1, h2, h3, _⟩ | ⟨h1, h2, h3, _⟩
  · rw [h1] at h
    simp only at h h2 h3
    split at h
    · rename_i b hb
      cases hc : (b.live && decide (a.off + n ≤ b.cells.length)) with
      | false => rw [hc] at h; cases h
      | true =>
        rw [hc] at h
        simp only [cond_true, Option.some.injEq] at h
        subst h
        simp only [Bool.and_eq_true, decide_eq_true_eq] at hc
        obtain ⟨b0, hb0, hG⟩ := hG _ _ h1 rfl h2
        rw [hb] at hb0; injection hb0 with hb0; subst hb0
        obtain ⟨cs, e1, e2, e3, _⟩ := hG.blk hc.1
        refine ⟨(((cs.toList.take b.cells.length)).drop a.off).take n, ((e3.mono (noL_le m)).drop _).take _, by simp; omega, fun j v hv => ?_⟩
        rw [hadd, cell_of_block e1]
        simp only [List.getElem?_take, List.getElem?_drop] at hv
        split at hv
        · split at hv
          · rw [h3]; simpa using hv
          · cases hv
        · cases hv
    · cases h
  · rw [h1] at h
    simp only at h h2 h3
    split at h
    · rename_i b hb
      cases hc : (b.live && decide (a.off + n ≤ b.cells.length)) with
      | false => rw [hc] at h; cases h
      | true =>
        rw [hc] at h
        simp only [cond_true, Option.some.injEq] at h
        subst h
        simp only [Bool.and_eq_true, decide_eq_true_eq] at hc
        obtain ⟨b0, hb0, hL⟩ := hLc _ _ h1 rfl h2
        rw [hb] at hb0; injection hb0 with hb0; subst hb0
        obtain ⟨cs, e1, e3⟩ := hL.blk hc.1
        refine ⟨((cs.toList).drop a.off).take n, (e3.drop _).take _, by simp; omega, fun j v hv => ?_⟩
        rw [hadd, cell_of_block e1]
        simp only [List.getElem?_take, List.getElem?_drop] at hv
        split at hv
        · rw [h3]; simpa using hv
        · cases hv
    · cases h

theorem load_blk {t : TypeId} {x x' v : Value} (hG : ∀ a i g, x = .pointer (some a) → a.spot = none → a.block = i → m.gb i = some g → ∃ b, H[i]? = some b ∧ GR m i g b w) (hLc : ∀ a i g, x = .pointer (some a) → a.spot = some 0 → a.block = i → m.lb i = some g → ∃ b, loc[i]? = some b ∧ LR m g b w) (hx : VR m x x') (h : evLoad P H loc t x = some v) :
    ∃ v', (Instr.loadAt t x').run P w = .ok v' w ∧ VR m v v' := by
  unfold evLoad at h
  split at h
  · rename_i a
    obtain ⟨a', rfl, har⟩ := vr_ptr hx
    split at h
    · rename_i hagg
      split at h
      · rename_i i hi
        split at h
        · rename_i vs hvs
          injection h with h; subst h
          obtain ⟨vs', hvr, hlen, hcell⟩ := read_blk (fun i g => hG _ i g rfl) (fun i g => hLc _ i g rfl) har hvs
          refine ⟨.agg vs'.toArray, ?_, hvr.agg⟩
          have := run_loadCells_list (P := P) w a' vs' hcell
          have hl : vs'.length = i.size := by have := hvr.1; omega
          rw [hl] at this
          simp [Instr.loadAt, Instr.sureAddr, loadVar, run_isAgg hagg, run_sizeOf' hi, this]
        · cases h
      · cases h
    · rename_i hagg
      split at h
      · rename_i v0 hvs
        injection h with h; subst h
        obtain ⟨vs', hvr, hlen, hcell⟩ := read_blk (fun i g => hG _ i g rfl) (fun i g => hLc _ i g rfl) har hvs
        obtain ⟨v', l', rfl, h1, h2⟩ := hvr.cons_inv
        have hc := hcell 0 v' rfl
        have e0 : a'.add 0 = a' := rfl
        rw [e0] at hc
        exact ⟨v', by simp [Instr.loadAt, Instr.sureAddr, loadVar, run_isAgg hagg, hc], h1⟩
      · cases h
    · cases h
  · cases h


theorem Bef.lt {ops : List Oper} (hs : Sta ops) {i j : Nat} (h : Bef ops i j) : i < j := by
  induction h with
  | edge ho he hb => exact hs.back _ _ ho _ he hb
  | step ho he hb _ ih => exact Nat.lt_trans ih (hs.back _ _ ho _ he hb)
end

section
variable {P : Program} {ops : List Oper} {S : Nat → St} {F : Nat → Fp} {m0 : Mp} {H0 : Hp} {w0 : World} {L : Nat → Prop} {pe : Nat} {m : Mp} {a : Act} {w : World}

/-- What a load is told of those that act and stand apart from it. -/
def DynR (ops : List Oper) (F : Nat → Fp) : Prop := ∀ i j x y, ops[i]? = some x → ops[j]? = some y → isEff x = true → isLoad y = true → ¬ Bef ops i j → ¬ Bef ops j i →
  (∀ b, b ∈ (F j).rg → b ∉ (F i).wg) ∧ (∀ b, b ∈ (F j).rl → b ∉ (F i).wl) ∧ (j < i → (F j).bd = true)

/-- A load comes up. -/
theorem Inv.load (hr : Run ops S F) (hs : Sta ops) (hdy : DynR ops F) (hI : Inv ops S m0 H0 w0 L pe m a w) (hcl : Closed ops L) (htop : pe = 0 ∨ ∃ o, ops[pe - 1]? = some o ∧ isEff o = true) {k : Nat} {o : Oper} (ho : ops[k]? = some o) (hnot : ¬ L k)
    (hrd : ∀ e ∈ o.after, Region.binds .any e = true → L e.on) (hld : isLoad o = true) {t : TypeId} {x x' v : Value} (hx : VR (cutAt m S k) x x') (h : evLoad P (S k).H (S k).loc t x = some v)
    (hrg : ∀ ad, x = .pointer (some ad) → (ad.spot = none → ad.block ∈ (F k).rg) ∧ (ad.spot = some 0 → ad.block ∈ (F k).rl)) (hbd : (F k).bd = boundB (S k).H.length (S k).loc.length 6 v) :
    ∃ v', (Instr.loadAt t x').run P w = .ok v' w ∧ VR (cutAt m S (k + 1)) v v' := by
  have hk : k < ops.length := (List.getElem?_eq_some_iff.1 ho).1
  have hne : isEff o = false := by unfold isLoad at hld; unfold isEff; split at hld <;> simp_all
  have hrd' : ∀ o', ops[k]? = some o' → ∀ e ∈ o'.after, Region.binds .any e = true → L e.on := fun o' ho' => by
    rw [ho] at ho'; injection ho' with ho'; subst ho'; exact hrd
  -- those that act between: they stand apart
  have hfar : ∀ e o', ops[e]? = some o' → isEff o' = true → ((e < k ∧ ¬ L e) ∨ (k < e ∧ L e)) → ¬ Bef ops e k ∧ ¬ Bef ops k e := fun e o' ho' he hc => by
    rcases hc with ⟨h1, h2⟩ | ⟨h1, h2⟩
    · exact ⟨fun hb => h2 (hb.ready hcl hrd'), fun hb => by have := hb.lt hs; omega⟩
    · exact ⟨fun hb => by have := hb.lt hs; omega, fun hb => hnot (hb.closed hcl h2)⟩
  have hskipG : ∀ j, pe ≤ j → ∀ i, i ∈ (F k).rg → ∀ e, j ≤ e → e < k → i ∉ (F e).wg := fun j hj i hi e h1 h2 => by
    have ho' : ops[e]? = some ops[e] := List.getElem?_eq_getElem (by omega)
    cases he : isEff ops[e] with
    | false => rw [(hr.quiet e _ ho' he).1]; simp
    | true =>
      have hnL : ¬ L e := fun hl => by have := (hI.effs e _ ho' he).1 hl; omega
      obtain ⟨n1, n2⟩ := hfar e _ ho' he (.inl ⟨h2, hnL⟩)
      exact (hdy e k _ o ho' ho he hld n1 n2).1 i hi
  have hskipL : ∀ j, pe ≤ j → ∀ i, i ∈ (F k).rl → ∀ e, j ≤ e → e < k → i ∉ (F e).wl := fun j hj i hi e h1 h2 => by
    have ho' : ops[e]? = some ops[e] := List.getElem?_eq_getElem (by omega)
    cases he : isEff ops[e] with
    | false => rw [(hr.quiet e _ ho' he).2]; simp
    | true =>
      have hnL : ¬ L e := fun hl => by have := (hI.effs e _ ho' he).1 hl; omega
      obtain ⟨n1, n2⟩ := hfar e _ ho' he (.inl ⟨h2, hnL⟩)
      exact (hdy e k _ o ho' ho he hld n1 n2).2.1 i hi
  have hbackG : ∀ i, i ∈ (F k).rg → ∀ e, k ≤ e → e < pe → i ∉ (F e).wg := fun i hi e h1 h2 => by
    have hpl := hI.pel
    have ho' : ops[e]? = some ops[e] := List.getElem?_eq_getElem (by omega)
    cases he : isEff ops[e] with
    | false => rw [(hr.quiet e _ ho' he).1]; simp
    | true =>
      have hek : e ≠ k := fun e' => by subst e'; rw [ho] at ho'; injection ho' with ho'; rw [← ho', hne] at he; cases he
      have hL : L e := (hI.effs e _ ho' he).2 h2
      obtain ⟨n1, n2⟩ := hfar e _ ho' he (.inr ⟨by omega, hL⟩)
      exact (hdy e k _ o ho' ho he hld n1 n2).1 i hi
  have hbackL : ∀ i, i ∈ (F k).rl → ∀ e, k ≤ e → e < pe → i ∉ (F e).wl := fun i hi e h1 h2 => by
    have hpl := hI.pel
    have ho' : ops[e]? = some ops[e] := List.getElem?_eq_getElem (by omega)
    cases he : isEff ops[e] with
    | false => rw [(hr.quiet e _ ho' he).2]; simp
    | true =>
      have hek : e ≠ k := fun e' => by subst e'; rw [ho] at ho'; injection ho' with ho'; rw [← ho', hne] at he; cases he
      have hL : L e := (hI.effs e _ ho' he).2 h2
      obtain ⟨n1, n2⟩ := hfar e _ ho' he (.inr ⟨by omega, hL⟩)
      exact (hdy e k _ o ho' ho he hld n1 n2).2.1 i hi
  obtain ⟨ad, hxa⟩ : ∃ ad, x = .pointer (some ad) := by
    unfold evLoad at h
    split at h
    · exact ⟨_, rfl⟩
    · cases h
  obtain ⟨hrg1, hrg2⟩ := hrg ad hxa
  have hx0 := hx
  rw [hxa] at hx
  obtain ⟨ad', hx', har⟩ := vr_ptr hx
  have hpl := hI.pel
  rcases har with ⟨s1, s2, s3, s4⟩ | ⟨s1, s2, s3, s4⟩
  · obtain ⟨hik, hig⟩ := cutAt_gb.1 s2
    have hmem := hrg1 s1
    rcases hI.whereG hr hig with hw | ⟨c, c1, c2, c3, c4⟩
    · -- there at the moment
      have hsame : (S k).H[ad.block]? = (S pe).H[ad.block]? := by
        rcases Nat.le_total pe k with hpk | hpk
        · exact hr.keepG hw hpk (by omega) (hskipG pe (Nat.le_refl _) _ hmem)
        · exact (hr.keepG hik hpk hpl (hbackG _ hmem)).symm
      have hxp : VR (cutAt m S pe) x x' := by
        rw [hxa, hx']
        exact AR.vr (.inl ⟨s1, cutAt_gb.2 ⟨hw, hig⟩, s3, s4⟩)
      obtain ⟨v', h1, h2⟩ := load_blk (m := cutAt m S pe) (w := w) (P := P) (H := (S k).H) (loc := (S k).loc) (fun a1 i g e1 e2 e3 e4 => by
          rw [hxa] at e1; injection e1 with e1; injection e1 with e1; subst e1; subst e3
          obtain ⟨_, b, f1, f2⟩ := hI.ext.rel.glob _ g e4
          exact ⟨b, hsame.trans f1, f2⟩) (fun a1 i g e1 e2 => by
          rw [hxa] at e1; injection e1 with e1; injection e1 with e1; subst e1; rw [s1] at e2; cases e2) hxp h
      refine ⟨v', h1, ?_⟩
      rcases Nat.lt_or_ge k pe with hpk | hpk
      · have hb : (F k).bd = true := by
          rcases htop with hp0 | ⟨oe, hoe, hee⟩
          · omega
          · have hLe : L (pe - 1) := (hI.effs _ _ hoe hee).2 (by omega)
            have hek : pe - 1 ≠ k := fun e' => by rw [e', ho] at hoe; injection hoe with hoe; rw [← hoe, hne] at hee; cases hee
            obtain ⟨n1, n2⟩ := hfar _ _ hoe hee (.inr ⟨by omega, hLe⟩)
            exact (hdy _ k _ o hoe ho hee hld n1 n2).2.2 (by omega)
        rw [hbd] at hb
        have := bound_vr 6 v v' hb h2
        exact this.mono ⟨fun i g e => cutAt_gb.2 ⟨Nat.lt_of_lt_of_le (cut_gb.1 e).1 (hr.monoG (by omega) (by omega)), (cutAt_gb.1 (cut_gb.1 e).2).2⟩, fun i g e => cutAt_lb.2 ⟨Nat.lt_of_lt_of_le (cut_lb.1 e).1 (hr.monoL (by omega) (by omega)), (cutAt_lb.1 (cut_lb.1 e).2).2⟩, fun _ _ _ => rfl, fun _ _ _ => rfl, fun _ _ _ => rfl⟩
      · exact h2.mono (hr.cutAt_mono (by omega) (by omega))
    · -- made early
      have hck : c < k := by
        rcases Nat.lt_or_ge c k with h | h
        · exact h
        · have := hr.monoG h (by omega); omega
      obtain ⟨f1, f2, ⟨b, f3, f4⟩, f5, f6⟩ := hI.flG c _ _ c1 c2 c3 c4 hig
      have hsame : (S k).H[ad.block]? = (S (c + 1)).H[ad.block]? := hr.keepG c4 (by omega) (by omega) (hskipG (c + 1) (by omega) _ hmem)
      have hxp : VR (cutAt m S (c + 1)) x x' := by
        rw [hxa, hx']
        exact AR.vr (.inl ⟨s1, cutAt_gb.2 ⟨c4, hig⟩, s3, s4⟩)
      obtain ⟨v', h1, h2⟩ := load_blk (m := cutAt m S (c + 1)) (w := w) (P := P) (H := (S k).H) (loc := (S k).loc) (fun a1 i g e1 e2 e3 e4 => by
          rw [hxa] at e1; injection e1 with e1; injection e1 with e1; subst e1; subst e3
          have e5 := (cutAt_gb.1 e4).2
          rw [hig] at e5; injection e5 with e5; subst e5
          exact ⟨b, hsame.trans f3, f4⟩) (fun a1 i g e1 e2 => by
          rw [hxa] at e1; injection e1 with e1; injection e1 with e1; subst e1; rw [s1] at e2; cases e2) hxp h
      exact ⟨v', h1, h2.mono (hr.cutAt_mono (by omega) (by omega))⟩
  · obtain ⟨hik, hig⟩ := cutAt_lb.1 s2
    have hmem := hrg2 s1
    rcases hI.whereL hr hig with hw | ⟨c, c1, c2, c3, c4⟩
    · have hsame : (S k).loc[ad.block]? = (S pe).loc[ad.block]? := by
        rcases Nat.le_total pe k with hpk | hpk
        · exact hr.keepL hw hpk (by omega) (hskipL pe (Nat.le_refl _) _ hmem)
        · exact (hr.keepL hik hpk hpl (hbackL _ hmem)).symm
      have hxp : VR (cutAt m S pe) x x' := by
        rw [hxa, hx']
        exact AR.vr (.inr ⟨s1, cutAt_lb.2 ⟨hw, hig⟩, s3, s4⟩)
      obtain ⟨v', h1, h2⟩ := load_blk (m := cutAt m S pe) (w := w) (P := P) (H := (S k).H) (loc := (S k).loc) (fun a1 i g e1 e2 => by
          rw [hxa] at e1; injection e1 with e1; injection e1 with e1; subst e1; rw [s1] at e2; cases e2) (fun a1 i g e1 e2 e3 e4 => by
          rw [hxa] at e1; injection e1 with e1; injection e1 with e1; subst e1; subst e3
          obtain ⟨_, b, f1, f2⟩ := hI.ext.rel.locs _ g e4
          exact ⟨b, hsame.trans f1, f2⟩) hxp h
      refine ⟨v', h1, ?_⟩
      rcases Nat.lt_or_ge k pe with hpk | hpk
      · have hb : (F k).bd = true := by
          rcases htop with hp0 | ⟨oe, hoe, hee⟩
          · omega
          · have hLe : L (pe - 1) := (hI.effs _ _ hoe hee).2 (by omega)
            have hek : pe - 1 ≠ k := fun e' => by rw [e', ho] at hoe; injection hoe with hoe; rw [← hoe, hne] at hee; cases hee
            obtain ⟨n1, n2⟩ := hfar _ _ hoe hee (.inr ⟨by omega, hLe⟩)
            exact (hdy _ k _ o hoe ho hee hld n1 n2).2.2 (by omega)
        rw [hbd] at hb
        have := bound_vr 6 v v' hb h2
        exact this.mono ⟨fun i g e => cutAt_gb.2 ⟨Nat.lt_of_lt_of_le (cut_gb.1 e).1 (hr.monoG (by omega) (by omega)), (cutAt_gb.1 (cut_gb.1 e).2).2⟩, fun i g e => cutAt_lb.2 ⟨Nat.lt_of_lt_of_le (cut_lb.1 e).1 (hr.monoL (by omega) (by omega)), (cutAt_lb.1 (cut_lb.1 e).2).2⟩, fun _ _ _ => rfl, fun _ _ _ => rfl, fun _ _ _ => rfl⟩
      · exact h2.mono (hr.cutAt_mono (by omega) (by omega))
    · have hck : c < k := by
        rcases Nat.lt_or_ge c k with h | h
        · exact h
        · have := hr.monoL h (by omega); omega
      obtain ⟨f1, f2, ⟨b, f3, f4⟩, f5, f6⟩ := hI.flL c _ _ c1 c2 c3 c4 hig
      have hsame : (S k).loc[ad.block]? = (S (c + 1)).loc[ad.block]? := hr.keepL c4 (by omega) (by omega) (hskipL (c + 1) (by omega) _ hmem)
      have hxp : VR (cutAt m S (c + 1)) x x' := by
        rw [hxa, hx']
        exact AR.vr (.inr ⟨s1, cutAt_lb.2 ⟨c4, hig⟩, s3, s4⟩)
      obtain ⟨v', h1, h2⟩ := load_blk (m := cutAt m S (c + 1)) (w := w) (P := P) (H := (S k).H) (loc := (S k).loc) (fun a1 i g e1 e2 => by
          rw [hxa] at e1; injection e1 with e1; injection e1 with e1; subst e1; rw [s1] at e2; cases e2) (fun a1 i g e1 e2 e3 e4 => by
          rw [hxa] at e1; injection e1 with e1; injection e1 with e1; subst e1; subst e3
          have e5 := (cutAt_lb.1 e4).2
          rw [hig] at e5; injection e5 with e5; subst e5
          exact ⟨b, hsame.trans f3, f4⟩) hxp h
      exact ⟨v', h1, h2.mono (hr.cutAt_mono (by omega) (by omega))⟩

end
end Go.Am
