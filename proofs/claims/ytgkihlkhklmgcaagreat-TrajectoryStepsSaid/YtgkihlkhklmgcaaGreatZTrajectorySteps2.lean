/-
  Texts put together: AmD AmE AmF.
-/
import Derived.Test.YtgkihlkhklmgcaaGreatZTrajectorySteps1
set_option linter.unusedVariables false
section
/-
  evInert: what it yields the model yields, place for place.
-/
namespace Go.Am
section
variable {P : Program} {m : Mp}

theorem run_typeInfo {t : TypeId} {i : TypeInfo} (h : P.info? t = some i) (w : World) : (typeInfo t).run P w = .ok i w := by simp [typeInfo, h]
theorem run_sizeOf' {t : TypeId} {i : TypeInfo} (h : P.info? t = some i) (w : World) : (sizeOf t).run P w = .ok i.size w := by simp [sizeOf, typeInfo, h]
theorem info_of_cells {t : TypeId} (h : P.cellsOf t ≠ 0) : ∃ i, P.info? t = some i ∧ i.size = P.cellsOf t := by
  unfold Program.cellsOf at h ⊢
  cases hi : P.info? t with
  | none => simp [hi] at h
  | some i => exact ⟨i, rfl, by simp⟩
theorem run_isAgg {t : TypeId} {b : Bool} (h : isAggT P t = some b) (w : World) : (isAgg t).run P w = .ok b w := by
  unfold isAggT at h
  split at h
  · rename_i hu; injection h with h; subst h; simp [isAgg, run_underlying hu]
  · rename_i hu; injection h with h; subst h; simp [isAgg, run_underlying hu]
  · rename_i d h1 h2 hu
    injection h with h; subst h
    cases d <;> first | (exact absurd rfl (h1 _)) | (exact absurd rfl (h2 _ _)) | simp [isAgg, run_underlying hu]
  · cases h

theorem part_sound {t : TypeId} {cs cs' : Array Value} {off : Nat} {v : Value} (hc : VRs m cs.toList cs'.toList) (h : evPart P t cs.toList off = some v) (w : World) :
    ∃ v', (part t cs' off).run P w = .ok v' w ∧ VR m v v' := by
  unfold evPart at h
  cases ha : isAggT P t with
  | none => rw [ha] at h; cases h
  | some b =>
    rw [ha] at h
    cases b with
    | true =>
      simp only at h
      cases hi : P.info? t with
      | none => rw [hi] at h; cases h
      | some i =>
        rw [hi] at h
        simp only [Option.some.injEq] at h
        subst h
        refine ⟨.agg (cs'.extract off (off + i.size)), by simp [part, run_isAgg ha, run_sizeOf' hi], ?_⟩
        have e : (cs'.extract off (off + i.size)).toList = (cs'.toList.drop off).take i.size := by
          simp [List.extract_eq_take_drop]
        exact VRs.agg' (by rw [e]; exact (hc.drop off).take _)
    | false =>
      simp only at h
      obtain ⟨v', hv', hr⟩ := hc.at h
      exact ⟨v', by simp [part, run_isAgg ha, show cs'[off]? = some v' by simpa using hv'], hr⟩

theorem bnd_sound {x x' : Value} {y : Nat} {n : Nat} (hx : VR m x x') (h : bnd x y = some n) {y' : Nat} (hy : y ≤ y') (code : BoundsCode) (w : World) :
    (Instr.sliceBound x' y' code).run P w = .ok n w := by
  unfold bnd at h
  split at h
  · rename_i k i
    rw [vr_int hx]
    cases hc : (decide (0 ≤ i) && decide (i ≤ (y : Int))) with
    | false => rw [hc] at h; cases h
    | true =>
      rw [hc] at h
      simp only [cond_true, Option.some.injEq] at h
      subst h
      simp only [Bool.and_eq_true, decide_eq_true_eq] at hc
      simp only [Instr.sliceBound, asIntOf, Sem.run_bind, Sem.run_pure, Result.andThen_ok]
      rw [if_pos ⟨hc.1, by omega⟩]
      rfl
  · cases h

theorem bnd_le {x : Value} {y n : Nat} (h : bnd x y = some n) : n ≤ y := by
  unfold bnd at h
  split at h
  · rename_i k i
    cases hc : (decide (0 ≤ i) && decide (i ≤ (y : Int))) with
    | false => rw [hc] at h; cases h
    | true =>
      rw [hc] at h
      simp only [cond_true, Option.some.injEq] at h
      simp only [Bool.and_eq_true, decide_eq_true_eq] at hc
      omega
  · cases h

theorem sbounds_sound {b : Bool} {len cap cap' l h mm : Nat} {lo hi mx lo' hi' mx' : Option Value} (hlo : Option.Rel (VR m) lo lo') (hhi : Option.Rel (VR m) hi hi') (hmx : Option.Rel (VR m) mx mx')
    (hs : sbounds len cap lo hi mx = some (l, h, mm)) (hc : cap ≤ cap') (w : World) :
    (Instr.sliceBounds b len cap' lo' hi' mx').run P w = .ok (l, h, if mx = none then cap' else mm) w ∧ l ≤ h ∧ h ≤ mm ∧ (mx = none → mm = cap) ∧ mm ≤ cap := by
  have fin : ∀ {l0 h0 m0 : Nat}, (bif decide (h0 ≤ m0) then some (l0, h0, m0) else none) = some (l, h, mm) → l0 = l ∧ h0 = h ∧ m0 = mm ∧ h0 ≤ m0 := by
    intro l0 h0 m0 e
    cases hd : decide (h0 ≤ m0) with
    | false => rw [hd] at e; cases e
    | true =>
      rw [hd] at e
      simp only [cond_true, Option.some.injEq, Prod.mk.injEq] at e
      exact ⟨e.1, e.2.1, e.2.2, by simpa using hd⟩
  unfold sbounds at hs
  cases hmx with
  | none =>
    simp only at hs
    cases hhi with
    | none =>
      simp only at hs
      cases hlo with
      | none =>
        obtain ⟨rfl, rfl, rfl, hle⟩ := fin hs
        exact ⟨by simp [Instr.sliceBounds], by omega, hle, fun _ => rfl, Nat.le_refl _⟩
      | some hx =>
        simp only at hs
        split at hs
        · cases hs
        · rename_i l0 hl0
          obtain ⟨rfl, rfl, rfl, hle⟩ := fin hs
          exact ⟨by simp [Instr.sliceBounds, bnd_sound (P := P) hx hl0 (Nat.le_refl _)], bnd_le hl0, hle, fun _ => rfl, Nat.le_refl _⟩
    | some hy =>
      simp only at hs
      split at hs
      · cases hs
      · rename_i h0 hh0
        cases hlo with
        | none =>
          obtain ⟨rfl, rfl, rfl, hle⟩ := fin hs
          exact ⟨by simp [Instr.sliceBounds, bnd_sound (P := P) hy hh0 hc], by omega, hle, fun _ => rfl, Nat.le_refl _⟩
        | some hx =>
          simp only at hs
          split at hs
          · cases hs
          · rename_i l0 hl0
            obtain ⟨rfl, rfl, rfl, hle⟩ := fin hs
            exact ⟨by simp [Instr.sliceBounds, bnd_sound (P := P) hy hh0 hc, bnd_sound (P := P) hx hl0 (Nat.le_refl _)], bnd_le hl0, hle, fun _ => rfl, Nat.le_refl _⟩
  | some hz =>
    simp only at hs
    split at hs
    · cases hs
    · rename_i m0 hm0
      cases hhi with
      | none => simp only at hs; cases hs
      | some hy =>
        simp only at hs
        split at hs
        · cases hs
        · rename_i h0 hh0
          cases hlo with
          | none =>
            obtain ⟨rfl, rfl, rfl, hle⟩ := fin hs
            exact ⟨by simp [Instr.sliceBounds, bnd_sound (P := P) hz hm0 hc, bnd_sound (P := P) hy hh0 (Nat.le_refl _)], by omega, hle, (fun e => by cases e), bnd_le hm0⟩
          | some hx =>
            simp only at hs
            split at hs
            · cases hs
            · rename_i l0 hl0
              obtain ⟨rfl, rfl, rfl, hle⟩ := fin hs
              exact ⟨by simp [Instr.sliceBounds, bnd_sound (P := P) hz hm0 hc, bnd_sound (P := P) hy hh0 (Nat.le_refl _), bnd_sound (P := P) hx hl0 (Nat.le_refl _)], bnd_le hl0, hle, (fun e => by cases e), bnd_le hm0⟩

/-- The parts of a literal. -/
def PartsR (m : Mp) (ps ps' : List (Nat × Value)) : Prop := ps.length = ps'.length ∧ ∀ (i : Nat) (p p' : Nat × Value), ps[i]? = some p → ps'[i]? = some p' → p.1 = p'.1 ∧ VR m p.2 p'.2

theorem foldl_sound (off : Nat) : ∀ (vs vs' : List Value) (k : Nat) (cs cs' : Array Value), VRs m vs vs' → VRs m cs.toList cs'.toList →
    VRs m ((vs.zipIdx k).foldl (fun (a : Array Value) (p : Value × Nat) => a.setIfInBounds (off + p.2) p.1) cs).toList
      ((vs'.zipIdx k).foldl (fun (a : Array Value) (p : Value × Nat) => a.setIfInBounds (off + p.2) p.1) cs').toList
  | [], vs', k, cs, cs', hv, hc => by
    have : vs' = [] := List.eq_nil_of_length_eq_zero hv.1.symm
    subst this
    simpa using hc
  | v :: vs, vs'', k, cs, cs', hv, hc => by
    obtain ⟨v', vs', rfl, h1, h2⟩ := hv.cons_inv
    simp only [List.zipIdx_cons, List.foldl_cons]
    refine foldl_sound off vs vs' (k + 1) _ _ h2 ?_
    simp only [Array.toList_setIfInBounds]
    exact hc.set _ h1

theorem fill_sound {place : Nat → Option (Nat × Nat)} : ∀ (ps ps' : List (Nat × Value)) (cs cs' r : Array Value), PartsR m ps ps' → VRs m cs.toList cs'.toList → Instr.fill place cs ps = some r →
    ∃ r', Instr.fill place cs' ps' = some r' ∧ VRs m r.toList r'.toList
  | [], ps', cs, cs', r, hp, hc, h => by
    have : ps' = [] := List.eq_nil_of_length_eq_zero hp.1.symm
    subst this
    simp only [Instr.fill, Option.some.injEq] at h
    subst h
    exact ⟨cs', rfl, hc⟩
  | (i, v) :: ps, [], cs, cs', r, hp, hc, h => by have := hp.1; simp at this
  | (i, v) :: ps, (i', v') :: ps', cs, cs', r, hp, hc, h => by
    obtain ⟨e, hv⟩ := hp.2 0 (i, v) (i', v') rfl rfl
    simp only at e hv
    subst e
    have hv2 := vr_cells hv
    have hlen : v'.cells.size = v.cells.size := by simpa using hv2.1.symm
    have hcl : cs'.size = cs.size := by simpa using hc.1.symm
    simp only [Instr.fill] at h ⊢
    cases hpl : place i with
    | none => rw [hpl] at h; cases h
    | some os =>
      obtain ⟨off, size⟩ := os
      rw [hpl] at h
      simp only at h ⊢
      rw [hlen, hcl]
      split at h
      · cases h
      · rename_i hn
        rw [if_neg hn]
        refine fill_sound ps ps' _ _ r ⟨by have := hp.1; simpa using this, fun j p p' a b => hp.2 (j + 1) p p' (by simpa using a) (by simpa using b)⟩ ?_ h
        have := foldl_sound (m := m) off v.cells.toList v'.cells.toList 0 cs cs' hv2 hc
        have e : ∀ (x c : Array Value), Array.foldl (fun (a : Array Value) (p : Value × Nat) => a.setIfInBounds (off + p.2) p.1) c x.zipIdx = List.foldl (fun (a : Array Value) (p : Value × Nat) => a.setIfInBounds (off + p.2) p.1) c x.toList.zipIdx :=
          fun x c => by rw [← Array.foldl_toList, Array.toList_zipIdx]
        rw [← e, ← e] at this
        exact this

theorem parts_of {ρ ρ' : Operand → Value} {ps : List (Nat × Operand)} (h : ∀ p ∈ ps, VR m (ρ p.2) (ρ' p.2)) :
    PartsR m (ps.map fun p => (p.1, ρ p.2)) (ps.map fun p => (p.1, ρ' p.2)) := by
  refine ⟨by simp, fun i p p' a b => ?_⟩
  simp only [List.getElem?_map, Option.map_eq_some_iff] at a b
  obtain ⟨q, hq, rfl⟩ := a
  obtain ⟨q', hq', rfl⟩ := b
  rw [hq] at hq'; injection hq' with hq'; subst hq'
  exact ⟨rfl, h q (List.mem_of_getElem? hq)⟩

theorem mapM_places (w : World) : ∀ (fs : List Field), (∀ f ∈ fs, (P.info? f.type).isSome = true) →
    (fs.mapM (m := Sem) fun f => do pure (f.offset, ← sizeOf f.type)).run P w = .ok (fs.map fun f => (f.offset, P.cellsOf f.type)) w
  | [], _ => by simp
  | f :: fs, h => by
    have hf := h f (by simp)
    cases hi : P.info? f.type with
    | none => rw [hi] at hf; cases hf
    | some i =>
      simp only [List.mapM_cons, Sem.run_bind, run_sizeOf' hi, Result.andThen_ok, Sem.run_pure, mapM_places w fs (fun f' hf' => h f' (by simp [hf'])), List.map_cons]
      simp [Program.cellsOf, hi]

theorem build_sound {t : TypeId} {ps ps' : List (Nat × Value)} {v : Value} (hp : PartsR m ps ps') (h : evBuild P t ps = some v) (w : World) :
    ∃ v', (Instr.build t ps'.toArray).run P w = .ok v' w ∧ VR m v v' := by
  unfold evBuild at h
  cases hi : P.info? t with
  | none => rw [hi] at h; cases h
  | some ti =>
    rw [hi] at h
    simp only at h
    cases hz : ti.zero with
    | none => rw [hz] at h; cases h
    | some z =>
      rw [hz] at h
      simp only at h
      cases hpl : plainV z with
      | false => rw [hpl] at h; cases h
      | true =>
        rw [hpl] at h
        simp only [Bool.not_true, cond_false] at h
        have hzr : VRs m z.cells.toList z.cells.toList := vr_cells (plain_vr m 4 z hpl)
        have hzero : (zeroValue t).run P w = .ok z w := by simp [zeroValue, run_typeInfo hi, hz]
        split at h
        · rename_i fields hu
          cases hall : fields.toList.all (fun f => (P.info? f.type).isSome) with
          | false => rw [hall] at h; cases h
          | true =>
            rw [hall] at h
            simp only [cond_true] at h
            split at h
            · rename_i cells hf
              injection h with h; subst h
              obtain ⟨r', hr', hrr⟩ := fill_sound ps ps' _ _ _ hp hzr hf
              refine ⟨.agg r', ?_, hrr.agg'⟩
              have hmap : (fields.mapM (m := Sem) fun f => do pure (f.offset, ← sizeOf f.type)).run P w = .ok (fields.map fun f => (f.offset, P.cellsOf f.type)) w := by
                simp only [List.all_eq_true] at hall
                rw [Array.mapM_eq_mapM_toList, Sem.run_map, mapM_places w fields.toList (fun f hf => hall f hf)]
                simp only [Result.andThen_ok, Result.ok.injEq, and_true]
                apply Array.ext'
                simp
              have hr2 : Instr.fill (fun x => (fields.map fun f => (f.offset, P.cellsOf f.type))[x]?) z.cells ps' = some r' := by
                simpa [Array.getElem?_map] using hr'
              simp only [Instr.build, Sem.run_bind, hzero, Result.andThen_ok, run_underlying hu, hmap, hr2]
              rfl
            · cases h
        · rename_i n elem hu
          split at h
          · rename_i ei hei
            split at h
            · rename_i cells hf
              injection h with h; subst h
              obtain ⟨r', hr', hrr⟩ := fill_sound ps ps' _ _ _ hp hzr hf
              refine ⟨.agg r', ?_, hrr.agg'⟩
              simp only [Instr.build, Sem.run_bind, hzero, Result.andThen_ok, run_underlying hu, run_sizeOf' hei, hr']
              rfl
            · cases h
          · cases h
        · cases h

theorem optR {ρ ρ' : Operand → Value} {x : Option Operand} (h : ∀ y ∈ x.toArray, VR m (ρ y) (ρ' y)) : Option.Rel (VR m) (x.map ρ) (x.map ρ') := by
  cases x with
  | none => exact .none
  | some y => exact .some (h y (by simp))

/-- What is known of the blocks' elements. -/
def EszR (m : Mp) (H : Hp) : Prop := ∀ i g b, m.gb i = some g → H[i]? = some b → m.esz i = b.esz ∧ m.loose i = b.loose

theorem slice_core {H : Hp} (hE : EszR m H) {a : Addr} {len cap size l h mm c' : Nat} {a' : Addr} (hsr : SR m a len cap a' c') (hfit : sizeFits H a size = true) (h1 : l ≤ h) (h2 : h ≤ mm) {nomax : Bool} (h4 : nomax = true → mm = cap) (h5 : mm ≤ cap) :
    VR m (.slice (some (bif mm == l then a else addA a (l * size))) (h - l) (mm - l))
      (.slice (if (if nomax then c' else mm) = l then some a' else some (a'.add (l * size))) (h - l) ((if nomax then c' else mm) - l)) := by
  have hsplit : ∀ (q : Prop) [Decidable q] (x y : Addr), (if q then some x else some y) = some (if q then x else y) := fun q _ x y => by split <;> rfl
  rw [hsplit]
  refine SR.vr ?_
  rcases hsr with ⟨har, hc⟩ | ⟨rfl, rfl, hsp, hl, g, hg⟩
  · cases nomax with
    | true =>
      simp only [if_true]
      have e4 := h4 rfl
      subst e4
      rcases hc with rfl | ⟨hsp, hlo, hcc, htt⟩
      · by_cases hml : c' = l
        · subst hml
          simp only [BEq.rfl, cond_true, if_true]
          exact .inl ⟨har, .inl rfl⟩
        · simp only [beq_eq_false_iff_ne.2 hml, cond_false, if_neg hml]
          exact .inl ⟨har.add _, .inl rfl⟩
      · obtain ⟨g, hg⟩ : ∃ g, m.gb a.block = some g := by
          rcases har with ⟨_, e, _⟩ | ⟨e, _⟩
          · exact ⟨_, e⟩
          · rw [hsp] at e; cases e
        by_cases hml : mm = l
        · subst hml
          have hhl : h = mm := by omega
          subst hhl
          simp only [BEq.rfl, cond_true, Nat.sub_self]
          exact .inr ⟨rfl, rfl, hsp, hlo, g, hg⟩
        · simp only [beq_eq_false_iff_ne.2 hml, cond_false, if_neg (show ¬ c' = l by omega)]
          refine .inl ⟨har.add _, .inr ⟨hsp, hlo, by omega, ?_⟩⟩
          have hez : m.esz a.block = size := by
            unfold sizeFits at hfit
            rw [hsp] at hfit
            simp only at hfit
            split at hfit
            · rename_i b hb
              obtain ⟨e1, e2⟩ := hE _ _ b hg hb
              rw [hlo] at e2
              simp [← e2] at hfit
              omega
            · cases hfit
          simp only [addA, hez]
          rw [hez] at htt
          have : l * size + (c' - l) * size = c' * size := by rw [← Nat.add_mul]; congr 1; omega
          omega
    | false =>
      simp only [Bool.false_eq_true, if_false]
      by_cases hml : mm = l
      · subst hml
        simp only [BEq.rfl, cond_true, if_true]
        exact .inl ⟨har, .inl rfl⟩
      · simp only [beq_eq_false_iff_ne.2 hml, cond_false, if_neg hml]
        exact .inl ⟨har.add _, .inl rfl⟩
  · have e1 : mm = 0 := by omega
    have e2 : h = 0 := by omega
    have e3 : l = 0 := by omega
    subst e1; subst e2; subst e3
    simp only [BEq.rfl, cond_true, Nat.sub_self]
    exact .inr ⟨rfl, rfl, hsp, hl, g, hg⟩

theorem slice_sound {H : Hp} (hE : EszR m H) {t : TypeId} {x x' v : Value} {lo hi mx lo' hi' mx' : Option Value} (hx : VR m x x') (hlo : Option.Rel (VR m) lo lo') (hhi : Option.Rel (VR m) hi hi') (hmx : Option.Rel (VR m) mx mx')
    (h : evSlice P H t x lo hi mx = some v) (w : World) : ∃ v', (Instr.sliceAt t x' lo' hi' mx').run P w = .ok v' w ∧ VR m v v' := by
  unfold evSlice at h
  split at h
  · rename_i elem a len cap hu
    split at h
    · rename_i ti l hh mm hti hs
      cases hfit : sizeFits H a ti.size with
      | false => rw [hfit] at h; cases h
      | true =>
        rw [hfit] at h
        simp only [cond_true, Option.some.injEq] at h
        subst h
        obtain ⟨a', c', rfl, hsr⟩ := vr_slice hx
        have hcap : cap ≤ c' := by
          rcases hsr with ⟨_, rfl | ⟨_, _, h3, _⟩⟩ | ⟨_, h2, _⟩
          · exact Nat.le_refl _
          · exact h3
          · omega
        obtain ⟨hrun, h1, h2, h4, h5⟩ := sbounds_sound (P := P) (b := true) hlo hhi hmx hs hcap w
        refine ⟨_, by simp only [Instr.sliceAt, Sem.run_bind, run_underlying hu, Result.andThen_ok, Instr.slice, hrun, run_sizeOf' hti, Sem.run_pure]; rfl, ?_⟩
        have hres := slice_core hE hsr hfit h1 h2 (nomax := decide (mx = none)) (by simpa using h4) h5
        simpa using hres
    · cases h
  · rename_i n elem a hu
    split at h
    · rename_i ti l hh mm hti hs
      injection h with h; subst h
      obtain ⟨a', rfl, har⟩ := vr_ptr hx
      obtain ⟨hrun, h1, h2, h4, h5⟩ := sbounds_sound (P := P) (b := false) hlo hhi hmx hs (Nat.le_refl n) w
      have hm : (if mx = none then n else mm) = mm := by
        split
        · rename_i e; exact (h4 e).symm
        · rfl
      rw [hm] at hrun
      refine ⟨_, by simp only [Instr.sliceAt, Sem.run_bind, run_underlying hu, Result.andThen_ok, Instr.sureAddr, Sem.run_pure, hrun, run_sizeOf' hti]; rfl, ?_⟩
      refine SR.vr ?_
      by_cases hml : mm = l
      · subst hml
        simp only [BEq.rfl, cond_true, if_true]
        exact .inl ⟨har, .inl rfl⟩
      · simp only [beq_eq_false_iff_ne.2 hml, cond_false, if_neg hml]
        exact .inl ⟨har.add _, .inl rfl⟩
    · cases h
  · cases h

theorem addr_add_spot {a : Addr} (h : a.spot = none) (n : Nat) : a.add n = { a with off := a.off + n } := by
  obtain ⟨b, o, s⟩ := a
  simp only at h
  subst h
  unfold Addr.add
  split <;> simp_all

theorem indexAddr_sound {t : TypeId} {x i x' i' v : Value} (hx : VR m x x') (hi : VR m i i') (h : evIndexAddr P t x i = some v) (w : World) :
    ∃ v', (Instr.indexAt t x' i').run P w = .ok v' w ∧ VR m v v' := by
  unfold evIndexAddr at h
  split at h
  · rename_i len elem a k n hu
    rw [vr_int hi]
    split at h
    · rename_i ti hti
      cases hc : (decide (0 ≤ n) && decide (n < (len : Int))) with
      | false => rw [hc] at h; cases h
      | true =>
        rw [hc] at h
        simp only [cond_true, Option.some.injEq] at h
        subst h
        simp only [Bool.and_eq_true, decide_eq_true_eq] at hc
        obtain ⟨a', rfl, har⟩ := vr_ptr hx
        refine ⟨.pointer (some (a'.add (n.toNat * ti.size))), ?_, (har.add _).vr⟩
        simp only [Instr.indexAt, asIntOf, Sem.run_bind, Sem.run_pure, Result.andThen_ok, run_underlying hu, Instr.sureAddr]
        rw [if_pos hc]
        simp [run_sizeOf' hti]
    · cases h
  · rename_i elem a len cap k n hu
    rw [vr_int hi]
    split at h
    · rename_i ti hti
      cases hc : (decide (0 ≤ n) && decide (n < (len : Int))) with
      | false => rw [hc] at h; cases h
      | true =>
        rw [hc] at h
        simp only [cond_true, Option.some.injEq] at h
        subst h
        simp only [Bool.and_eq_true, decide_eq_true_eq] at hc
        obtain ⟨a', c', rfl, hsr⟩ := vr_slice hx
        rcases hsr with ⟨har, _⟩ | ⟨rfl, _⟩
        · refine ⟨.pointer (some (a'.add (n.toNat * ti.size))), ?_, (har.add _).vr⟩
          simp only [Instr.indexAt, asIntOf, Sem.run_bind, Sem.run_pure, Result.andThen_ok, run_underlying hu]
          rw [if_pos hc]
          simp [run_sizeOf' hti]
        · omega
    · cases h
  · cases h

theorem eq_slice {t e : TypeId} (hu : P.underlying t = some (.slice e)) (a : Addr) (n c n2 c2 : Nat) (w : World) : (Op.equal t (.slice (some a) n c) (.slice none n2 c2)).run P w = .ok false w := by
  show (Op.equalIn (9999 + 1) t _ _).run P w = _
  unfold Op.equalIn
  simp [run_underlying hu]
theorem eq_ptr {t e : TypeId} (hu : P.underlying t = some (.pointer e)) (a : Addr) (w : World) : (Op.equal t (.pointer (some a)) (.pointer none)).run P w = .ok false w := by
  show (Op.equalIn (9999 + 1) t _ _).run P w = _
  unfold Op.equalIn
  simp [run_underlying hu]
theorem eq_iface {t : TypeId} {ms : Array (String × TypeId)} (hu : P.underlying t = some (.interface ms)) (a : TypeId) (v : Value) (w : World) : (Op.equal t (.iface a v) .nilIface).run P w = .ok false w := by
  show (Op.equalIn (9999 + 1) t _ _).run P w = _
  unfold Op.equalIn
  simp [run_underlying hu]
theorem eql_run {t : TypeId} {x y : Value} {b : Bool} {w : World} (h : (Op.equal t x y).run P w = .ok b w) : (do pure (Value.bool (← Op.equal t x y)) : Sem Value).run P w = .ok (.bool b) w := by
  simp only [Sem.run_bind, h, Result.andThen_ok, Sem.run_pure]
theorem neq_run {t : TypeId} {x y : Value} {b : Bool} {w : World} (h : (Op.equal t x y).run P w = .ok b w) : (do pure (Value.bool (!(← Op.equal t x y))) : Sem Value).run P w = .ok (.bool (!b)) w := by
  simp only [Sem.run_bind, h, Result.andThen_ok, Sem.run_pure]
theorem nilCmp_sound {op : BinOp} {t : TypeId} {x y x' y' : Value} {b : Bool} (hx : VR m x x') (hy : VR m y y') (h : nilCmp P op t x y = some b) (xo yo : Operand) (w : World) : (eqGuard op t xo yo x' y').run P w = .ok () w ∧ (binOp op t x' y').run P w = .ok (.bool b) w := by
  unfold nilCmp at h
  split at h
  · rename_i e a n c n2 c2 hu
    obtain ⟨a', c', rfl, _⟩ := vr_slice hx
    obtain ⟨n3, c3, rfl⟩ : ∃ n3 c3, y' = .slice none n3 c3 := by cases hy; exact ⟨_, _, rfl⟩
    split at h
    · injection h with h; subst h; exact ⟨by simp [eqGuard], eql_run (eq_slice hu _ _ _ _ _ w)⟩
    · injection h with h; subst h; exact ⟨by simp [eqGuard], neq_run (eq_slice hu _ _ _ _ _ w)⟩
    · cases h
  · rename_i e a hu
    obtain ⟨a', rfl, _⟩ := vr_ptr hx
    obtain rfl : y' = .pointer none := by cases hy; rfl
    split at h
    · injection h with h; subst h; exact ⟨by simp [eqGuard], eql_run (eq_ptr hu _ w)⟩
    · injection h with h; subst h; exact ⟨by simp [eqGuard], neq_run (eq_ptr hu _ w)⟩
    · cases h
  · rename_i e a n hu
    obtain ⟨v', rfl⟩ : ∃ v', x' = .iface a v' := by cases hx; exact ⟨_, rfl⟩
    obtain rfl : y' = .nilIface := by cases hy; rfl
    split at h
    · injection h with h; subst h; exact ⟨by simp [eqGuard], eql_run (eq_iface hu _ _ w)⟩
    · injection h with h; subst h; exact ⟨by simp [eqGuard], neq_run (eq_iface hu _ _ w)⟩
    · cases h
  · cases h

theorem evInert_sound {H : Hp} (hE : EszR m H) {o : Oper} {ρ ρ' : Operand → Value} {v : Value} (hρ : OpR m ρ ρ' o) (h : evInert P H o ρ = some v) (w : World) :
    ∃ v', (execOp ρ' o).run P w = .ok (.value v') w ∧ VR m v v' := by
  obtain ⟨dst, op, type, pos, after, guard⟩ := o
  unfold evInert at h
  unfold OpR at hρ
  have pl : ∀ (hs : ∀ cs b, op ≠ .select cs b), evPlain P ⟨dst, op, type, pos, after, guard⟩ ρ = some v → ∃ v', (execOp ρ' ⟨dst, op, type, pos, after, guard⟩).run P w = .ok (.value v') w ∧ VR m v v' :=
    fun hs hh => ⟨v, evPlain_sound hρ hs hh w⟩
  split at h
  · rename_i x ho; simp only at ho; subst ho
    injection h with h; subst h
    exact ⟨ρ' x, by simp [execOp], hρ x (by simp [Op.operands])⟩
  · rename_i x ho; simp only at ho; subst ho
    injection h with h; subst h
    exact ⟨ρ' x, by simp [execOp], hρ x (by simp [Op.operands])⟩
  · rename_i c a b ho; simp only at ho; subst ho
    have hc := hρ c (by simp [Op.operands])
    split at h
    · rename_i t ht
      injection h with h; subst h
      rw [ht] at hc
      have hc' := vr_bool hc
      refine ⟨bif t then ρ' a else ρ' b, ?_, ?_⟩
      · cases t <;> simp [execOp, asBool, hc']
      · cases t
        · exact hρ b (by simp [Op.operands])
        · exact hρ a (by simp [Op.operands])
    · cases h
  · rename_i x ho; simp only at ho; subst ho
    have hx := hρ x (by simp [Op.operands])
    split at h
    · rename_i a ha
      injection h with h; subst h
      rw [ha] at hx
      obtain ⟨a', e, har⟩ := vr_ptr hx
      exact ⟨_, by simp [execOp, e], har.vr⟩
    · rename_i f fs cs hf
      injection h with h; subst h
      rw [hf] at hx
      cases hx' : ρ' x with
      | func fn fs' cs' =>
        rw [hx'] at hx
        cases hx with
        | func h1 h2 h3 h4 => exact ⟨_, by simp [execOp, hx'], .func h1 h2 h3 h4⟩
      | _ => rw [hx'] at hx; cases hx
    · cases h
  · rename_i x k ho; simp only at ho; subst ho
    have hx := hρ x (by simp [Op.operands])
    split at h
    · rename_i vs hvs
      rw [hvs] at hx
      obtain ⟨vs', e, hr⟩ := vr_tuple hx
      obtain ⟨v', hv', hvv⟩ := hr.at h
      exact ⟨v', by simp [execOp, Instr.extract, e, show vs'[k]? = some v' by simpa using hv'], hvv⟩
    · cases h
  · rename_i f first captured ho; simp only at ho; subst ho
    injection h with h; subst h
    have key : ∀ (l : List Operand), (∀ x ∈ l, VR m (ρ x) (ρ' x)) → VRs m (l.map ρ) (l.map ρ') := by
      intro l hl
      induction l with
      | nil => exact VRs.nil m
      | cons x l ih => exact VRs.cons (hl x (by simp)) (ih fun y hy => hl y (by simp [hy]))
    have h1 := key first.toList (fun x hx => hρ x (by simp [Op.operands]; exact .inl (by simpa using hx)))
    have h2 := key captured.toList (fun x hx => hρ x (by simp [Op.operands]; exact .inr (by simpa using hx)))
    refine ⟨.func (.func f) ⟨first.toList.map ρ'⟩ ⟨captured.toList.map ρ'⟩, ?_, .func h1.1 h1.2 h2.1 h2.2⟩
    have e : ∀ (l : Array Operand), l.map ρ' = ⟨l.toList.map ρ'⟩ := fun l => by apply Array.ext'; simp
    simp [execOp, Instr.makeFunc, e]
  · rename_i t x ho; simp only at ho; subst ho
    have hx := hρ x (by simp [Op.operands])
    split at h
    · cases h
    · rename_i d hni hu
      injection h with h; subst h
      refine ⟨.iface t (ρ' x), ?_, .iface hx⟩
      simp only [execOp, Instr.makeInterface, Sem.run_bind, run_underlying hu, Result.andThen_ok]
      cases d <;> first | (exact absurd rfl (hni _)) | simp
    · cases h
  · rename_i x xt asserted ck ho; simp only at ho; subst ho
    have hx := hρ x (by simp [Op.operands])
    split at h
    · exact pl (fun cs b e => by cases e) h
    · rename_i d t v hni hu hv
      cases hb : Nat.beq t asserted with
      | false => rw [hb] at h; cases h
      | true =>
        rw [hb] at h
        simp only [cond_true, Option.some.injEq] at h
        subst h
        have ht := Nat.eq_of_beq_eq_true hb
        subst ht
        rw [hv] at hx
        cases hx' : ρ' x with
        | iface t' v' =>
          rw [hx'] at hx
          cases hx with
          | iface hh =>
            refine ⟨bif ck then .tuple ⟨[v', .bool true]⟩ else v', ?_, ?_⟩
            · simp only [execOp, Instr.typeAssert, Sem.run_bind, run_underlying hu, Result.andThen_ok, hx']
              cases d <;> first | (exact absurd rfl (hni _)) | (cases ck <;> simp)
            · cases ck
              · exact hh
              · exact (VRs.cons hh (VRs.cons (.bool true) (VRs.nil m))).tuple
        | _ => rw [hx'] at hx; cases hx
    · cases h
  · rename_i s x f ho; simp only at ho; subst ho
    have hx := hρ x (by simp [Op.operands])
    split at h
    · rename_i fs a hu ha
      split at h
      · rename_i fd hfd
        cases hz : (P.cellsOf fd.type == 0) with
        | true => rw [hz] at h; cases h
        | false =>
          rw [hz] at h
          simp only [cond_false, Option.some.injEq] at h
          subst h
          rw [ha] at hx
          obtain ⟨a', e, har⟩ := vr_ptr hx
          obtain ⟨i, hi, hsz⟩ := info_of_cells (P := P) (t := fd.type) (by simpa using hz)
          refine ⟨_, ?_, (har.add fd.offset).vr⟩
          have hne : ¬ i.size = 0 := by rw [hsz]; simpa using hz
          simp [execOp, Instr.fieldAt, run_underlying hu, hfd, Instr.sureAddr, e, fieldPlace, run_sizeOf' hi, hne]
      · cases h
    · cases h
  · rename_i t x i ho; simp only at ho; subst ho
    obtain ⟨v', hv', hr⟩ := indexAddr_sound (hρ x (by simp [Op.operands])) (hρ i (by simp [Op.operands])) h w
    exact ⟨v', by simp [execOp, hv'], hr⟩
  · rename_i t x f ho; simp only at ho; subst ho
    have hx := hρ x (by simp [Op.operands])
    split at h
    · rename_i fs cs hu hcs
      split at h
      · rename_i fd hfd
        rw [hcs] at hx
        obtain ⟨cs', e, hr⟩ := vr_agg hx
        obtain ⟨v', hv', hvv⟩ := part_sound hr h w
        exact ⟨v', by simp [execOp, Instr.field, run_underlying hu, hfd, asAgg, e, hv'], hvv⟩
      · cases h
    · cases h
  · rename_i t x i ho; simp only at ho; subst ho
    split at h
    · rename_i len elem cs k n hu hcs hn
      have hx := hρ x (by simp [Op.operands])
      have hi := hρ i (by simp [Op.operands])
      rw [hcs] at hx
      rw [hn] at hi
      have hi' := vr_int hi
      obtain ⟨cs', e, hr⟩ := vr_agg hx
      split at h
      · rename_i ei hei
        cases hc : (decide (0 ≤ n) && decide (n < (len : Int))) with
        | false => rw [hc] at h; cases h
        | true =>
          rw [hc] at h
          simp only [cond_true] at h
          simp only [Bool.and_eq_true, decide_eq_true_eq] at hc
          obtain ⟨v', hv', hvv⟩ := part_sound hr h w
          refine ⟨v', ?_, hvv⟩
          simp only [execOp, Sem.run_bind, Instr.index, hi', asIntOf, Sem.run_pure, Result.andThen_ok, run_underlying hu, e]
          rw [if_pos hc]
          simp [run_sizeOf' hei, hv']
      · cases h
    · exact pl (by simp) h
  · rename_i t x lo hi mx ho; simp only at ho; subst ho
    have hx := hρ x (by simp [Op.operands])
    have hlo : Option.Rel (VR m) (lo.map ρ) (lo.map ρ') := optR fun y hy => hρ y (by simp [Op.operands]; cases lo <;> simp_all)
    have hhi : Option.Rel (VR m) (hi.map ρ) (hi.map ρ') := optR fun y hy => hρ y (by simp [Op.operands]; cases hi <;> simp_all)
    have hmx : Option.Rel (VR m) (mx.map ρ) (mx.map ρ') := optR fun y hy => hρ y (by simp [Op.operands]; cases mx <;> simp_all)
    split at h
    · obtain ⟨v', hv', hr⟩ := slice_sound hE hx hlo hhi hmx h w
      exact ⟨v', by simp [execOp, hv'], hr⟩
    · obtain ⟨v', hv', hr⟩ := slice_sound hE hx hlo hhi hmx h w
      exact ⟨v', by simp [execOp, hv'], hr⟩
    · exact pl (by simp) h
  · rename_i t ps ho; simp only at ho; subst ho
    have hp : PartsR m (ps.toList.map fun p => (p.1, ρ p.2)) (ps.toList.map fun p => (p.1, ρ' p.2)) := parts_of fun p hp => hρ p.2 (by simp [Op.operands]; exact ⟨p.1, by simpa using hp⟩)
    obtain ⟨v', hv', hr⟩ := build_sound hp h w
    refine ⟨v', ?_, hr⟩
    have e : (ps.map fun (i, x) => (i, ρ' x)) = (ps.toList.map fun p => (p.1, ρ' p.2)).toArray := by apply Array.ext'; simp
    simp only [execOp, Sem.run_bind, e, hv', Result.andThen_ok, Sem.run_pure]
  · rename_i x t ho; simp only at ho; subst ho
    have hx := hρ x (by simp [Op.operands, Call.operands])
    split at h
    · rename_i e1 a n c hu hs
      injection h with h; subst h
      rw [hs] at hx
      have : ∃ a' c', ρ' x = .slice a' n c' := by
        cases a with
        | none => generalize ρ' x = y at hx; cases hx with | sliceN => exact ⟨_, _, rfl⟩
        | some a => obtain ⟨a', c', e, _⟩ := vr_slice hx; exact ⟨_, _, e⟩
      obtain ⟨a', c', e⟩ := this
      exact ⟨.int .i64 n, by simp [execOp, resolve, invoke, builtin, Builtin.len_, run_underlying hu, e, goInt], .int _ _⟩
    · exact pl (by simp) h
  · cases h
  · rename_i op t x y z ho; simp only at ho; subst ho
    split at h
    · rename_i b hb
      injection h with h; subst h
      obtain ⟨h1, h2⟩ := nilCmp_sound (P := P) (hρ x (by simp [Op.operands])) (hρ y (by simp [Op.operands])) hb x y w
      exact ⟨_, by simp [execOp, h1, h2], .bool _⟩
    · exact pl (by simp) h
  · rename_i hs hs2
    exact pl (fun cs b e => hs cs b e) h
end
end Go.Am
end

section
/-
  The operations that read, write or make memory.
-/
namespace Go.Am

def readCells (H loc : Hp) (a : Addr) (n : Nat) : Option (List Value) :=
  match a.spot with
  | none => match H[a.block]? with
    | some b => bif b.live && decide (a.off + n ≤ b.cells.length) then fSpine ((b.cells.drop a.off).take n) some else none
    | none => none
  | some 0 => match loc[a.block]? with
    | some b => bif b.live && decide (a.off + n ≤ b.cells.length) then fSpine ((b.cells.drop a.off).take n) some else none
    | none => none
  | some (_ + 1) => none

def cellOk (v : Value) : Bool := v.oneCell' && noLoc v

def writeCells (H loc : Hp) (a : Addr) (vs : List Value) : Option (Hp × Hp × List Nat × List Nat) :=
  match a.spot with
  | none => match H[a.block]? with
    | some b => bif b.live && decide (a.off + vs.length ≤ b.cells.length) && vs.all cellOk then fSpine (splice b.cells a.off vs) (fun cs => fSet H a.block { b with cells := cs } fun H' => some (H', loc, [a.block], [])) else none
    | none => none
  | some 0 => match loc[a.block]? with
    | some b => bif b.live && decide (a.off + vs.length ≤ b.cells.length) && vs.all (·.oneCell') then fSpine (splice b.cells a.off vs) (fun cs => fSet loc a.block { b with cells := cs } fun loc' => some (H, loc', [], [a.block])) else none
    | none => none
  | some (_ + 1) => none

section
variable {P : Program} {m : Mp} {H loc : Hp} {w : World}

theorem cell_of_block {w : World} {g : Nat} {cs : Array Value} {t : TypeId} {fr : Nat × Nat} (h : w.heap[g]? = some (.cells cs t fr)) (o : Nat) : w.cell? ⟨g, o, none⟩ = cs[o]? := cell_of_row w g o cs t fr h

theorem read_sound (hR : Rel m H loc w) {a a' : Addr} (har : AR m a a') {n : Nat} {vs : List Value} (h : readCells H loc a n = some vs) :
    ∃ vs', VRs m vs vs' ∧ vs.length = n ∧ ∀ j v, vs'[j]? = some v → w.cell? (a'.add j) = some v := by
  obtain ⟨b', o', s'⟩ := a'
  have hs := har.spot
  simp only at hs
  subst hs
  have hadd : ∀ j, (⟨b', o', none⟩ : Addr).add j = ⟨b', o' + j, none⟩ := fun j => addr_add_spot rfl j
  unfold readCells at h
  simp only [fSpine_eq] at h
  rcases har with ⟨h1, h2, h3, _⟩ | ⟨h1, h2, h3, _⟩
  · rw [h1] at h
    simp only at h h2 h3
    split at h
    · rename_i b hb
      cases hc : (b.live && decide (a.off + n ≤ b.cells.length)) with
      | false => rw [hc] at h; cases h
      | true =>
        rw [hc] at h
        simp only [cond_true, Option.some.injEq] at h
        subst h
        simp only [Bool.and_eq_true, decide_eq_true_eq] at hc
        obtain ⟨_, b0, hb0, hG⟩ := hR.glob _ _ h2
        rw [hb] at hb0; injection hb0 with hb0; subst hb0
        obtain ⟨cs, e1, e2, e3, _⟩ := hG.blk hc.1
        refine ⟨(((cs.toList.take b.cells.length)).drop a.off).take n, ((e3.mono (noL_le m)).drop _).take _, by simp; omega, fun j v hv => ?_⟩
        rw [hadd, cell_of_block e1]
        simp only [List.getElem?_take, List.getElem?_drop] at hv
        split at hv
        · split at hv
          · rw [h3]; simpa using hv
          · cases hv
        · cases hv
    · cases h
  · rw [h1] at h
    simp only at h h2 h3
    split at h
    · rename_i b hb
      cases hc : (b.live && decide (a.off + n ≤ b.cells.length)) with
      | false => rw [hc] at h; cases h
      | true =>
        rw [hc] at h
        simp only [cond_true, Option.some.injEq] at h
        subst h
        simp only [Bool.and_eq_true, decide_eq_true_eq] at hc
        obtain ⟨_, b0, hb0, hL⟩ := hR.locs _ _ h2
        rw [hb] at hb0; injection hb0 with hb0; subst hb0
        obtain ⟨cs, e1, e3⟩ := hL.blk hc.1
        refine ⟨((cs.toList).drop a.off).take n, (e3.drop _).take _, by simp; omega, fun j v hv => ?_⟩
        rw [hadd, cell_of_block e1]
        simp only [List.getElem?_take, List.getElem?_drop] at hv
        split at hv
        · rw [h3]; simpa using hv
        · cases hv
    · cases h

theorem vr_noLoc {v v' : Value} (hn : noLoc v = true) (h : VR m v v') : VR m.noL v v' := noLoc_vr (m := m) (m' := m.noL) rfl rfl rfl rfl 6 v v' hn h
theorem vrs_noLoc {vs vs' : List Value} (hn : vs.all noLoc = true) (h : VRs m vs vs') : VRs m.noL vs vs' :=
  ⟨h.1, fun i v v' a b => vr_noLoc (List.all_eq_true.1 hn v (List.mem_of_getElem? a)) (h.2 i v v' a b)⟩
theorem vrs_one {vs vs' : List Value} (hn : vs.all (·.oneCell') = true) (h : VRs m vs vs') : ∀ v ∈ vs', v.oneCell' = true := by
  intro v' hv'
  obtain ⟨i, hi⟩ := List.getElem?_of_mem hv'
  have hlt : i < vs.length := by
    have := (List.getElem?_eq_some_iff.1 hi).1
    have := h.1
    omega
  have := h.2 i vs[i] v' (List.getElem?_eq_getElem hlt) hi
  rw [vr_oneCell this]
  exact List.all_eq_true.1 hn _ (List.getElem_mem hlt)
theorem all_cellOk {vs : List Value} (h : vs.all cellOk = true) : vs.all (·.oneCell') = true ∧ vs.all noLoc = true := by
  simp only [List.all_eq_true, cellOk, Bool.and_eq_true] at h ⊢
  exact ⟨fun v hv => (h v hv).1, fun v hv => (h v hv).2⟩

theorem write_sound (hR : Rel m H loc w) {a a' : Addr} (har : AR m a a') {vs vs' : List Value} (hv : VRs m vs vs') {H' loc' : Hp} {wg wl : List Nat} (h : writeCells H loc a vs = some (H', loc', wg, wl)) :
    ∃ w', (storeCells a' vs').run P w = .ok () w' ∧ Ext m H loc w m H' loc' w' wg wl := by
  obtain ⟨b', o', s'⟩ := a'
  have hs := har.spot
  simp only at hs
  subst hs
  unfold writeCells at h
  simp only [fSpine_eq, fSet_eq] at h
  rcases har with ⟨h1, h2, h3, _⟩ | ⟨h1, h2, h3, _⟩
  · rw [h1] at h
    simp only at h h2 h3
    subst h3
    split at h
    · rename_i b hb
      cases hc : (b.live && decide (a.off + vs.length ≤ b.cells.length) && vs.all cellOk) with
      | false => rw [hc] at h; cases h
      | true =>
        rw [hc] at h
        simp only [cond_true, Option.some.injEq, Prod.mk.injEq] at h
        obtain ⟨rfl, rfl, rfl, rfl⟩ := h
        simp only [Bool.and_eq_true, decide_eq_true_eq] at hc
        obtain ⟨⟨hl, hle⟩, hok⟩ := hc
        obtain ⟨ho, hn⟩ := all_cellOk hok
        obtain ⟨_, b0, hb0, hG⟩ := hR.glob _ _ h2
        rw [hb] at hb0; injection hb0 with hb0; subst hb0
        obtain ⟨cs, e1, e2, e3, _⟩ := hG.blk hl
        refine ⟨_, run_storeCells_at (P := P) b' a.off b.elem vs' 0 cs w e1 (by have := hv.1; omega) (vrs_one ho hv), ?_⟩
        have := ext_writeG hR h2 hb hl e1 a.off hle (vrs_noLoc hn hv)
        simpa [splice] using this
    · cases h
  · rw [h1] at h
    simp only at h h2 h3
    subst h3
    split at h
    · rename_i b hb
      cases hc : (b.live && decide (a.off + vs.length ≤ b.cells.length) && vs.all (·.oneCell')) with
      | false => rw [hc] at h; cases h
      | true =>
        rw [hc] at h
        simp only [cond_true, Option.some.injEq, Prod.mk.injEq] at h
        obtain ⟨rfl, rfl, rfl, rfl⟩ := h
        simp only [Bool.and_eq_true, decide_eq_true_eq] at hc
        obtain ⟨⟨hl, hle⟩, ho⟩ := hc
        obtain ⟨_, b0, hb0, hL⟩ := hR.locs _ _ h2
        rw [hb] at hb0; injection hb0 with hb0; subst hb0
        obtain ⟨cs, e1, e3⟩ := hL.blk hl
        refine ⟨_, run_storeCells_at (P := P) b' a.off b.elem vs' 0 cs w e1 (by have := hv.1; have := e3.1; simp at this; omega) (vrs_one ho hv), ?_⟩
        have := ext_writeL hR h2 hb hl e1 a.off hv
        simpa [splice] using this
    · cases h

def evLoad (P : Program) (H loc : Hp) (t : TypeId) (x : Value) : Option Value :=
  match x with
  | .pointer (some a) =>
    match isAggT P t with
    | some true => match P.info? t with
      | some i => match readCells H loc a i.size with
        | some vs => some (.agg ⟨vs⟩)
        | none => none
      | none => none
    | some false => match readCells H loc a 1 with
      | some [v] => some v
      | _ => none
    | none => none
  | _ => none

theorem load_sound (hR : Rel m H loc w) {t : TypeId} {x x' v : Value} (hx : VR m x x') (h : evLoad P H loc t x = some v) :
    ∃ v', (Instr.loadAt t x').run P w = .ok v' w ∧ VR m v v' := by
  unfold evLoad at h
  split at h
  · rename_i a
    obtain ⟨a', rfl, har⟩ := vr_ptr hx
    split at h
    · rename_i hagg
      split at h
      · rename_i i hi
        split at h
        · rename_i vs hvs
          injection h with h; subst h
          obtain ⟨vs', hvr, hlen, hcell⟩ := read_sound hR har hvs
          refine ⟨.agg vs'.toArray, ?_, hvr.agg⟩
          have := run_loadCells_list (P := P) w a' vs' hcell
          have hl : vs'.length = i.size := by have := hvr.1; omega
          rw [hl] at this
          simp [Instr.loadAt, Instr.sureAddr, loadVar, run_isAgg hagg, run_sizeOf' hi, this]
        · cases h
      · cases h
    · rename_i hagg
      split at h
      · rename_i v0 hvs
        injection h with h; subst h
        obtain ⟨vs', hvr, hlen, hcell⟩ := read_sound hR har hvs
        obtain ⟨v', l', rfl, h1, h2⟩ := hvr.cons_inv
        have hc := hcell 0 v' rfl
        have e0 : a'.add 0 = a' := rfl
        rw [e0] at hc
        exact ⟨v', by simp [Instr.loadAt, Instr.sureAddr, loadVar, run_isAgg hagg, hc], h1⟩
      · cases h
    · cases h
  · cases h

def evStore (P : Program) (H loc : Hp) (t : TypeId) (x v : Value) : Option (Hp × Hp × List Nat × List Nat) :=
  match x with
  | .pointer (some a) => match P.info? t with
    | some i => bif v.cells.size == i.size then writeCells H loc a v.cells.toList else none
    | none => none
  | _ => none

theorem store_sound (hR : Rel m H loc w) {t : TypeId} {x x' v v' : Value} (hx : VR m x x') (hv : VR m v v') {H' loc' : Hp} {wg wl : List Nat} (h : evStore P H loc t x v = some (H', loc', wg, wl)) :
    ∃ w', (Instr.storeAt t x' v').run P w = .ok () w' ∧ Ext m H loc w m H' loc' w' wg wl := by
  unfold evStore at h
  split at h
  · rename_i a
    obtain ⟨a', rfl, har⟩ := vr_ptr hx
    split at h
    · rename_i i hi
      cases hc : (v.cells.size == i.size) with
      | false => rw [hc] at h; cases h
      | true =>
        rw [hc] at h
        simp only [cond_true] at h
        have hcells := vr_cells hv
        obtain ⟨w', hrun, hext⟩ := write_sound (P := P) hR har hcells h
        refine ⟨w', ?_, hext⟩
        have hsz : v'.cells.size = i.size := by
          have h1 : v.cells.size = i.size := by simpa using hc
          have := hcells.1
          simp at this
          omega
        simp [Instr.storeAt, Instr.sureAddr, storeVar, run_sizeOf' hi, hsz, hrun]
    · cases h
  · cases h

/-- The cells of n zeros, as make and a literal lay them. -/
def zcells (z : Value) (n : Nat) : List Value := (List.range n).map fun i => z.cells[i % z.cells.size]!

theorem vr_cells_plain {z : Value} (h : plainV z = true) {m : Mp} : ∀ v ∈ z.cells.toList, VR m v v := by
  intro v hv
  obtain ⟨i, hi⟩ := List.getElem?_of_mem hv
  exact (vr_cells (plain_vr m 4 z h)).2 i v v hi hi

theorem zcells_vr {z : Value} (h : plainV z = true) (hz : 0 < z.cells.size) (n : Nat) (m : Mp) : VRs m (zcells z n) (zcells z n) := by
  refine ⟨rfl, fun i v v' a b => ?_⟩
  rw [a] at b; injection b with b; subst b
  simp only [zcells, List.getElem?_map, Option.map_eq_some_iff] at a
  obtain ⟨j, _, rfl⟩ := a
  have hlt : j % z.cells.size < z.cells.size := Nat.mod_lt _ hz
  rw [getElem!_pos z.cells _ hlt]
  exact vr_cells_plain h _ (by simp)

end
end Go.Am
end

section
/-
  New blocks, append, copy.
-/
namespace Go.Am

/-- What an operation that makes a block makes: the block, and the value that names it: none: a pointer; (n, c): a slice. -/
def evAlloc (P : Program) (op : Op) (ρ : Operand → Value) : Option (Blk × Option (Nat × Nat)) :=
  match op with
  | .alloc elem => match P.info? elem with
    | some i => match i.zero with
      | some z => bif plainV z then some (⟨z.cells.toList, elem, 0, false, true⟩, none) else none
      | none => none
    | none => none
  | .box elem x => some (⟨(ρ x).cells.toList, elem, 0, false, true⟩, none)
  | .buildSlice t len ps => match P.underlying t with
    | some (.slice elem) => match P.info? elem with
      | some i => match i.zero with
        | some z => bif plainV z && decide (0 < z.cells.size) && decide (len * i.size ≤ 16777216) then
            match Instr.fill (fun k => some (k * i.size, i.size)) ⟨zcells z (len * i.size)⟩ (ps.toList.map fun (k, x) => (k, ρ x)) with
            | some cells => some (⟨cells.toList, elem, 0, false, true⟩, some (len, len))
            | none => none
          else none
        | none => none
      | none => none
    | _ => none
  | .makeSlice t l c => match P.underlying t, ρ l, ρ c with
    | some (.slice elem), .int _ ln, .int _ cp => match P.info? elem with
      | some i => match i.zero with
        | some z => bif plainV z && decide (0 < z.cells.size) && decide (0 ≤ ln) && decide (ln ≤ cp) && decide (cp < 9223372036854775808) && decide ((i.bytes : Int) * cp ≤ 281474976710656) then
            some (⟨zcells z (cp.toNat * i.size), elem, 0, false, true⟩, some (ln.toNat, cp.toNat))
          else none
        | none => none
      | none => none
    | _, _, _ => none
  | _ => none

def nameV (k : Option (Nat × Nat)) (a : Addr) : Value :=
  match k with
  | none => .pointer (some a)
  | some (n, c) => .slice (some a) n c

theorem nameV_vr {m : Mp} {a a' : Addr} (h : AR m a a') (k : Option (Nat × Nat)) : VR m (nameV k a) (nameV k a') := by
  cases k with
  | none => exact h.vr
  | some p => exact SR.vr (.inl ⟨h, .inl rfl⟩)

section
variable {P : Program} {m : Mp} {H loc : Hp} {w : World}

/-- The concrete run: a block with related cells, named in the same way. -/
theorem alloc_run {o : Oper} {ρ ρ' : Operand → Value} (hρ : OpR m ρ ρ' o) {b : Blk} {k : Option (Nat × Nat)} (h : evAlloc P o.op ρ = some (b, k)) (w : World) :
    ∃ cs : Array Value, (execOp ρ' o).run P w = .ok (.value (nameV k ⟨w.heap.size, 0, none⟩)) (w.alloc (.cells cs b.elem)) ∧ VRs m b.cells cs.toList ∧ b.live = true ∧ b.loose = false := by
  obtain ⟨dst, op, type, pos, after, guard⟩ := o
  unfold OpR at hρ
  unfold evAlloc at h
  simp only at h hρ
  split at h
  · rename_i elem
    split at h
    · rename_i i hi
      split at h
      · rename_i z hz
        cases hp : plainV z with
        | false => rw [hp] at h; cases h
        | true =>
          rw [hp] at h
          simp only [cond_true, Option.some.injEq, Prod.mk.injEq] at h
          obtain ⟨rfl, rfl⟩ := h
          refine ⟨z.cells, ?_, vr_cells (plain_vr m 4 z hp), rfl, rfl⟩
          simp [execOp, Instr.alloc, zeroValue, run_typeInfo hi, hz, newVar, newRow, nameV]
      · cases h
    · cases h
  · rename_i elem x
    simp only [Option.some.injEq, Prod.mk.injEq] at h
    obtain ⟨rfl, rfl⟩ := h
    refine ⟨(ρ' x).cells, ?_, vr_cells (hρ x (by simp [Op.operands])), rfl, rfl⟩
    simp [execOp, Instr.box, newVar, newRow, nameV]
  · rename_i t len ps
    split at h
    · rename_i elem hu
      split at h
      · rename_i i hi
        split at h
        · rename_i z hz
          cases hc : (plainV z && decide (0 < z.cells.size) && decide (len * i.size ≤ 16777216)) with
          | false => rw [hc] at h; cases h
          | true =>
            rw [hc] at h
            simp only [cond_true] at h
            simp only [Bool.and_eq_true, decide_eq_true_eq] at hc
            obtain ⟨⟨hp, hz0⟩, hbig⟩ := hc
            split at h
            · rename_i cells hf
              simp only [Option.some.injEq, Prod.mk.injEq] at h
              obtain ⟨rfl, rfl⟩ := h
              have hparts : PartsR m (ps.toList.map fun p => (p.1, ρ p.2)) (ps.toList.map fun p => (p.1, ρ' p.2)) := parts_of fun p hp => hρ p.2 (by simp [Op.operands]; exact ⟨p.1, by simpa using hp⟩)
              obtain ⟨r', hr', hrr⟩ := fill_sound _ _ _ ⟨zcells z (len * i.size)⟩ _ hparts (zcells_vr hp hz0 _ m) hf
              refine ⟨r', ?_, hrr, rfl, rfl⟩
              have e : (ps.map fun (i, x) => (i, ρ' x)).toList = (ps.toList.map fun p => (p.1, ρ' p.2)) := by simp
              have hng : ¬ (len * i.size > 2 ^ 24) := by omega
              by_cases h0 : len * i.size = 0
              · have e3 : (Array.range (len * i.size)).map ((#[] : Array Value)[· % (#[] : Array Value).size]!) = ⟨zcells z (len * i.size)⟩ := by simp [h0, zcells]
                simp only [execOp, Instr.buildSlice, Sem.run_bind, run_underlying hu, Result.andThen_ok, run_sizeOf' hi, Sem.run_ite, hng, if_false, Sem.run_pure, if_pos h0, e3, e, hr', newRow, run_newObj_alloc, nameV]
              · have e3 : (Array.range (len * i.size)).map (z.cells[· % z.cells.size]!) = ⟨zcells z (len * i.size)⟩ := by
                  apply Array.ext'
                  simp [zcells]
                have e4 : (zeroValue elem).run P w = .ok z w := by simp [zeroValue, run_typeInfo hi, hz]
                simp only [execOp, Instr.buildSlice, Sem.run_bind, run_underlying hu, Result.andThen_ok, run_sizeOf' hi, Sem.run_ite, hng, if_false, Sem.run_pure, if_neg h0, e4, e3, e, hr', newRow, run_newObj_alloc, nameV]
            · cases h
        · cases h
      · cases h
    · cases h
  · rename_i t l c
    have hl := hρ l (by simp [Op.operands])
    have hcc := hρ c (by simp [Op.operands])
    split at h
    · rename_i elem k1 ln k2 cp hu e1 e2
      rw [e1] at hl
      rw [e2] at hcc
      have hl' := vr_int hl
      have hc' := vr_int hcc
      split at h
      · rename_i i hi
        split at h
        · rename_i z hz
          cases hc : (plainV z && decide (0 < z.cells.size) && decide (0 ≤ ln) && decide (ln ≤ cp) && decide (cp < 9223372036854775808) && decide ((i.bytes : Int) * cp ≤ 281474976710656)) with
          | false => rw [hc] at h; cases h
          | true =>
            rw [hc] at h
            simp only [cond_true, Option.some.injEq, Prod.mk.injEq] at h
            obtain ⟨rfl, rfl⟩ := h
            simp only [Bool.and_eq_true, decide_eq_true_eq] at hc
            obtain ⟨⟨⟨⟨⟨hp, hz0⟩, h0⟩, hlc⟩, h63⟩, hby⟩ := hc
            have hrun := run_make (P := P) w t elem i z hu hi hz k1 k2 ln cp h0 hlc hby (by omega)
            refine ⟨(madeCells z.cells (cp.toNat * i.size)), ?_, ?_, rfl, rfl⟩
            · simp only [execOp, Sem.run_bind, hl', hc', hrun, Result.andThen_ok, Sem.run_pure, nameV]
            · have : (madeCells z.cells (cp.toNat * i.size)).toList = zcells z (cp.toNat * i.size) := by
                simp [madeCells, zcells]
              rw [this]
              exact zcells_vr hp hz0 _ m
        · cases h
      · cases h
    · cases h
  · cases h

end
end Go.Am
end

