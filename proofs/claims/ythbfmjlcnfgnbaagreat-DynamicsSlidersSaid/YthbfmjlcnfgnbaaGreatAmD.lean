/-
  evInert: what it yields the model yields, place for place.
-/
import Derived.Test.YthbfmjlcnfgnbaaGreatAmC
namespace Go.Am
section
variable {P : Program} {m : Mp}

theorem run_typeInfo {t : TypeId} {i : TypeInfo} (h : P.info? t = some i) (w : World) : (typeInfo t).run P w = .ok i w := by simp [typeInfo, h]
theorem run_sizeOf' {t : TypeId} {i : TypeInfo} (h : P.info? t = some i) (w : World) : (sizeOf t).run P w = .ok i.size w := by simp [sizeOf, typeInfo, h]
theorem info_of_cells {t : TypeId} (h : P.cellsOf t ≠ 0) : ∃ i, P.info? t = some i ∧ i.size = P.cellsOf t := by
  unfold Program.cellsOf at h ⊢
  cases hi : P.info? t with
  | none => simp [hi] at h
  | some i => exact ⟨i, rfl, by simp⟩
theorem run_isAgg {t : TypeId} {b : Bool} (h : isAggT P t = some b) (w : World) : (isAgg t).run P w = .ok b w := by
  unfold isAggT at h
  split at h
  · rename_i hu; injection h with h; subst h; simp [isAgg, run_underlying hu]
  · rename_i hu; injection h with h; subst h; simp [isAgg, run_underlying hu]
  · rename_i d h1 h2 hu
    injection h with h; subst h
    cases d <;> first | (exact absurd rfl (h1 _)) | (exact absurd rfl (h2 _ _)) | simp [isAgg, run_underlying hu]
  · cases h

theorem part_sound {t : TypeId} {cs cs' : Array Value} {off : Nat} {v : Value} (hc : VRs m cs.toList cs'.toList) (h : evPart P t cs.toList off = some v) (w : World) :
    ∃ v', (part t cs' off).run P w = .ok v' w ∧ VR m v v' := by
  unfold evPart at h
  cases ha : isAggT P t with
  | none => rw [ha] at h; cases h
  | some b =>
    rw [ha] at h
    cases b with
    | true =>
      simp only at h
      cases hi : P.info? t with
      | none => rw [hi] at h; cases h
      | some i =>
        rw [hi] at h
        simp only [Option.some.injEq] at h
        subst h
        refine ⟨.agg (cs'.extract off (off + i.size)), by simp [part, run_isAgg ha, run_sizeOf' hi], ?_⟩
        have e : (cs'.extract off (off + i.size)).toList = (cs'.toList.drop off).take i.size := by
          simp [List.extract_eq_take_drop]
        exact VRs.agg' (by rw [e]; exact (hc.drop off).take _)
    | false =>
      simp only at h
      obtain ⟨v', hv', hr⟩ := hc.at h
      exact ⟨v', by simp [part, run_isAgg ha, show cs'[off]? = some v' by simpa using hv'], hr⟩

theorem bnd_sound {x x' : Value} {y : Nat} {n : Nat} (hx : VR m x x') (h : bnd x y = some n) {y' : Nat} (hy : y ≤ y') (code : BoundsCode) (w : World) :
    (Instr.sliceBound x' y' code).run P w = .ok n w := by
  unfold bnd at h
  split at h
  · rename_i k i
    rw [vr_int hx]
    cases hc : (decide (0 ≤ i) && decide (i ≤ (y : Int))) with
    | false => rw [hc] at h; cases h
    | true =>
      rw [hc] at h
      simp only [cond_true, Option.some.injEq] at h
      subst h
      simp only [Bool.and_eq_true, decide_eq_true_eq] at hc
      simp only [Instr.sliceBound, asIntOf, Sem.run_bind, Sem.run_pure, Result.andThen_ok]
      rw [if_pos ⟨hc.1, by omega⟩]
      rfl
  · cases h

theorem bnd_le {x : Value} {y n : Nat} (h : bnd x y = some n) : n ≤ y := by
  unfold bnd at h
  split at h
  · rename_i k i
    cases hc : (decide (0 ≤ i) && decide (i ≤ (y : Int))) with
    | false => rw [hc] at h; cases h
    | true =>
      rw [hc] at h
      simp only [cond_true, Option.some.injEq] at h
      simp only [Bool.and_eq_true, decide_eq_true_eq] at hc
      omega
  · cases h

theorem sbounds_sound {b : Bool} {len cap cap' l h mm : Nat} {lo hi mx lo' hi' mx' : Option Value} (hlo : Option.Rel (VR m) lo lo') (hhi : Option.Rel (VR m) hi hi') (hmx : Option.Rel (VR m) mx mx')
    (hs : sbounds len cap lo hi mx = some (l, h, mm)) (hc : cap ≤ cap') (w : World) :
    (Instr.sliceBounds b len cap' lo' hi' mx').run P w = .ok (l, h, if mx = none then cap' else mm) w ∧ l ≤ h ∧ h ≤ mm ∧ (mx = none → mm = cap) ∧ mm ≤ cap := by
  have fin : ∀ {l0 h0 m0 : Nat}, (bif decide (h0 ≤ m0) then some (l0, h0, m0) else none) = some (l, h, mm) → l0 = l ∧ h0 = h ∧ m0 = mm ∧ h0 ≤ m0 := by
    intro l0 h0 m0 e
    cases hd : decide (h0 ≤ m0) with
    | false => rw [hd] at e; cases e
    | true =>
      rw [hd] at e
      simp only [cond_true, Option.some.injEq, Prod.mk.injEq] at e
      exact ⟨e.1, e.2.1, e.2.2, by simpa using hd⟩
  unfold sbounds at hs
  cases hmx with
  | none =>
    simp only at hs
    cases hhi with
    | none =>
      simp only at hs
      cases hlo with
      | none =>
        obtain ⟨rfl, rfl, rfl, hle⟩ := fin hs
        exact ⟨by simp [Instr.sliceBounds], by omega, hle, fun _ => rfl, Nat.le_refl _⟩
      | some hx =>
        simp only at hs
        split at hs
        · cases hs
        · rename_i l0 hl0
          obtain ⟨rfl, rfl, rfl, hle⟩ := fin hs
          exact ⟨by simp [Instr.sliceBounds, bnd_sound (P := P) hx hl0 (Nat.le_refl _)], bnd_le hl0, hle, fun _ => rfl, Nat.le_refl _⟩
    | some hy =>
      simp only at hs
      split at hs
      · cases hs
      · rename_i h0 hh0
        cases hlo with
        | none =>
          obtain ⟨rfl, rfl, rfl, hle⟩ := fin hs
          exact ⟨by simp [Instr.sliceBounds, bnd_sound (P := P) hy hh0 hc], by omega, hle, fun _ => rfl, Nat.le_refl _⟩
        | some hx =>
          simp only at hs
          split at hs
          · cases hs
          · rename_i l0 hl0
            obtain ⟨rfl, rfl, rfl, hle⟩ := fin hs
            exact ⟨by simp [Instr.sliceBounds, bnd_sound (P := P) hy hh0 hc, bnd_sound (P := P) hx hl0 (Nat.le_refl _)], bnd_le hl0, hle, fun _ => rfl, Nat.le_refl _⟩
  | some hz =>
    simp only at hs
    split at hs
    · cases hs
    · rename_i m0 hm0
      cases hhi with
      | none => simp only at hs; cases hs
      | some hy =>
        simp only at hs
        split at hs
        · cases hs
        · rename_i h0 hh0
          cases hlo with
          | none =>
            obtain ⟨rfl, rfl, rfl, hle⟩ := fin hs
            exact ⟨by simp [Instr.sliceBounds, bnd_sound (P := P) hz hm0 hc, bnd_sound (P := P) hy hh0 (Nat.le_refl _)], by omega, hle, (fun e => by cases e), bnd_le hm0⟩
          | some hx =>
            simp only at hs
            split at hs
            · cases hs
            · rename_i l0 hl0
              obtain ⟨rfl, rfl, rfl, hle⟩ := fin hs
              exact ⟨by simp [Instr.sliceBounds, bnd_sound (P := P) hz hm0 hc, bnd_sound (P := P) hy hh0 (Nat.le_refl _), bnd_sound (P := P) hx hl0 (Nat.le_refl _)], bnd_le hl0, hle, (fun e => by cases e), bnd_le hm0⟩

/-- The parts of a literal. -/
def PartsR (m : Mp) (ps ps' : List (Nat × Value)) : Prop := ps.length = ps'.length ∧ ∀ (i : Nat) (p p' : Nat × Value), ps[i]? = some p → ps'[i]? = some p' → p.1 = p'.1 ∧ VR m p.2 p'.2

theorem foldl_sound (off : Nat) : ∀ (vs vs' : List Value) (k : Nat) (cs cs' : Array Value), VRs m vs vs' → VRs m cs.toList cs'.toList →
    VRs m ((vs.zipIdx k).foldl (fun (a : Array Value) (p : Value × Nat) => a.setIfInBounds (off + p.2) p.1) cs).toList
      ((vs'.zipIdx k).foldl (fun (a : Array Value) (p : Value × Nat) => a.setIfInBounds (off + p.2) p.1) cs').toList
  | [], vs', k, cs, cs', hv, hc => by
    have : vs' = [] := List.eq_nil_of_length_eq_zero hv.1.symm
    subst this
    simpa using hc
  | v :: vs, vs'', k, cs, cs', hv, hc => by
    obtain ⟨v', vs', rfl, h1, h2⟩ := hv.cons_inv
    simp only [List.zipIdx_cons, List.foldl_cons]
    refine foldl_sound off vs vs' (k + 1) _ _ h2 ?_
    simp only [Array.toList_setIfInBounds]
    exact hc.set _ h1

theorem fill_sound {place : Nat → Option (Nat × Nat)} : ∀ (ps ps' : List (Nat × Value)) (cs cs' r : Array Value), PartsR m ps ps' → VRs m cs.toList cs'.toList → Instr.fill place cs ps = some r →
    ∃ r', Instr.fill place cs' ps' = some r' ∧ VRs m r.toList r'.toList
  | [], ps', cs, cs', r, hp, hc, h => by
    have : ps' = [] := List.eq_nil_of_length_eq_zero hp.1.symm
    subst this
    simp only [Instr.fill, Option.some.injEq] at h
    subst h
    exact ⟨cs', rfl, hc⟩
  | (i, v) :: ps, [], cs, cs', r, hp, hc, h => by have := hp.1; simp at this
  | (i, v) :: ps, (i', v') :: ps', cs, cs', r, hp, hc, h => by
    obtain ⟨e, hv⟩ := hp.2 0 (i, v) (i', v') rfl rfl
    simp only at e hv
    subst e
    have hv2 := vr_cells hv
    have hlen : v'.cells.size = v.cells.size := by simpa using hv2.1.symm
    have hcl : cs'.size = cs.size := by simpa using hc.1.symm
    simp only [Instr.fill] at h ⊢
    cases hpl : place i with
    | none => rw [hpl] at h; cases h
    | some os =>
      obtain ⟨off, size⟩ := os
      rw [hpl] at h
      simp only at h ⊢
      rw [hlen, hcl]
      split at h
      · cases h
      · rename_i hn
        rw [if_neg hn]
        refine fill_sound ps ps' _ _ r ⟨by have := hp.1; simpa using this, fun j p p' a b => hp.2 (j + 1) p p' (by simpa using a) (by simpa using b)⟩ ?_ h
        have := foldl_sound (m := m) off v.cells.toList v'.cells.toList 0 cs cs' hv2 hc
        have e : ∀ (x c : Array Value), Array.foldl (fun (a : Array Value) (p : Value × Nat) => a.setIfInBounds (off + p.2) p.1) c x.zipIdx = List.foldl (fun (a : Array Value) (p : Value × Nat) => a.setIfInBounds (off + p.2) p.1) c x.toList.zipIdx :=
          fun x c => by rw [← Array.foldl_toList, Array.toList_zipIdx]
        rw [← e, ← e] at this
        exact this

theorem parts_of {ρ ρ' : Operand → Value} {ps : List (Nat × Operand)} (h : ∀ p ∈ ps, VR m (ρ p.2) (ρ' p.2)) :
    PartsR m (ps.map fun p => (p.1, ρ p.2)) (ps.map fun p => (p.1, ρ' p.2)) := by
  refine ⟨by simp, fun i p p' a b => ?_⟩
  simp only [List.getElem?_map, Option.map_eq_some_iff] at a b
  obtain ⟨q, hq, rfl⟩ := a
  obtain ⟨q', hq', rfl⟩ := b
  rw [hq] at hq'; injection hq' with hq'; subst hq'
  exact ⟨rfl, h q (List.mem_of_getElem? hq)⟩

theorem mapM_places (w : World) : ∀ (fs : List Field), (∀ f ∈ fs, (P.info? f.type).isSome = true) →
    (fs.mapM (m := Sem) fun f => do pure (f.offset, ← sizeOf f.type)).run P w = .ok (fs.map fun f => (f.offset, P.cellsOf f.type)) w
  | [], _ => by simp
  | f :: fs, h => by
    have hf := h f (by simp)
    cases hi : P.info? f.type with
    | none => rw [hi] at hf; cases hf
    | some i =>
      simp only [List.mapM_cons, Sem.run_bind, run_sizeOf' hi, Result.andThen_ok, Sem.run_pure, mapM_places w fs (fun f' hf' => h f' (by simp [hf'])), List.map_cons]
      simp [Program.cellsOf, hi]

theorem build_sound {t : TypeId} {ps ps' : List (Nat × Value)} {v : Value} (hp : PartsR m ps ps') (h : evBuild P t ps = some v) (w : World) :
    ∃ v', (Instr.build t ps'.toArray).run P w = .ok v' w ∧ VR m v v' := by
  unfold evBuild at h
  cases hi : P.info? t with
  | none => rw [hi] at h; cases h
  | some ti =>
    rw [hi] at h
    simp only at h
    cases hz : ti.zero with
    | none => rw [hz] at h; cases h
    | some z =>
      rw [hz] at h
      simp only at h
      cases hpl : plainV z with
      | false => rw [hpl] at h; cases h
      | true =>
        rw [hpl] at h
        simp only [Bool.not_true, cond_false] at h
        have hzr : VRs m z.cells.toList z.cells.toList := vr_cells (plain_vr m 4 z hpl)
        have hzero : (zeroValue t).run P w = .ok z w := by simp [zeroValue, run_typeInfo hi, hz]
        split at h
        · rename_i fields hu
          cases hall : fields.toList.all (fun f => (P.info? f.type).isSome) with
          | false => rw [hall] at h; cases h
          | true =>
            rw [hall] at h
            simp only [cond_true] at h
            split at h
            · rename_i cells hf
              injection h with h; subst h
              obtain ⟨r', hr', hrr⟩ := fill_sound ps ps' _ _ _ hp hzr hf
              refine ⟨.agg r', ?_, hrr.agg'⟩
              have hmap : (fields.mapM (m := Sem) fun f => do pure (f.offset, ← sizeOf f.type)).run P w = .ok (fields.map fun f => (f.offset, P.cellsOf f.type)) w := by
                simp only [List.all_eq_true] at hall
                rw [Array.mapM_eq_mapM_toList, Sem.run_map, mapM_places w fields.toList (fun f hf => hall f hf)]
                simp only [Result.andThen_ok, Result.ok.injEq, and_true]
                apply Array.ext'
                simp
              have hr2 : Instr.fill (fun x => (fields.map fun f => (f.offset, P.cellsOf f.type))[x]?) z.cells ps' = some r' := by
                simpa [Array.getElem?_map] using hr'
              simp only [Instr.build, Sem.run_bind, hzero, Result.andThen_ok, run_underlying hu, hmap, hr2]
              rfl
            · cases h
        · rename_i n elem hu
          split at h
          · rename_i ei hei
            split at h
            · rename_i cells hf
              injection h with h; subst h
              obtain ⟨r', hr', hrr⟩ := fill_sound ps ps' _ _ _ hp hzr hf
              refine ⟨.agg r', ?_, hrr.agg'⟩
              simp only [Instr.build, Sem.run_bind, hzero, Result.andThen_ok, run_underlying hu, run_sizeOf' hei, hr']
              rfl
            · cases h
          · cases h
        · cases h

theorem optR {ρ ρ' : Operand → Value} {x : Option Operand} (h : ∀ y ∈ x.toArray, VR m (ρ y) (ρ' y)) : Option.Rel (VR m) (x.map ρ) (x.map ρ') := by
  cases x with
  | none => exact .none
  | some y => exact .some (h y (by simp))

/-- What is known of the blocks' elements. -/
def EszR (m : Mp) (H : Hp) : Prop := ∀ i g b, m.gb i = some g → H[i]? = some b → m.esz i = b.esz ∧ m.loose i = b.loose

theorem slice_core {H : Hp} (hE : EszR m H) {a : Addr} {len cap size l h mm c' : Nat} {a' : Addr} (hsr : SR m a len cap a' c') (hfit : sizeFits H a size = true) (h1 : l ≤ h) (h2 : h ≤ mm) {nomax : Bool} (h4 : nomax = true → mm = cap) (h5 : mm ≤ cap) :
    VR m (.slice (some (bif mm == l then a else addA a (l * size))) (h - l) (mm - l))
      (.slice (if (if nomax then c' else mm) = l then some a' else some (a'.add (l * size))) (h - l) ((if nomax then c' else mm) - l)) := by
  have hsplit : ∀ (q : Prop) [Decidable q] (x y : Addr), (if q then some x else some y) = some (if q then x else y) := fun q _ x y => by split <;> rfl
  rw [hsplit]
  refine SR.vr ?_
  rcases hsr with ⟨har, hc⟩ | ⟨rfl, rfl, hsp, hl, g, hg⟩
  · cases nomax with
    | true =>
      simp only [if_true]
      have e4 := h4 rfl
      subst e4
      rcases hc with rfl | ⟨hsp, hlo, hcc, htt⟩
      · by_cases hml : c' = l
        · subst hml
          simp only [BEq.rfl, cond_true, if_true]
          exact .inl ⟨har, .inl rfl⟩
        · simp only [beq_eq_false_iff_ne.2 hml, cond_false, if_neg hml]
          exact .inl ⟨har.add _, .inl rfl⟩
      · obtain ⟨g, hg⟩ : ∃ g, m.gb a.block = some g := by
          rcases har with ⟨_, e, _⟩ | ⟨e, _⟩
          · exact ⟨_, e⟩
          · rw [hsp] at e; cases e
        by_cases hml : mm = l
        · subst hml
          have hhl : h = mm := by omega
          subst hhl
          simp only [BEq.rfl, cond_true, Nat.sub_self]
          exact .inr ⟨rfl, rfl, hsp, hlo, g, hg⟩
        · simp only [beq_eq_false_iff_ne.2 hml, cond_false, if_neg (show ¬ c' = l by omega)]
          refine .inl ⟨har.add _, .inr ⟨hsp, hlo, by omega, ?_⟩⟩
          have hez : m.esz a.block = size := by
            unfold sizeFits at hfit
            rw [hsp] at hfit
            simp only at hfit
            split at hfit
            · rename_i b hb
              obtain ⟨e1, e2⟩ := hE _ _ b hg hb
              rw [hlo] at e2
              simp [← e2] at hfit
              omega
            · cases hfit
          simp only [addA, hez]
          rw [hez] at htt
          have : l * size + (c' - l) * size = c' * size := by rw [← Nat.add_mul]; congr 1; omega
          omega
    | false =>
      simp only [Bool.false_eq_true, if_false]
      by_cases hml : mm = l
      · subst hml
        simp only [BEq.rfl, cond_true, if_true]
        exact .inl ⟨har, .inl rfl⟩
      · simp only [beq_eq_false_iff_ne.2 hml, cond_false, if_neg hml]
        exact .inl ⟨har.add _, .inl rfl⟩
  · have e1 : mm = 0 := by omega
    have e2 : h = 0 := by omega
    have e3 : l = 0 := by omega
    subst e1; subst e2; subst e3
    simp only [BEq.rfl, cond_true, Nat.sub_self]
    exact .inr ⟨rfl, rfl, hsp, hl, g, hg⟩

theorem slice_sound {H : Hp} (hE : EszR m H) {t : TypeId} {x x' v : Value} {lo hi mx lo' hi' mx' : Option Value} (hx : VR m x x') (hlo : Option.Rel (VR m) lo lo') (hhi : Option.Rel (VR m) hi hi') (hmx : Option.Rel (VR m) mx mx')
    (h : evSlice P H t x lo hi mx = some v) (w : World) : ∃ v', (Instr.sliceAt t x' lo' hi' mx').run P w = .ok v' w ∧ VR m v v' := by
  unfold evSlice at h
  split at h
  · rename_i elem a len cap hu
    split at h
    · rename_i ti l hh mm hti hs
      cases hfit : sizeFits H a ti.size with
      | false => rw [hfit] at h; cases h
      | true =>
        rw [hfit] at h
        simp only [cond_true, Option.some.injEq] at h
        subst h
        obtain ⟨a', c', rfl, hsr⟩ := vr_slice hx
        have hcap : cap ≤ c' := by
          rcases hsr with ⟨_, rfl | ⟨_, _, h3, _⟩⟩ | ⟨_, h2, _⟩
          · exact Nat.le_refl _
          · exact h3
          · omega
        obtain ⟨hrun, h1, h2, h4, h5⟩ := sbounds_sound (P := P) (b := true) hlo hhi hmx hs hcap w
        refine ⟨_, by simp only [Instr.sliceAt, Sem.run_bind, run_underlying hu, Result.andThen_ok, Instr.slice, hrun, run_sizeOf' hti, Sem.run_pure]; rfl, ?_⟩
        have hres := slice_core hE hsr hfit h1 h2 (nomax := decide (mx = none)) (by simpa using h4) h5
        simpa using hres
    · cases h
  · rename_i n elem a hu
    split at h
    · rename_i ti l hh mm hti hs
      injection h with h; subst h
      obtain ⟨a', rfl, har⟩ := vr_ptr hx
      obtain ⟨hrun, h1, h2, h4, h5⟩ := sbounds_sound (P := P) (b := false) hlo hhi hmx hs (Nat.le_refl n) w
      have hm : (if mx = none then n else mm) = mm := by
        split
        · rename_i e; exact (h4 e).symm
        · rfl
      rw [hm] at hrun
      refine ⟨_, by simp only [Instr.sliceAt, Sem.run_bind, run_underlying hu, Result.andThen_ok, Instr.sureAddr, Sem.run_pure, hrun, run_sizeOf' hti]; rfl, ?_⟩
      refine SR.vr ?_
      by_cases hml : mm = l
      · subst hml
        simp only [BEq.rfl, cond_true, if_true]
        exact .inl ⟨har, .inl rfl⟩
      · simp only [beq_eq_false_iff_ne.2 hml, cond_false, if_neg hml]
        exact .inl ⟨har.add _, .inl rfl⟩
    · cases h
  · cases h

theorem addr_add_spot {a : Addr} (h : a.spot = none) (n : Nat) : a.add n = { a with off := a.off + n } := by
  obtain ⟨b, o, s⟩ := a
  simp only at h
  subst h
  unfold Addr.add
  split <;> simp_all

theorem indexAddr_sound {t : TypeId} {x i x' i' v : Value} (hx : VR m x x') (hi : VR m i i') (h : evIndexAddr P t x i = some v) (w : World) :
    ∃ v', (Instr.indexAt t x' i').run P w = .ok v' w ∧ VR m v v' := by
  unfold evIndexAddr at h
  split at h
  · rename_i len elem a k n hu
    rw [vr_int hi]
    split at h
    · rename_i ti hti
      cases hc : (decide (0 ≤ n) && decide (n < (len : Int))) with
      | false => rw [hc] at h; cases h
      | true =>
        rw [hc] at h
        simp only [cond_true, Option.some.injEq] at h
        subst h
        simp only [Bool.and_eq_true, decide_eq_true_eq] at hc
        obtain ⟨a', rfl, har⟩ := vr_ptr hx
        refine ⟨.pointer (some (a'.add (n.toNat * ti.size))), ?_, (har.add _).vr⟩
        simp only [Instr.indexAt, asIntOf, Sem.run_bind, Sem.run_pure, Result.andThen_ok, run_underlying hu, Instr.sureAddr]
        rw [if_pos hc]
        simp [run_sizeOf' hti]
    · cases h
  · rename_i elem a len cap k n hu
    rw [vr_int hi]
    split at h
    · rename_i ti hti
      cases hc : (decide (0 ≤ n) && decide (n < (len : Int))) with
      | false => rw [hc] at h; cases h
      | true =>
        rw [hc] at h
        simp only [cond_true, Option.some.injEq] at h
        subst h
        simp only [Bool.and_eq_true, decide_eq_true_eq] at hc
        obtain ⟨a', c', rfl, hsr⟩ := vr_slice hx
        rcases hsr with ⟨har, _⟩ | ⟨rfl, _⟩
        · refine ⟨.pointer (some (a'.add (n.toNat * ti.size))), ?_, (har.add _).vr⟩
          simp only [Instr.indexAt, asIntOf, Sem.run_bind, Sem.run_pure, Result.andThen_ok, run_underlying hu]
          rw [if_pos hc]
          simp [run_sizeOf' hti]
        · omega
    · cases h
  · cases h

theorem evInert_sound {H : Hp} (hE : EszR m H) {o : Oper} {ρ ρ' : Operand → Value} {v : Value} (hρ : OpR m ρ ρ' o) (h : evInert P H o ρ = some v) (w : World) :
    ∃ v', (execOp ρ' o).run P w = .ok (.value v') w ∧ VR m v v' := by
  obtain ⟨dst, op, type, pos, after, guard⟩ := o
  unfold evInert at h
  unfold OpR at hρ
  have pl : ∀ (hs : ∀ cs b, op ≠ .select cs b), evPlain P ⟨dst, op, type, pos, after, guard⟩ ρ = some v → ∃ v', (execOp ρ' ⟨dst, op, type, pos, after, guard⟩).run P w = .ok (.value v') w ∧ VR m v v' :=
    fun hs hh => ⟨v, evPlain_sound hρ hs hh w⟩
  split at h
  · rename_i x ho; simp only at ho; subst ho
    injection h with h; subst h
    exact ⟨ρ' x, by simp [execOp], hρ x (by simp [Op.operands])⟩
  · rename_i x ho; simp only at ho; subst ho
    injection h with h; subst h
    exact ⟨ρ' x, by simp [execOp], hρ x (by simp [Op.operands])⟩
  · rename_i c a b ho; simp only at ho; subst ho
    have hc := hρ c (by simp [Op.operands])
    split at h
    · rename_i t ht
      injection h with h; subst h
      rw [ht] at hc
      have hc' := vr_bool hc
      refine ⟨bif t then ρ' a else ρ' b, ?_, ?_⟩
      · cases t <;> simp [execOp, asBool, hc']
      · cases t
        · exact hρ b (by simp [Op.operands])
        · exact hρ a (by simp [Op.operands])
    · cases h
  · rename_i x ho; simp only at ho; subst ho
    have hx := hρ x (by simp [Op.operands])
    split at h
    · rename_i a ha
      injection h with h; subst h
      rw [ha] at hx
      obtain ⟨a', e, har⟩ := vr_ptr hx
      exact ⟨_, by simp [execOp, e], har.vr⟩
    · rename_i f fs cs hf
      injection h with h; subst h
      rw [hf] at hx
      cases hx' : ρ' x with
      | func fn fs' cs' =>
        rw [hx'] at hx
        cases hx with
        | func h1 h2 h3 h4 => exact ⟨_, by simp [execOp, hx'], .func h1 h2 h3 h4⟩
      | _ => rw [hx'] at hx; cases hx
    · cases h
  · rename_i x k ho; simp only at ho; subst ho
    have hx := hρ x (by simp [Op.operands])
    split at h
    · rename_i vs hvs
      rw [hvs] at hx
      obtain ⟨vs', e, hr⟩ := vr_tuple hx
      obtain ⟨v', hv', hvv⟩ := hr.at h
      exact ⟨v', by simp [execOp, Instr.extract, e, show vs'[k]? = some v' by simpa using hv'], hvv⟩
    · cases h
  · rename_i f first captured ho; simp only at ho; subst ho
    injection h with h; subst h
    have key : ∀ (l : List Operand), (∀ x ∈ l, VR m (ρ x) (ρ' x)) → VRs m (l.map ρ) (l.map ρ') := by
      intro l hl
      induction l with
      | nil => exact VRs.nil m
      | cons x l ih => exact VRs.cons (hl x (by simp)) (ih fun y hy => hl y (by simp [hy]))
    have h1 := key first.toList (fun x hx => hρ x (by simp [Op.operands]; exact .inl (by simpa using hx)))
    have h2 := key captured.toList (fun x hx => hρ x (by simp [Op.operands]; exact .inr (by simpa using hx)))
    refine ⟨.func (.func f) ⟨first.toList.map ρ'⟩ ⟨captured.toList.map ρ'⟩, ?_, .func h1.1 h1.2 h2.1 h2.2⟩
    have e : ∀ (l : Array Operand), l.map ρ' = ⟨l.toList.map ρ'⟩ := fun l => by apply Array.ext'; simp
    simp [execOp, Instr.makeFunc, e]
  · rename_i s x f ho; simp only at ho; subst ho
    have hx := hρ x (by simp [Op.operands])
    split at h
    · rename_i fs a hu ha
      split at h
      · rename_i fd hfd
        cases hz : (P.cellsOf fd.type == 0) with
        | true => rw [hz] at h; cases h
        | false =>
          rw [hz] at h
          simp only [cond_false, Option.some.injEq] at h
          subst h
          rw [ha] at hx
          obtain ⟨a', e, har⟩ := vr_ptr hx
          obtain ⟨i, hi, hsz⟩ := info_of_cells (P := P) (t := fd.type) (by simpa using hz)
          refine ⟨_, ?_, (har.add fd.offset).vr⟩
          have hne : ¬ i.size = 0 := by rw [hsz]; simpa using hz
          simp [execOp, Instr.fieldAt, run_underlying hu, hfd, Instr.sureAddr, e, fieldPlace, run_sizeOf' hi, hne]
      · cases h
    · cases h
  · rename_i t x i ho; simp only at ho; subst ho
    obtain ⟨v', hv', hr⟩ := indexAddr_sound (hρ x (by simp [Op.operands])) (hρ i (by simp [Op.operands])) h w
    exact ⟨v', by simp [execOp, hv'], hr⟩
  · rename_i t x f ho; simp only at ho; subst ho
    have hx := hρ x (by simp [Op.operands])
    split at h
    · rename_i fs cs hu hcs
      split at h
      · rename_i fd hfd
        rw [hcs] at hx
        obtain ⟨cs', e, hr⟩ := vr_agg hx
        obtain ⟨v', hv', hvv⟩ := part_sound hr h w
        exact ⟨v', by simp [execOp, Instr.field, run_underlying hu, hfd, asAgg, e, hv'], hvv⟩
      · cases h
    · cases h
  · rename_i t x i ho; simp only at ho; subst ho
    split at h
    · rename_i len elem cs k n hu hcs hn
      have hx := hρ x (by simp [Op.operands])
      have hi := hρ i (by simp [Op.operands])
      rw [hcs] at hx
      rw [hn] at hi
      have hi' := vr_int hi
      obtain ⟨cs', e, hr⟩ := vr_agg hx
      split at h
      · rename_i ei hei
        cases hc : (decide (0 ≤ n) && decide (n < (len : Int))) with
        | false => rw [hc] at h; cases h
        | true =>
          rw [hc] at h
          simp only [cond_true] at h
          simp only [Bool.and_eq_true, decide_eq_true_eq] at hc
          obtain ⟨v', hv', hvv⟩ := part_sound hr h w
          refine ⟨v', ?_, hvv⟩
          simp only [execOp, Sem.run_bind, Instr.index, hi', asIntOf, Sem.run_pure, Result.andThen_ok, run_underlying hu, e]
          rw [if_pos hc]
          simp [run_sizeOf' hei, hv']
      · cases h
    · exact pl (by simp) h
  · rename_i t x lo hi mx ho; simp only at ho; subst ho
    have hx := hρ x (by simp [Op.operands])
    have hlo : Option.Rel (VR m) (lo.map ρ) (lo.map ρ') := optR fun y hy => hρ y (by simp [Op.operands]; cases lo <;> simp_all)
    have hhi : Option.Rel (VR m) (hi.map ρ) (hi.map ρ') := optR fun y hy => hρ y (by simp [Op.operands]; cases hi <;> simp_all)
    have hmx : Option.Rel (VR m) (mx.map ρ) (mx.map ρ') := optR fun y hy => hρ y (by simp [Op.operands]; cases mx <;> simp_all)
    split at h
    · obtain ⟨v', hv', hr⟩ := slice_sound hE hx hlo hhi hmx h w
      exact ⟨v', by simp [execOp, hv'], hr⟩
    · obtain ⟨v', hv', hr⟩ := slice_sound hE hx hlo hhi hmx h w
      exact ⟨v', by simp [execOp, hv'], hr⟩
    · exact pl (by simp) h
  · rename_i t ps ho; simp only at ho; subst ho
    have hp : PartsR m (ps.toList.map fun p => (p.1, ρ p.2)) (ps.toList.map fun p => (p.1, ρ' p.2)) := parts_of fun p hp => hρ p.2 (by simp [Op.operands]; exact ⟨p.1, by simpa using hp⟩)
    obtain ⟨v', hv', hr⟩ := build_sound hp h w
    refine ⟨v', ?_, hr⟩
    have e : (ps.map fun (i, x) => (i, ρ' x)) = (ps.toList.map fun p => (p.1, ρ' p.2)).toArray := by apply Array.ext'; simp
    simp only [execOp, Sem.run_bind, e, hv', Result.andThen_ok, Sem.run_pure]
  · rename_i x t ho; simp only at ho; subst ho
    have hx := hρ x (by simp [Op.operands, Call.operands])
    split at h
    · rename_i e1 a n c hu hs
      injection h with h; subst h
      rw [hs] at hx
      have : ∃ a' c', ρ' x = .slice a' n c' := by
        cases a with
        | none => generalize ρ' x = y at hx; cases hx with | sliceN => exact ⟨_, _, rfl⟩
        | some a => obtain ⟨a', c', e, _⟩ := vr_slice hx; exact ⟨_, _, e⟩
      obtain ⟨a', c', e⟩ := this
      exact ⟨.int .i64 n, by simp [execOp, resolve, invoke, builtin, Builtin.len_, run_underlying hu, e, goInt], .int _ _⟩
    · exact pl (by simp) h
  · cases h
  · rename_i hs
    exact pl (fun cs b e => hs cs b e) h
end
end Go.Am
