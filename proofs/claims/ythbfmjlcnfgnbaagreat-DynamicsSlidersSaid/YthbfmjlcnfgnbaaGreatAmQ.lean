/-
  Drawn regions: sound.
-/
import Derived.Test.YthbfmjlcnfgnbaaGreatAmP
namespace Go.Am
section
variable {P : Program} {ops : List Oper} {S : Nat → St} {F : Nat → Fp} {m0 : Mp} {H0 : Hp} {w0 : World}

def Lof (listed : Array Bool) (k : Nat) : Prop := listed.getD k false = true

theorem lof_set {listed : Array Bool} {k : Nat} (hk : k < listed.size) : Lof (listed.setIfInBounds k true) = fun c => Lof listed c ∨ c = k := by
  funext c
  apply propext
  unfold Lof
  by_cases hck : c = k
  · subst hck
    simp [Array.getD_eq_getD_getElem?, hk]
  · simp only [Array.getD_eq_getD_getElem?, Array.getElem?_setIfInBounds_ne (Ne.symm hck), hck, or_false]

theorem cond_cases {α : Type} {c : Bool} {x y : Option α} {r : α} (h : cond c x y = some r) : (c = true ∧ x = some r) ∨ (c = false ∧ y = some r) := by
  cases c with
  | true => exact .inl ⟨rfl, h⟩
  | false => exact .inr ⟨rfl, h⟩

theorem count_set {l : List Bool} : ∀ {k : Nat}, l[k]? = some false → (l.set k true).count false + 1 = l.count false := by
  induction l with
  | nil => intro k h; simp at h
  | cons b l ih =>
    intro k h
    cases k with
    | zero => simp at h; subst h; simp
    | succ k =>
      simp only [List.getElem?_cons_succ] at h
      have := ih h
      simp only [List.set_cons_succ, List.count_cons]
      omega

theorem any_sound (hN : Named P) {X : Xt} (hX : GoodX P X) {O : Orc} (hO : GoodO P O) {esc : Nat → Bool} (hr : Run ops S F) (hs : Sta ops) (hdy : DynR ops F) (hc : constsOk ops = true) (h0 : H0.length ≤ (S 0).H.length)
    (hst : ∀ k o, ops[k]? = some o → stepTr P X O esc ops o (S k) = some (S (k + 1), F k)) {Q : Exit → Act → World → Prop}
    (hQ : ∀ m a w, Sim m0 H0 w0 (S ops.length) m a w → Q .normal a w) :
    ∀ (fuel : Nat) (listed : Array Bool) (pe : Nat) (m : Mp) (a : Act) (w : World), listed.size = ops.length → listed.toList.count false = fuel → Closed ops (Lof listed) →
      (pe = 0 ∨ ∃ o, ops[pe - 1]? = some o ∧ isEff o = true) → Inv ops S m0 H0 w0 (Lof listed) pe m a w → wpAny P .any ops.toArray Q fuel listed a w := by
  have hdone : ∀ (listed : Array Bool) (pe : Nat) (m : Mp) (a : Act) (w : World), listed.size = ops.length → Inv ops S m0 H0 w0 (Lof listed) pe m a w → Region.ready .any ops.toArray listed = [] → Q .normal a w := by
    intro listed pe m a w hsz hI hrdy
    have hall : ∀ k, k < ops.length → Lof listed k := by
      intro k
      induction k using Nat.strongRecOn with
      | ind k ih =>
        intro hk
        by_cases h : Lof listed k
        · exact h
        · exfalso
          have : k ∈ Region.ready .any ops.toArray listed := by
            rw [mem_ready]
            refine ⟨?_, ops[k], by simp [hk], fun e he hb => ?_⟩
            · unfold Lof at h
              have : k < listed.size := by omega
              simp [Array.getD_eq_getD_getElem?, this] at h ⊢
              exact h
            · have hlt := hs.back k _ (List.getElem?_eq_getElem hk) e he hb
              exact ih e.on hlt (by omega)
          rw [hrdy] at this; cases this
    have hpl := hI.pel
    have hI' := hI.shift hr (ops.length - pe) (by omega) (fun e o h1 h2 ho => by
      cases he : isEff o with
      | false => rfl
      | true => have := (hI.effs e o ho he).1 (hall e (List.getElem?_eq_some_iff.1 ho).1); omega)
    rw [show pe + (ops.length - pe) = ops.length by omega] at hI'
    refine hQ (cutAt m S ops.length) a w ⟨hI'.ext, ?_, hI.df⟩
    refine ⟨by rw [hr.frl (Nat.le_refl _), ← hI.frl]; simp, fun t v v' hv hv' => ?_⟩
    obtain ⟨j, u, h1, h2, h3, h4, h5⟩ := hI.fr t v' (by simpa using hv')
    have : (S ops.length).fr[t]? = (S j).fr[t]? := hr.keepF h1 (Nat.le_refl _) (fun c o hc1 hc2 ho hd => by have := h4 c o ho (hall c hc2) hd; omega)
    rw [hv, h2] at this
    injection this with this
    subst this
    exact h3.mono (hr.cutAt_mono h1 (Nat.le_refl _))
  intro fuel
  induction fuel with
  | zero =>
    intro listed pe m a w hsz hcnt hcl htop hI
    have hr0 : Region.ready .any ops.toArray listed = [] := by
      rw [List.eq_nil_iff_forall_not_mem]
      intro j hj
      obtain ⟨h1, o, ho, _⟩ := mem_ready.1 hj
      have hj' : j < listed.size := by
        rcases Nat.lt_or_ge j listed.size with h | h
        · exact h
        · simp [Array.getD_eq_getD_getElem?, Array.getElem?_eq_none h] at h1
      rw [List.count_eq_zero] at hcnt
      apply hcnt
      simp [Array.getD_eq_getD_getElem?, hj'] at h1
      rw [← h1]
      simp
    exact ⟨hr0, hdone listed pe m a w hsz hI hr0⟩
  | succ fuel ih =>
    intro listed pe m a w hsz hcnt hcl htop hI
    refine ⟨fun h => hdone listed pe m a w hsz hI h, fun k hk => ?_⟩
    obtain ⟨h1, o, ho, hrd⟩ := mem_ready.1 hk
    have ho' : ops[k]? = some o := by simpa using ho
    have hkl : k < ops.length := (List.getElem?_eq_some_iff.1 ho').1
    have hks : k < listed.size := by omega
    have hkf : listed[k] = false := by simpa [Array.getD_eq_getD_getElem?, hks] using h1
    have hnot : ¬ Lof listed k := by unfold Lof; simp [Array.getD_eq_getD_getElem?, hks, hkf]
    have hrd' : ∀ e ∈ o.after, Region.binds .any e = true → Lof listed e.on := hrd
    have hcnt' : (listed.setIfInBounds k true).toList.count false = fuel := by
      have := count_set (l := listed.toList) (k := k) (by simp [hks, hkf])
      simp only [Array.toList_setIfInBounds]
      omega
    have hcl' : Closed ops (fun c => Lof listed c ∨ c = k) := fun j o' hj hL e he hb => by
      rcases hL with hL | rfl
      · exact .inl (hcl j o' hj hL e he hb)
      · rw [ho'] at hj; injection hj with hj; subst hj; exact .inl (hrd' e he hb)
    have next : ∀ pe' m' a' w', (pe' = 0 ∨ ∃ o, ops[pe' - 1]? = some o ∧ isEff o = true) → Inv ops S m0 H0 w0 (fun c => Lof listed c ∨ c = k) pe' m' a' w' → wpAny P .any ops.toArray Q fuel (listed.setIfInBounds k true) a' w' := fun pe' m' a' w' ht' hI' =>
      ih _ pe' m' a' w' (by simpa using hsz) hcnt' (by rw [lof_set hks]; exact hcl') ht' (by rw [lof_set hks]; exact hI')
    have hstep := hst k o ho'
    unfold wpOp
    rw [ho]
    simp only
    rw [hI.wanted hr hs hcl ho' hnot hrd']
    unfold stepTr at hstep
    cases hw : wantedA ops (S k).fr o with
    | false =>
      rw [hw] at hstep
      simp only [cond_false, Option.some.injEq, Prod.mk.injEq] at hstep
      simp only [Bool.false_eq_true, if_false]
      have hne : isEff o = false ∨ isEff o = true := by cases isEff o <;> simp
      have hS : (S (k + 1)).fr = putF (S k).fr o.dst undef := by rw [← hstep.1]
      rcases hne with hne | hne
      · exact next pe m _ w htop (hI.calm hr hs hcl ho' hnot hne hS (VR.undef _))
      · -- one that would have acted
        have hIk : Inv ops S m0 H0 w0 (Lof listed) k m a w := by
          have hpk : pe ≤ k := by
            rcases Nat.lt_or_ge k pe with h | h
            · exact absurd ((hI.effs k o ho' hne).2 h) hnot
            · exact h
          have := hI.shift hr (k - pe) (by omega) (fun e o'' e1 e2 e3 => by
            cases he : isEff o'' with
            | false => rfl
            | true =>
              have hnL : ¬ Lof listed e := fun hl => by have := (hI.effs e o'' e3 he).1 hl; omega
              rcases hs.pair e k o'' o (by omega) e3 ho' with hb | ⟨hb, _⟩
              · exact absurd (hb.ready hcl (fun o1 ho1 => by rw [ho'] at ho1; injection ho1 with ho1; subst ho1; exact hrd')) hnL
              · exact absurd ⟨he, hne⟩ hb)
          rwa [show pe + (k - pe) = k by omega] at this
        have hx : Ext (cutAt m S k) (S k).H (S k).loc w (cutAt m S k) (S (k + 1)).H (S (k + 1)).loc w (F k).wg [] := by
          rw [← hstep.1, ← hstep.2]; exact Ext.refl hIk.ext.rel
        obtain ⟨m', hI'⟩ := hIk.act hr hs hcl ho' hnot hx hS (VR.undef _)
        exact next (k + 1) m' _ w (.inr ⟨o, by simpa using ho', hne⟩) hI'
    | true =>
      rw [hw] at hstep
      simp only [cond_true] at hstep
      simp only [if_true]
      left
      split at hstep
      · rename_i out hout
        simp only [Option.some.injEq, Prod.mk.injEq] at hstep
        obtain ⟨hS, hF⟩ := hstep
        have hSfr : (S (k + 1)).fr = putF (S k).fr o.dst out.v := by rw [← hS]
        have hSH : (S (k + 1)).H = out.H := by rw [← hS]
        have hSl : (S (k + 1)).loc = out.loc := by rw [← hS]
        have hopR := hI.opR hr hs hc hcl ho' hnot hrd'
        cases hkd : kindOf o.op with
        | eff =>
          have hne : isEff o = true := by unfold isEff; rw [hkd]
          have hIk : Inv ops S m0 H0 w0 (Lof listed) k m a w := by
            have hpk : pe ≤ k := by
              rcases Nat.lt_or_ge k pe with h | h
              · exact absurd ((hI.effs k o ho' hne).2 h) hnot
              · exact h
            have := hI.shift hr (k - pe) (by omega) (fun e o'' e1 e2 e3 => by
              cases he : isEff o'' with
              | false => rfl
              | true =>
                have hnL : ¬ Lof listed e := fun hl => by have := (hI.effs e o'' e3 he).1 hl; omega
                rcases hs.pair e k o'' o (by omega) e3 ho' with hb | ⟨hb, _⟩
                · exact absurd (hb.ready hcl (fun o1 ho1 => by rw [ho'] at ho1; injection ho1 with ho1; subst ho1; exact hrd')) hnL
                · exact absurd ⟨he, hne⟩ hb)
            rwa [show pe + (k - pe) = k by omega] at this
          refine evOp_sound hN hX hO hopR hIk.ext.rel hout fun v' w' m1 hx hv => ?_
          have hx' : Ext (cutAt m S k) (S k).H (S k).loc w m1 (S (k + 1)).H (S (k + 1)).loc w' (F k).wg out.wl := by
            rw [hSH, hSl, ← hF]; exact hx
          obtain ⟨m', hI'⟩ := hIk.act hr hs hcl ho' hnot hx' hSfr hv
          exact next (k + 1) m' _ w' (.inr ⟨o, by simpa using ho', hne⟩) hI'
        | inert =>
          have hne : isEff o = false := by unfold isEff; rw [hkd]
          unfold evOp at hout
          rw [hkd] at hout
          simp only at hout
          split at hout
          · rename_i v hv
            injection hout with hout
            have hov : out.v = v := by rw [← hout]
            obtain ⟨v', hrun, hvr⟩ := evInert_sound (P := P) (hI.esz hr (k := k) (by omega)) hopR hv w
            unfold Oper.wp
            rw [hrun]
            exact next pe m _ w htop (hI.calm hr hs hcl ho' hnot hne (by rw [hSfr, hov]) (hvr.mono (hr.cutAt_mono (by omega) hkl)))
          · cases hout
        | load =>
          have hne : isEff o = false := by unfold isEff; rw [hkd]
          have hld : isLoad o = true := by unfold isLoad; rw [hkd]
          unfold evOp at hout
          rw [hkd] at hout
          simp only at hout
          split at hout
          · rename_i t x hox
            split at hout
            · rename_i v hv
              injection hout with hout
              have hov : out.v = v := by rw [← hout]
              obtain ⟨v', hrun, hvr⟩ := hI.load (P := P) hr hs hdy hcl htop ho' hnot hrd' hld (hopR x (by simp [hox, Op.operands])) hv (fun ad had => by
                rw [← hF]
                simp only [readsOf, hox, had]
                obtain ⟨ab, ao, asp⟩ := ad
                constructor
                · intro e; simp only at e; subst e; simp
                · intro e; simp only at e; subst e; simp) (by rw [← hF, ← hov])
              unfold Oper.wp execOp
              simp only [hox, Sem.run_bind, hrun, Result.andThen_ok, Sem.run_pure]
              exact next pe m _ w htop (hI.calm hr hs hcl ho' hnot hne (by rw [hSfr, hov]) hvr)
            · cases hout
          · cases hout
        | alloc =>
          have hne : isEff o = false := by unfold isEff; rw [hkd]
          unfold evOp at hout
          rw [hkd] at hout
          simp only [fVals_eq, fSpine_eq] at hout
          split at hout
          · rename_i b kk hb
            obtain ⟨cs, hrun, hvr, hlive, hloose⟩ := alloc_run (P := P) hopR hb w
            unfold Oper.wp
            rw [hrun]
            simp only [Oper.upon]
            rcases cond_cases hout with ⟨_, hout⟩ | ⟨_, hout⟩
            · rcases cond_cases hout with ⟨hn, hout⟩ | ⟨_, hout⟩
              · simp only [Option.some.injEq] at hout
                have hoH : out.H = (S k).H ++ [b] := by rw [← hout]
                have hol : out.loc = (S k).loc := by rw [← hout]
                have hov : out.v = nameV kk ⟨(S k).H.length, 0, none⟩ := by rw [← hout]
                refine next pe _ _ _ htop (hI.makeG hr hs h0 hcl ho' hnot hne (hSH.trans hoH) (hSl.trans hol) (vrs_noLoc hn hvr) hloose (by rw [hSfr, hov]) ?_)
                exact nameV_vr (a := ⟨(S k).H.length, 0, none⟩) (a' := ⟨w.heap.size, 0, none⟩) (.inl ⟨rfl, cutAt_gb.2 ⟨by rw [hSH, hoH]; simp, by simp [Mp.addG]⟩, rfl, rfl⟩) kk
              · cases hout
            · simp only [Option.some.injEq] at hout
              have hoH : out.H = (S k).H := by rw [← hout]
              have hol : out.loc = (S k).loc ++ [b] := by rw [← hout]
              have hov : out.v = nameV kk ⟨(S k).loc.length, 0, some 0⟩ := by rw [← hout]
              refine next pe _ _ _ htop (hI.makeL hr hs hcl ho' hnot hne (hSH.trans hoH) (hSl.trans hol) hvr hlive (by rw [hSfr, hov]) ?_)
              exact nameV_vr (a := ⟨(S k).loc.length, 0, some 0⟩) (a' := ⟨w.heap.size, 0, none⟩) (.inr ⟨rfl, cutAt_lb.2 ⟨by rw [hSl, hol]; simp, by simp [Mp.addL]⟩, rfl, rfl⟩) kk
          · cases hout
      · cases hstep

theorem draw_sound (hm : P.follows .mixedOrders = true) (hN : Named P) {X : Xt} (hX : GoodX P X) {O : Orc} (hO : GoodO P O) (hP : PureO O) {esc : Nat → Bool} (hc : constsOk ops = true) {s s' : St} {m : Mp} {a : Act} {w : World} {id : Nat}
    (h : drawOps P X O esc ops s = some s') (hsim : Sim m0 H0 w0 s m a w) {Q : Exit → Act → World → Prop} (hQ : ∀ m' a' w', Sim m0 H0 w0 s' m' a' w' → Q .normal a' w') : (Code.region id ops.toArray true).wp P Q a w := by
  unfold drawOps at h
  cases hst : staticOk ops with
  | false => rw [hst] at h; cases h
  | true =>
    rw [hst] at h
    simp only [cond_true] at h
    split at h
    · rename_i s1 fps htr
      cases hdy : dynOk (confOf ops) fps with
      | false => rw [hdy] at h; cases h
      | true =>
        rw [hdy] at h
        simp only [cond_true, Option.some.injEq] at h
        subst h
        obtain ⟨S, F, e0, e1, e2, e3⟩ := trace_states ops s s1 fps htr
        have hr : Run ops S F := ⟨fun k o ho => step_pure hP (e3 k o ho), fun k o ho hne => step_quiet hne (e3 k o ho)⟩
        have hs := static_spec hst
        have hdr : DynR ops F := fun i j x y hx hy ex ly n1 n2 => dyn_spec hdy hx hy ex ly n1 n2 (e2 i (List.getElem?_eq_some_iff.1 hx).1) (e2 j (List.getElem?_eq_some_iff.1 hy).1)
        have hfr := hsim.fr
        have hext := hsim.ext
        have hcut : Le m (cutAt m S 0) := by
          refine ⟨fun i g e => cutAt_gb.2 ⟨?_, e⟩, fun i g e => cutAt_lb.2 ⟨?_, e⟩, fun _ _ _ => rfl, fun _ _ _ => rfl, fun _ _ _ => rfl⟩
          · obtain ⟨_, b, hb, _⟩ := hext.rel.glob i g e
            rw [e0]; exact (List.getElem?_eq_some_iff.1 hb).1
          · obtain ⟨_, b, hb, _⟩ := hext.rel.locs i g e
            rw [e0]; exact (List.getElem?_eq_some_iff.1 hb).1
        refine wp_region_any hm (any_sound hN hX hO hr hs hdr hc (by rw [e0]; exact hext.len) e3 (fun m' a' w' hs' => hQ m' a' w' (e1 ▸ hs')) _ _ 0 m a _ (by simp) (by simp) (fun j o ho hL => ?_) (.inl rfl) ?_)
        · unfold Lof at hL
          simp [Array.getD_eq_getD_getElem?] at hL
          rcases Nat.lt_or_ge j ops.length with h | h
          · simp [h] at hL
          · simp [Nat.not_lt.2 h] at hL
        · have hLf : ∀ c, ¬ Lof (Array.replicate ops.toArray.size false) c := fun c hL => by
            unfold Lof at hL
            rcases Nat.lt_or_ge c ops.length with h | h
            · simp [Array.getD_eq_getD_getElem?, h] at hL
            · simp [Array.getD_eq_getD_getElem?, Nat.not_lt.2 h] at hL
          refine ⟨by omega, fun e o ho he => ⟨fun hL => absurd hL (hLf e), fun h => by omega⟩, ?_, fun i g e => ?_, fun i g e => ?_, fun c i g c1 c2 c3 c4 e => ?_, fun c i g c1 c2 c3 c4 e => ?_, fun c hc => by omega, fun c hc => by omega, fun t v' hv => ?_, ?_, hsim.df⟩
          · rw [e0]
            refine ext_more hext hcut (fun _ _ => rfl) (Nat.le_refl _) (fun _ _ => rfl) (Nat.le_refl _) (fun _ _ => rfl) (Nat.le_refl _) rfl rfl rfl (fun i g e => .inl (cutAt_gb.1 e).2) (fun i g e => .inl (cutAt_lb.1 e).2)
          · obtain ⟨_, b, hb, _⟩ := hext.rel.glob i g e
            rw [e0]; exact .inl (List.getElem?_eq_some_iff.1 hb).1
          · obtain ⟨_, b, hb, _⟩ := hext.rel.locs i g e
            rw [e0]; exact .inl (List.getElem?_eq_some_iff.1 hb).1
          · obtain ⟨_, b, hb, _⟩ := hext.rel.glob i g e
            have h1 := (List.getElem?_eq_some_iff.1 hb).1
            have h2 := hr.monoG (j := 0) (k := c) (by omega) (by omega)
            rw [e0] at h2; omega
          · obtain ⟨_, b, hb, _⟩ := hext.rel.locs i g e
            have h1 := (List.getElem?_eq_some_iff.1 hb).1
            have h2 := hr.monoL (j := 0) (k := c) (by omega) (by omega)
            rw [e0] at h2; omega
          · have hlen : s.fr.length = a.tmps.size := by simpa using hfr.1
            have ht : t < s.fr.length := by rw [hlen]; exact (Array.getElem?_eq_some_iff.1 hv).1
            refine ⟨0, s.fr[t], by omega, by rw [e0]; exact List.getElem?_eq_getElem ht, (hfr.2 t _ v' (List.getElem?_eq_getElem ht) (by simpa using hv)).mono hcut, fun c o ho hL => absurd hL (hLf c), .inl rfl⟩
          · rw [e0]; simpa using hfr.1.symm
    · cases h

end
end Go.Am
