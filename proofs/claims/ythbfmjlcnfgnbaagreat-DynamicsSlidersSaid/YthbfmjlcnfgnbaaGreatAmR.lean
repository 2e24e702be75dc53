/-
  Code, bodies, calls: the machine is sound.
-/
import Derived.Test.YthbfmjlcnfgnbaaGreatAmQ
namespace Go.Am

def exOf : Ex → Exit
  | .normal => .normal
  | .exit id => .exit id
  | .ret => .ret

section
variable {P : Program} {m0 : Mp} {H0 : Hp} {w0 : World}

theorem exec_sound (hm : P.follows .mixedOrders = true) (hN : Named P) {X : Xt} (hX : GoodX P X) {O : Orc} (hO : GoodO P O) (hP : PureO O) {esc : Nat → Bool} {fuel : Nat} :
    ∀ (c : Code) (s : St) (x : Ex) (s' : St) (m : Mp) (a : Act) (w : World) (Q : Exit → Act → World → Prop), exec P X O esc fuel c s = some (x, s') → Sim m0 H0 w0 s m a w →
      (∀ m' a' w', Sim m0 H0 w0 s' m' a' w' → Q (exOf x) a' w') → c.wp P Q a w := by
  intro c
  induction c with
  | skip =>
    intro s x s' m a w Q h hs hQ
    simp only [exec, Option.some.injEq, Prod.mk.injEq] at h
    obtain ⟨rfl, rfl⟩ := h
    exact wp_skip (hQ m a w hs)
  | region id ops draw =>
    intro s x s' m a w Q h hs hQ
    unfold exec at h
    rcases cond_cases h with ⟨hc, h⟩ | ⟨_, h⟩
    · split at h
      · rename_i s1 h1
        simp only [Option.some.injEq, Prod.mk.injEq] at h
        obtain ⟨rfl, rfl⟩ := h
        cases draw with
        | true =>
          simp only [cond_true] at h1
          have := draw_sound (id := id) hm hN hX hO hP hc h1 hs hQ
          simpa using this
        | false =>
          simp only [cond_false] at h1
          exact wp_region_list (by simpa using seq_sound hN hX hO ops.toList s s1 m a w hc h1 hs hQ)
      · cases h
    · cases h
  | seq c d ihc ihd =>
    intro s x s' m a w Q h hs hQ
    unfold exec at h
    refine wp_seq ?_
    split at h
    · rename_i s1 h1
      exact ihc s .normal s1 m a w _ h1 hs fun m1 a1 w1 hs1 => ihd s1 x s' m1 a1 w1 Q h hs1 hQ
    · rename_i r hne
      refine ihc s x s' m a w _ h hs fun m1 a1 w1 hs1 => ?_
      cases x with
      | normal => exact absurd h (hne s')
      | exit i => exact hQ m1 a1 w1 hs1
      | ret => exact hQ m1 a1 w1 hs1
  | cond c t e iht ihe =>
    intro s x s' m a w Q h hs hQ
    unfold exec at h
    split at h
    · rename_i b hb
      have hev : a.eval c = .bool b := by
        cases c with
        | tmp t =>
          have := eval_vr hs.fr (x := .tmp t) rfl
          rw [hb] at this
          exact vr_bool this
        | const v => simp only [evalO] at hb; subst hb; rfl
        | global g => simp [evalO] at hb
        | func f => simp [evalO] at hb
      cases b with
      | true => exact wp_cond_true hev (iht s x s' m a w Q h hs hQ)
      | false => exact wp_cond_false hev (ihe s x s' m a w Q h hs hQ)
    · cases h
  | block id c ih =>
    intro s x s' m a w Q h hs hQ
    unfold exec at h
    refine wp_block ?_
    split at h
    · rename_i i s1 h1
      rcases cond_cases h with ⟨hi, h⟩ | ⟨hi, h⟩
      · simp only [Option.some.injEq, Prod.mk.injEq] at h
        obtain ⟨rfl, rfl⟩ := h
        refine ih s (.exit i) s1 m a w _ h1 hs fun m1 a1 w1 hs1 => ?_
        have : i = id := by simpa using hi
        simp only [exOf, Exit.inBlock, this, if_true]
        exact hQ m1 a1 w1 hs1
      · simp only [Option.some.injEq, Prod.mk.injEq] at h
        obtain ⟨rfl, rfl⟩ := h
        refine ih s (.exit i) s1 m a w _ h1 hs fun m1 a1 w1 hs1 => ?_
        have : ¬ i = id := by simpa using hi
        simp only [exOf, Exit.inBlock, this, if_false]
        exact hQ m1 a1 w1 hs1
    · rename_i r hne
      refine ih s x s' m a w _ h hs fun m1 a1 w1 hs1 => ?_
      cases x with
      | normal => exact hQ m1 a1 w1 hs1
      | exit i => exact absurd h (hne i s')
      | ret => exact hQ m1 a1 w1 hs1
  | loop c ih =>
    intro s x s' m a w Q h hs hQ
    unfold exec at h
    refine wp_loop_rounds fuel ?_
    have : ∀ (n : Nat) (s : St) (m : Mp) (a : Act) (w : World), loopN (exec P X O esc fuel c) n s = some (x, s') → Sim m0 H0 w0 s m a w → Code.rounds P c Q n a w := by
      intro n
      induction n with
      | zero => intro s m a w h _; cases h
      | succ n ihn =>
        intro s m a w h hs
        unfold loopN at h
        rw [rounds_succ]
        split at h
        · rename_i s1 h1
          exact ih s .normal s1 m a w _ h1 hs fun m1 a1 w1 hs1 => ihn s1 m1 a1 w1 h hs1
        · rename_i r hne
          refine ih s x s' m a w _ h hs fun m1 a1 w1 hs1 => ?_
          cases x with
          | normal => exact absurd h (hne s')
          | exit i => exact hQ m1 a1 w1 hs1
          | ret => exact hQ m1 a1 w1 hs1
    exact this fuel s m a w h hs
  | exit id =>
    intro s x s' m a w Q h hs hQ
    simp only [exec, Option.some.injEq, Prod.mk.injEq] at h
    obtain ⟨rfl, rfl⟩ := h
    exact wp_exit (hQ m a w hs)
  | ret =>
    intro s x s' m a w Q h hs hQ
    simp only [exec, Option.some.injEq, Prod.mk.injEq] at h
    obtain ⟨rfl, rfl⟩ := h
    exact wp_ret (hQ m a w hs)
  | rangeFunc f ps as b iha ihb => intro s x s' m a w Q h; simp [exec] at h
  | scope c ih => intro s x s' m a w Q h; simp [exec] at h
  | label l => intro s x s' m a w Q h; simp [exec] at h
  | goto l => intro s x s' m a w Q h; simp [exec] at h
  | refuse y => intro s x s' m a w Q h; simp [exec] at h

def resF (tmps : Array Value) (r : ResultVar) : Sem Value :=
  match r with
  | .tmp t => pure (tmps.getD t undef)
  | .cell x t => do loadVar t (← asAddr (tmps.getD x undef))

theorem results_eq (fn : Func) (tmps : Array Value) : results fn tmps = (do let vs ← fn.results.mapM (resF tmps); pure (if h : vs.size = 1 then vs[0] else .tuple vs)) := by
  unfold results
  congr 2

theorem results_sound {m : Mp} {s : St} {a : Act} {w : World} (hR : Rel m s.H s.loc w) (hf : VRs m s.fr a.tmps.toList) : ∀ (l : List ResultVar) (vs : List Value), resultsA P s l = some vs →
    ∃ vs', (l.mapM (resF a.tmps)).run P w = .ok vs' w ∧ VRs m vs vs'
  | [], vs, h => by
    simp only [resultsA, Option.some.injEq] at h
    subst h
    exact ⟨[], by simp, VRs.nil m⟩
  | .tmp t :: rest, vs, h => by
    unfold resultsA at h
    split at h
    · rename_i vs1 h1
      injection h with h; subst h
      obtain ⟨vs', hr, hv⟩ := results_sound hR hf rest vs1 h1
      refine ⟨a.tmps.getD t undef :: vs', by simp only [List.mapM_cons, resF, Sem.run_bind, Sem.run_pure, Result.andThen_ok, hr], .cons (eval_vr hf (x := .tmp t) rfl) hv⟩
    · cases h
  | .cell x t :: rest, vs, h => by
    unfold resultsA at h
    split at h
    · rename_i v1 vs1 hl h1
      injection h with h; subst h
      obtain ⟨vs', hr, hv⟩ := results_sound hR hf rest vs1 h1
      obtain ⟨v', hl', hvr⟩ := load_sound (P := P) hR (eval_vr hf (x := .tmp x) rfl) hl
      refine ⟨v' :: vs', ?_, .cons hvr hv⟩
      have hx := eval_vr hf (x := .tmp x) rfl
      simp only [evalO, Act.eval] at hx hl'
      unfold evLoad at hl
      split at hl
      · rename_i ad had
        rw [had] at hx
        obtain ⟨ad', hx', har⟩ := vr_ptr hx
        rw [hx'] at hl'
        have e1 : (loadVar t ad').run P w = .ok v' w := by simpa [Instr.loadAt, Instr.sureAddr] using hl'
        simp only [List.mapM_cons, resF, hx', asAddr, Sem.run_bind, Sem.run_pure, Result.andThen_ok, e1, hr]
      · cases hl
    · cases h

theorem trunc_ext {m m1 : Mp} {H H1 loc1 : Hp} {w w' : World} (hR : Rel m H [] w) (h : Ext m H [] w m1 H1 loc1 w' [] []) : Ext m H [] w m H [] w' [] [] where
  le := Le.refl m
  rel := by
    refine ⟨fun i g e => ?_, fun i g e => ?_, hR.ginj, hR.linj, hR.disj⟩
    · obtain ⟨h1, b, h2, h3⟩ := hR.glob i g e
      exact ⟨Nat.lt_of_lt_of_le h1 h.size, b, h2, h3.mono (Le.refl m) e (fun hl => h.cmod i g b e h2 hl (by simp))⟩
    · obtain ⟨_, b, h2, _⟩ := hR.locs i g e
      simp at h2
  img := fun i g e => .inl ⟨i, e⟩
  imgl := fun i g e => .inl e
  dom := fun i g e => .inl e
  doml := fun i g e => .inl e
  os := h.os
  tape := h.tape
  output := h.output
  size := h.size
  frame := h.frame
  un := fun _ _ _ => rfl
  unl := fun _ _ _ => rfl
  mod := fun _ _ _ => rfl
  modl := fun _ _ _ => rfl
  len := Nat.le_refl _
  lenl := Nat.le_refl _
  kp := fun i b e => ⟨b, e, rfl, rfl⟩
  cmod := fun i g b e hb hl _ => h.cmod i g b e hb hl (by simp)

theorem noL_ext {m m1 : Mp} {H H1 loc1 : Hp} {w w' : World} {wg : List Nat} (hlb : m.lb = noLb) (h : Ext m H [] w m1 H1 loc1 w' wg []) : Ext m H [] w m1.noL H1 [] w' wg [] :=
  { h with
    le := ⟨h.le.gb, fun i g e => (by rw [hlb] at e; cases e), h.le.loose, h.le.esz, h.le.tot⟩
    rel := rel_noL h.rel
    imgl := fun i g e => (by cases e)
    doml := fun i g e => (by cases e)
    unl := fun _ _ _ => rfl
    modl := fun _ _ _ => rfl
    lenl := Nat.le_refl _ }

theorem finish_sound {m m1 : Mp} {H : Hp} {w w' : World} (hlb : m.lb = noLb) (hR : Rel m H [] w) {s : St} (hx : Ext m H [] w m1 s.H s.loc w' s.wg []) {v v' v0 : Value} {H' : Hp} {md : List Nat} (hv : VR m1 v v') (h : finish H s v = some (v0, H', md)) :
    ∃ m', VR m' v0 v' ∧ Ext m H [] w m' H' [] w' md [] ∧ m'.lb = noLb := by
  unfold finish at h
  rcases cond_cases h with ⟨hn, h⟩ | ⟨_, h⟩
  · rcases cond_cases h with ⟨hp, h⟩ | ⟨_, h⟩
    · simp only [Option.some.injEq, Prod.mk.injEq] at h
      obtain ⟨rfl, rfl, rfl⟩ := h
      simp only [Bool.and_eq_true, List.isEmpty_iff] at hp
      rw [hp.1] at hx
      refine ⟨m, ?_, trunc_ext hR hx, hlb⟩
      have := plain_eq 4 _ _ hp.2 hv
      rw [← this]
      exact plain_vr m 4 _ hp.2
    · simp only [Option.some.injEq, Prod.mk.injEq] at h
      obtain ⟨rfl, rfl, rfl⟩ := h
      exact ⟨m1.noL, vr_noLoc hn hv, noL_ext hlb hx, rfl⟩
  · cases h

theorem pack_vr {m : Mp} {vs vs' : List Value} (h : VRs m vs vs') : VR m (packV vs) (if h : vs'.toArray.size = 1 then vs'.toArray[0] else .tuple vs'.toArray) := by
  match vs, vs', h with
  | [], [], h => simp [packV]; exact h.tuple
  | [v], [v'], h => simp [packV]; exact h.2 0 v v' rfl rfl
  | v :: u :: l, v' :: u' :: l', h => simp [packV]; exact h.tuple
  | [], _ :: _, h => have := h.1; simp at this
  | _ :: _, [], h => have := h.1; simp at this
  | [_], _ :: _ :: _, h => have := h.1; simp at this
  | _ :: _ :: _, [_], h => have := h.1; simp at this

theorem body_sound (hm : P.follows .mixedOrders = true) (hN : Named P) {X : Xt} (hX : GoodX P X) {esc : FuncId → Nat → Bool} {fuel : Nat} {O : Orc} (hO : GoodO P O) (hP : PureO O) : GoodO P (runBody P X esc fuel O) := by
  intro f args H v H' md h m w args' hlb hR hargs
  unfold runBody at h
  split at h
  · cases h
  · rename_i fn hf
    split at h
    · cases h
    · rename_i c hc
      have hlen : args.length = args'.toArray.size := by simpa using hargs.1
      have hsim : Sim m H w ⟨args ++ List.replicate (fn.ntmps - args.length) undef, H, [], []⟩ m { tmps := args'.toArray ++ Array.replicate (fn.ntmps - args'.toArray.size) undef, defers := [] } w := by
        refine ⟨Ext.refl hR, ?_, rfl⟩
        have : (args'.toArray ++ Array.replicate (fn.ntmps - args'.toArray.size) undef).toList = args' ++ List.replicate (fn.ntmps - args.length) undef := by simp [hargs.1]
        rw [this]
        refine hargs.append ⟨rfl, fun i a b ha hb => ?_⟩
        rw [ha] at hb; injection hb with hb; subst hb
        have := List.mem_of_getElem? ha
        rw [(List.mem_replicate.1 this).2]
        exact VR.undef m
      have key : ∀ (s : St), (∃ vs, resultsA P s fn.results.toList = some vs ∧ finish H s (packV vs) = some (v, H', md)) → ∀ m1 a1 w1, Sim m H w s m1 a1 w1 →
          a1.defers = [] ∧ ∃ v', (results fn a1.tmps).run P w1 = .ok v' w1 ∧ (∃ v'' m', Ending.returned v' = .returned v'' ∧ VR m' v v'' ∧ Ext m H [] w m' H' [] w1 md [] ∧ m'.lb = noLb) := by
        intro s ⟨vs, h1, h2⟩ m1 a1 w1 hs
        refine ⟨hs.df, ?_⟩
        obtain ⟨vs', hr, hv⟩ := results_sound (P := P) hs.ext.rel hs.fr _ _ h1
        obtain ⟨m', e1, e2, e3⟩ := finish_sound hlb hR hs.ext (pack_vr hv) h2
        refine ⟨_, ?_, ⟨_, m', rfl, e1, e2, e3⟩⟩
        rw [results_eq, Array.mapM_eq_mapM_toList]
        simp only [Sem.run_bind, Sem.run_map, hr, Result.andThen_ok, Sem.run_pure]
      split at h
      · rename_i s hs
        split at h
        · rename_i vs hvs
          refine calls_of_wp hf hc (exec_sound hm hN hX hO hP c _ .normal s m _ w _ hs hsim fun m1 a1 w1 hs1 => ?_)
          exact key s ⟨vs, hvs, h⟩ m1 a1 w1 hs1
        · cases h
      · rename_i s hs
        split at h
        · rename_i vs hvs
          refine calls_of_wp hf hc (exec_sound hm hN hX hO hP c _ .ret s m _ w _ hs hsim fun m1 a1 w1 hs1 => ?_)
          exact key s ⟨vs, hvs, h⟩ m1 a1 w1 hs1
        · cases h
      · cases h

theorem seq_pure {X : Xt} {O : Orc} (hP : PureO O) {esc : Nat → Bool} {ops : List Oper} : ∀ (l : List Oper) (s s' : St), seqOps P X O esc ops l s = some s' → (∃ wl, Pur s.H s.loc s'.H s'.loc s'.wg wl) ∧ ∀ i, i ∈ s.wg → i ∈ s'.wg
  | [], s, s', h => by
    simp only [seqOps, Option.some.injEq] at h
    subst h
    exact ⟨⟨[], (Pur.refl _ _).wide (by simp) (by simp)⟩, fun _ h => h⟩
  | o :: rest, s, s', h => by
    simp only [seqOps] at h
    split at h
    · rename_i s1 h1
      have h1' : ∃ wg wl, Pur s.H s.loc s1.H s1.loc wg wl ∧ s1.wg = s.wg ++ wg := by
        unfold stepO at h1
        simp only [fVal_eq, fPut_eq, fSpine_eq] at h1
        rcases cond_or h1 with h1 | h1
        · split at h1
          · rename_i out hout
            injection h1 with h1; subst h1
            exact ⟨_, _, evOp_pure hP hout, rfl⟩
          · cases h1
        · injection h1 with h1; subst h1
          exact ⟨[], [], Pur.refl _ _, by simp⟩
      obtain ⟨wg, wl, p1, e1⟩ := h1'
      obtain ⟨⟨wl2, p2⟩, e2⟩ := seq_pure hP rest s1 s' h
      refine ⟨⟨_, (p1.trans p2).wide (fun i hi => ?_) (fun _ h => h)⟩, fun i hi => e2 i (by rw [e1]; simp [hi])⟩
      rw [List.mem_append] at hi
      rcases hi with hi | hi
      · exact e2 i (by rw [e1]; simp [hi])
      · exact hi
    · cases h

theorem trace_pure {X : Xt} {O : Orc} (hP : PureO O) {esc : Nat → Bool} {ops : List Oper} : ∀ (l : List Oper) (s s' : St) (fps : List Fp), traceOps P X O esc ops l s = some (s', fps) → (∃ wl, Pur s.H s.loc s'.H s'.loc s'.wg wl) ∧ ∀ i, i ∈ s.wg → i ∈ s'.wg
  | [], s, s', fps, h => by
    simp only [traceOps, Option.some.injEq, Prod.mk.injEq] at h
    obtain ⟨rfl, _⟩ := h
    exact ⟨⟨[], (Pur.refl _ _).wide (by simp) (by simp)⟩, fun _ h => h⟩
  | o :: rest, s, s', fps, h => by
    unfold traceOps at h
    split at h
    · rename_i s1 f h1
      split at h
      · rename_i s2 fps' h2
        simp only [Option.some.injEq, Prod.mk.injEq] at h
        obtain ⟨rfl, rfl⟩ := h
        have sp := step_pure hP h1
        obtain ⟨⟨wl2, p2⟩, e2⟩ := trace_pure hP rest s1 _ _ h2
        refine ⟨⟨_, (sp.pur.trans p2).wide (fun i hi => ?_) (fun _ h => h)⟩, fun i hi => e2 i (by rw [sp.wg]; simp [hi])⟩
        rw [List.mem_append] at hi
        rcases hi with hi | hi
        · exact e2 i (by rw [sp.wg]; simp [hi])
        · exact hi
      · cases h
    · cases h

/-- What code keeps. -/
def Kept (s s' : St) : Prop := (∃ wl, Pur s.H s.loc s'.H s'.loc s'.wg wl) ∧ ∀ i, i ∈ s.wg → i ∈ s'.wg
theorem Kept.refl (s : St) : Kept s s := ⟨⟨[], (Pur.refl _ _).wide (by simp) (by simp)⟩, fun _ h => h⟩
theorem Kept.trans {s s1 s2 : St} (h : Kept s s1) (k : Kept s1 s2) : Kept s s2 := by
  obtain ⟨⟨wl, p⟩, e⟩ := h
  obtain ⟨⟨wl2, p2⟩, e2⟩ := k
  refine ⟨⟨_, (p.trans p2).wide (fun i hi => ?_) (fun _ h => h)⟩, fun i hi => e2 i (e i hi)⟩
  rw [List.mem_append] at hi
  rcases hi with hi | hi
  · exact e2 i hi
  · exact hi

theorem exec_pure {X : Xt} {O : Orc} (hP : PureO O) {esc : Nat → Bool} {fuel : Nat} : ∀ (c : Code) (s : St) (x : Ex) (s' : St), exec P X O esc fuel c s = some (x, s') → Kept s s' := by
  intro c
  induction c with
  | skip => intro s x s' h; simp only [exec, Option.some.injEq, Prod.mk.injEq] at h; obtain ⟨_, rfl⟩ := h; exact Kept.refl _
  | region id ops draw =>
    intro s x s' h
    unfold exec at h
    rcases cond_or h with h | h
    · split at h
      · rename_i s1 h1
        simp only [Option.some.injEq, Prod.mk.injEq] at h
        obtain ⟨_, rfl⟩ := h
        rcases cond_or h1 with h1 | h1
        · unfold drawOps at h1
          rcases cond_or h1 with h1 | h1
          · split at h1
            · rename_i s2 fps h2
              rcases cond_or h1 with h1 | h1
              · injection h1 with h1; subst h1; exact trace_pure hP _ _ _ _ h2
              · cases h1
            · cases h1
          · cases h1
        · exact seq_pure hP _ _ _ h1
      · cases h
    · cases h
  | seq c d ihc ihd =>
    intro s x s' h
    unfold exec at h
    split at h
    · rename_i s1 h1
      exact (ihc _ _ _ h1).trans (ihd _ _ _ h)
    · exact ihc _ _ _ h
  | cond c t e iht ihe =>
    intro s x s' h
    unfold exec at h
    split at h
    · rcases cond_or h with h | h
      · exact iht _ _ _ h
      · exact ihe _ _ _ h
    · cases h
  | block id c ih =>
    intro s x s' h
    unfold exec at h
    split at h
    · rename_i i s1 h1
      rcases cond_or h with h | h <;> simp only [Option.some.injEq, Prod.mk.injEq] at h <;> obtain ⟨_, rfl⟩ := h <;> exact ih _ _ _ h1
    · exact ih _ _ _ h
  | loop c ih =>
    intro s x s' h
    unfold exec at h
    have : ∀ (n : Nat) (s : St), loopN (exec P X O esc fuel c) n s = some (x, s') → Kept s s' := by
      intro n
      induction n with
      | zero => intro s h; cases h
      | succ n ihn =>
        intro s h
        unfold loopN at h
        split at h
        · rename_i s1 h1
          exact (ih _ _ _ h1).trans (ihn _ h)
        · exact ih _ _ _ h
    exact this fuel s h
  | exit id => intro s x s' h; simp only [exec, Option.some.injEq, Prod.mk.injEq] at h; obtain ⟨_, rfl⟩ := h; exact Kept.refl _
  | ret => intro s x s' h; simp only [exec, Option.some.injEq, Prod.mk.injEq] at h; obtain ⟨_, rfl⟩ := h; exact Kept.refl _
  | rangeFunc f ps as b iha ihb => intro s x s' h; simp [exec] at h
  | scope c ih => intro s x s' h; simp [exec] at h
  | label l => intro s x s' h; simp [exec] at h
  | goto l => intro s x s' h; simp [exec] at h
  | refuse y => intro s x s' h; simp [exec] at h

theorem body_pure {X : Xt} {esc : FuncId → Nat → Bool} {fuel : Nat} {O : Orc} (hP : PureO O) : PureO (runBody P X esc fuel O) := by
  intro f args H v H' md h
  have key : ∀ (s : St) (v0 : Value), (∃ wl, Pur H [] s.H s.loc s.wg wl) → finish H s v0 = some (v, H', md) → Pur H [] H' [] md [] := by
    intro s v0 ⟨wl, hk⟩ hf
    unfold finish at hf
    rcases cond_or hf with hf | hf
    · rcases cond_or hf with hf | hf
      · simp only [Option.some.injEq, Prod.mk.injEq] at hf
        obtain ⟨_, rfl, rfl⟩ := hf
        exact Pur.refl _ _
      · simp only [Option.some.injEq, Prod.mk.injEq] at hf
        obtain ⟨_, rfl, rfl⟩ := hf
        exact ⟨hk.len, Nat.le_refl _, hk.mod, fun _ _ _ => rfl, hk.kp⟩
    · cases hf
  unfold runBody at h
  split at h
  · cases h
  · split at h
    · cases h
    · split at h
      · rename_i s hs
        split at h
        · exact key s _ (exec_pure hP _ _ _ _ hs).1 h
        · cases h
      · rename_i s hs
        split at h
        · exact key s _ (exec_pure hP _ _ _ _ hs).1 h
        · cases h
      · cases h

/-- The machine's answers hold. -/
theorem callN_good (hm : P.follows .mixedOrders = true) (hN : Named P) {X : Xt} (hX : GoodX P X) {esc : FuncId → Nat → Bool} {fuel : Nat} : ∀ n, GoodO P (callN P X esc fuel n) ∧ PureO (callN P X esc fuel n)
  | 0 => ⟨(fun f args H v H' md h => by cases h), (fun f args H v H' md h => by cases h)⟩
  | n + 1 => ⟨body_sound hm hN hX (callN_good hm hN hX n).1 (callN_good hm hN hX n).2, body_pure (callN_good hm hN hX n).2⟩

/-- A closed call. -/
theorem callN_calls (hm : P.follows .mixedOrders = true) (hN : Named P) {X : Xt} (hX : GoodX P X) {esc : FuncId → Nat → Bool} {fuel n : Nat} {f : FuncId} {v : Value} {H' : Hp} {md : List Nat} (h : callN P X esc fuel n f [] [] = some (v, H', md)) (hv : plainV v = true) (w : World) :
    Calls P f #[] w fun e w' => e = .returned v ∧ w'.os = w.os ∧ w'.tape = w.tape ∧ w'.output = w.output ∧ w.heap.size ≤ w'.heap.size ∧ ∀ g, g < w.heap.size → w'.heap[g]? = w.heap[g]? := by
  have := (callN_good hm hN hX n).1 f [] [] v H' md h ⟨noLb, noLb, fun _ => false, fun _ => 0, fun _ => 0⟩ w [] rfl ⟨(fun i g e => by cases e), (fun i g e => by cases e), (fun i j g bi bj e => by cases e), (fun i j g e => by cases e), (fun i j g e => by cases e)⟩ (VRs.nil _)
  refine this.mono fun e w' ⟨v', m', e1, e2, e3, e4⟩ => ?_
  refine ⟨by rw [e1, plain_eq 4 _ _ hv e2], e3.os, e3.tape, e3.output, e3.size, fun g hg => e3.frame g hg (fun i e => by cases e) (fun i e => by cases e)⟩

end
end Go.Am
