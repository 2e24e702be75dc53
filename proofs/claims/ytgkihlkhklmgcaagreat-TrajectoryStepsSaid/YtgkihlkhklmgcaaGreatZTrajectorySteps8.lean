/-
  Texts put together: AmR FmA FmB.
-/
import Derived.Test.YtgkihlkhklmgcaaGreatZTrajectorySteps7
import Derived.Defers
import Derived.IntWalk
set_option linter.unusedVariables false
section
/-
  Code, bodies, calls: the machine is sound.
-/
namespace Go.Am

def exOf : Ex → Exit
  | .normal => .normal
  | .exit id => .exit id
  | .ret => .ret

section
variable {P : Program} {m0 : Mp} {H0 : Hp} {w0 : World}

theorem exec_sound (hm : P.follows .mixedOrders = true) (hN : Named P) {X : Xt} (hX : GoodX P X) {O : Orc} (hO : GoodO P O) (hP : PureO O) {esc : Nat → Bool} {fuel : Nat} :
    ∀ (c : Code) (s : St) (x : Ex) (s' : St) (m : Mp) (a : Act) (w : World) (Q : Exit → Act → World → Prop), exec P X O esc fuel c s = some (x, s') → Sim m0 H0 w0 s m a w →
      (∀ m' a' w', Sim m0 H0 w0 s' m' a' w' → Q (exOf x) a' w') → c.wp P Q a w := by
  intro c
  induction c with
  | skip =>
    intro s x s' m a w Q h hs hQ
    simp only [exec, Option.some.injEq, Prod.mk.injEq] at h
    obtain ⟨rfl, rfl⟩ := h
    exact wp_skip (hQ m a w hs)
  | region id ops draw =>
    intro s x s' m a w Q h hs hQ
    unfold exec at h
    rcases cond_cases h with ⟨hc, h⟩ | ⟨_, h⟩
    · split at h
      · rename_i s1 h1
        simp only [Option.some.injEq, Prod.mk.injEq] at h
        obtain ⟨rfl, rfl⟩ := h
        cases draw with
        | true =>
          simp only [cond_true] at h1
          have := draw_sound (id := id) hm hN hX hO hP hc h1 hs hQ
          simpa using this
        | false =>
          simp only [cond_false] at h1
          exact wp_region_list (by simpa using seq_sound hN hX hO ops.toList s s1 m a w hc h1 hs hQ)
      · cases h
    · cases h
  | seq c d ihc ihd =>
    intro s x s' m a w Q h hs hQ
    unfold exec at h
    refine wp_seq ?_
    split at h
    · rename_i s1 h1
      exact ihc s .normal s1 m a w _ h1 hs fun m1 a1 w1 hs1 => ihd s1 x s' m1 a1 w1 Q h hs1 hQ
    · rename_i r hne
      refine ihc s x s' m a w _ h hs fun m1 a1 w1 hs1 => ?_
      cases x with
      | normal => exact absurd h (hne s')
      | exit i => exact hQ m1 a1 w1 hs1
      | ret => exact hQ m1 a1 w1 hs1
  | cond c t e iht ihe =>
    intro s x s' m a w Q h hs hQ
    unfold exec at h
    split at h
    · rename_i b hb
      have hev : a.eval c = .bool b := by
        cases c with
        | tmp t =>
          have := eval_vr hs.fr (x := .tmp t) rfl
          rw [hb] at this
          exact vr_bool this
        | const v => simp only [evalO] at hb; subst hb; rfl
        | global g => simp [evalO] at hb
        | func f => simp [evalO] at hb
      cases b with
      | true => exact wp_cond_true hev (iht s x s' m a w Q h hs hQ)
      | false => exact wp_cond_false hev (ihe s x s' m a w Q h hs hQ)
    · cases h
  | block id c ih =>
    intro s x s' m a w Q h hs hQ
    unfold exec at h
    refine wp_block ?_
    split at h
    · rename_i i s1 h1
      rcases cond_cases h with ⟨hi, h⟩ | ⟨hi, h⟩
      · simp only [Option.some.injEq, Prod.mk.injEq] at h
        obtain ⟨rfl, rfl⟩ := h
        refine ih s (.exit i) s1 m a w _ h1 hs fun m1 a1 w1 hs1 => ?_
        have : i = id := by simpa using hi
        simp only [exOf, Exit.inBlock, this, if_true]
        exact hQ m1 a1 w1 hs1
      · simp only [Option.some.injEq, Prod.mk.injEq] at h
        obtain ⟨rfl, rfl⟩ := h
        refine ih s (.exit i) s1 m a w _ h1 hs fun m1 a1 w1 hs1 => ?_
        have : ¬ i = id := by simpa using hi
        simp only [exOf, Exit.inBlock, this, if_false]
        exact hQ m1 a1 w1 hs1
    · rename_i r hne
      refine ih s x s' m a w _ h hs fun m1 a1 w1 hs1 => ?_
      cases x with
      | normal => exact hQ m1 a1 w1 hs1
      | exit i => exact absurd h (hne i s')
      | ret => exact hQ m1 a1 w1 hs1
  | loop c ih =>
    intro s x s' m a w Q h hs hQ
    unfold exec at h
    refine wp_loop_rounds fuel ?_
    have : ∀ (n : Nat) (s : St) (m : Mp) (a : Act) (w : World), loopN (exec P X O esc fuel c) n s = some (x, s') → Sim m0 H0 w0 s m a w → Code.rounds P c Q n a w := by
      intro n
      induction n with
      | zero => intro s m a w h _; cases h
      | succ n ihn =>
        intro s m a w h hs
        unfold loopN at h
        rw [rounds_succ]
        split at h
        · rename_i s1 h1
          exact ih s .normal s1 m a w _ h1 hs fun m1 a1 w1 hs1 => ihn s1 m1 a1 w1 h hs1
        · rename_i r hne
          refine ih s x s' m a w _ h hs fun m1 a1 w1 hs1 => ?_
          cases x with
          | normal => exact absurd h (hne s')
          | exit i => exact hQ m1 a1 w1 hs1
          | ret => exact hQ m1 a1 w1 hs1
    exact this fuel s m a w h hs
  | exit id =>
    intro s x s' m a w Q h hs hQ
    simp only [exec, Option.some.injEq, Prod.mk.injEq] at h
    obtain ⟨rfl, rfl⟩ := h
    exact wp_exit (hQ m a w hs)
  | ret =>
    intro s x s' m a w Q h hs hQ
    simp only [exec, Option.some.injEq, Prod.mk.injEq] at h
    obtain ⟨rfl, rfl⟩ := h
    exact wp_ret (hQ m a w hs)
  | rangeFunc f ps as b iha ihb => intro s x s' m a w Q h; simp [exec] at h
  | scope c ih => intro s x s' m a w Q h; simp [exec] at h
  | label l => intro s x s' m a w Q h; simp [exec] at h
  | goto l => intro s x s' m a w Q h; simp [exec] at h
  | refuse y => intro s x s' m a w Q h; simp [exec] at h

def resF (tmps : Array Value) (r : ResultVar) : Sem Value :=
  match r with
  | .tmp t => pure (tmps.getD t undef)
  | .cell x t => do loadVar t (← asAddr (tmps.getD x undef))

theorem results_eq (fn : Func) (tmps : Array Value) : results fn tmps = (do let vs ← fn.results.mapM (resF tmps); pure (if h : vs.size = 1 then vs[0] else .tuple vs)) := by
  unfold results
  congr 2

theorem results_sound {m : Mp} {s : St} {a : Act} {w : World} (hR : Rel m s.H s.loc w) (hf : VRs m s.fr a.tmps.toList) : ∀ (l : List ResultVar) (vs : List Value), resultsA P s l = some vs →
    ∃ vs', (l.mapM (resF a.tmps)).run P w = .ok vs' w ∧ VRs m vs vs'
  | [], vs, h => by
    simp only [resultsA, Option.some.injEq] at h
    subst h
    exact ⟨[], by simp, VRs.nil m⟩
  | .tmp t :: rest, vs, h => by
    unfold resultsA at h
    split at h
    · rename_i vs1 h1
      injection h with h; subst h
      obtain ⟨vs', hr, hv⟩ := results_sound hR hf rest vs1 h1
      refine ⟨a.tmps.getD t undef :: vs', by simp only [List.mapM_cons, resF, Sem.run_bind, Sem.run_pure, Result.andThen_ok, hr], .cons (eval_vr hf (x := .tmp t) rfl) hv⟩
    · cases h
  | .cell x t :: rest, vs, h => by
    unfold resultsA at h
    split at h
    · rename_i v1 vs1 hl h1
      injection h with h; subst h
      obtain ⟨vs', hr, hv⟩ := results_sound hR hf rest vs1 h1
      obtain ⟨v', hl', hvr⟩ := load_sound (P := P) hR (eval_vr hf (x := .tmp x) rfl) hl
      refine ⟨v' :: vs', ?_, .cons hvr hv⟩
      have hx := eval_vr hf (x := .tmp x) rfl
      simp only [evalO, Act.eval] at hx hl'
      unfold evLoad at hl
      split at hl
      · rename_i ad had
        rw [had] at hx
        obtain ⟨ad', hx', har⟩ := vr_ptr hx
        rw [hx'] at hl'
        have e1 : (loadVar t ad').run P w = .ok v' w := by simpa [Instr.loadAt, Instr.sureAddr] using hl'
        simp only [List.mapM_cons, resF, hx', asAddr, Sem.run_bind, Sem.run_pure, Result.andThen_ok, e1, hr]
      · cases hl
    · cases h

theorem trunc_ext {m m1 : Mp} {H H1 loc1 : Hp} {w w' : World} (hR : Rel m H [] w) (h : Ext m H [] w m1 H1 loc1 w' [] []) : Ext m H [] w m H [] w' [] [] where
  le := Le.refl m
  rel := by
    refine ⟨fun i g e => ?_, fun i g e => ?_, hR.ginj, hR.linj, hR.disj⟩
    · obtain ⟨h1, b, h2, h3⟩ := hR.glob i g e
      exact ⟨Nat.lt_of_lt_of_le h1 h.size, b, h2, h3.mono (Le.refl m) e (fun hl => h.cmod i g b e h2 hl (by simp))⟩
    · obtain ⟨_, b, h2, _⟩ := hR.locs i g e
      simp at h2
  img := fun i g e => .inl ⟨i, e⟩
  imgl := fun i g e => .inl e
  dom := fun i g e => .inl e
  doml := fun i g e => .inl e
  os := h.os
  tape := h.tape
  output := h.output
  size := h.size
  frame := h.frame
  un := fun _ _ _ => rfl
  unl := fun _ _ _ => rfl
  mod := fun _ _ _ => rfl
  modl := fun _ _ _ => rfl
  len := Nat.le_refl _
  lenl := Nat.le_refl _
  kp := fun i b e => ⟨b, e, rfl, rfl⟩
  cmod := fun i g b e hb hl _ => h.cmod i g b e hb hl (by simp)

theorem noL_ext {m m1 : Mp} {H H1 loc1 : Hp} {w w' : World} {wg : List Nat} (hlb : m.lb = noLb) (h : Ext m H [] w m1 H1 loc1 w' wg []) : Ext m H [] w m1.noL H1 [] w' wg [] :=
  { h with
    le := ⟨h.le.gb, fun i g e => (by rw [hlb] at e; cases e), h.le.loose, h.le.esz, h.le.tot⟩
    rel := rel_noL h.rel
    imgl := fun i g e => (by cases e)
    doml := fun i g e => (by cases e)
    unl := fun _ _ _ => rfl
    modl := fun _ _ _ => rfl
    lenl := Nat.le_refl _ }

theorem finish_sound {m m1 : Mp} {H : Hp} {w w' : World} (hlb : m.lb = noLb) (hR : Rel m H [] w) {s : St} (hx : Ext m H [] w m1 s.H s.loc w' s.wg []) {v v' v0 : Value} {H' : Hp} {md : List Nat} (hv : VR m1 v v') (h : finish H s v = some (v0, H', md)) :
    ∃ m', VR m' v0 v' ∧ Ext m H [] w m' H' [] w' md [] ∧ m'.lb = noLb := by
  unfold finish at h
  rcases cond_cases h with ⟨hn, h⟩ | ⟨_, h⟩
  · rcases cond_cases h with ⟨hp, h⟩ | ⟨_, h⟩
    · simp only [Option.some.injEq, Prod.mk.injEq] at h
      obtain ⟨rfl, rfl, rfl⟩ := h
      simp only [Bool.and_eq_true, List.isEmpty_iff] at hp
      rw [hp.1] at hx
      refine ⟨m, ?_, trunc_ext hR hx, hlb⟩
      have := plain_eq 4 _ _ hp.2 hv
      rw [← this]
      exact plain_vr m 4 _ hp.2
    · simp only [Option.some.injEq, Prod.mk.injEq] at h
      obtain ⟨rfl, rfl, rfl⟩ := h
      exact ⟨m1.noL, vr_noLoc hn hv, noL_ext hlb hx, rfl⟩
  · cases h

theorem pack_vr {m : Mp} {vs vs' : List Value} (h : VRs m vs vs') : VR m (packV vs) (if h : vs'.toArray.size = 1 then vs'.toArray[0] else .tuple vs'.toArray) := by
  match vs, vs', h with
  | [], [], h => simp [packV]; exact h.tuple
  | [v], [v'], h => simp [packV]; exact h.2 0 v v' rfl rfl
  | v :: u :: l, v' :: u' :: l', h => simp [packV]; exact h.tuple
  | [], _ :: _, h => have := h.1; simp at this
  | _ :: _, [], h => have := h.1; simp at this
  | [_], _ :: _ :: _, h => have := h.1; simp at this
  | _ :: _ :: _, [_], h => have := h.1; simp at this

/-- The deferred functions do nothing where no panic is under way. -/
def GoodD (P : Program) : Prop := ∀ g xs, dfOkB g xs = true → hasBody P g = true ∧ ∀ w, CallsD P g ⟨xs⟩ .returning w fun e u' w' => (∃ v, e = .returned v) ∧ u' = .returning ∧ w' = w

theorem leaves_ok (hN : Named P) (hD : GoodD P) {fn : Func} {tmps : Array Value} {R : Ending → World → Prop} {w : World} {v : Value} (h1 : (results fn tmps).run P w = .ok v w) (h2 : R (.returned v) w) : ∀ ds, DfOk ds → Leaves P fn tmps R ds .returning w
  | [], _ => ⟨v, h1, h2⟩
  | d :: ds, hd => by
    obtain ⟨g, x, hg, rfl⟩ := hd d (by simp)
    obtain ⟨hb, hc⟩ := hD g x hg
    have hb' := hb
    unfold hasBody at hb'
    split at hb'
    · rename_i fnn hfn
      refine leaves_cons (f := g) (args := ⟨x⟩) (by intro e; cases e) ?_ ?_
      · have := run_call (args := ⟨x⟩) hfn hb' (hN _ _ hfn) w
        simpa [invoke] using this
      · refine (hc w).mono ?_
        rintro e u' w' ⟨⟨v, rfl⟩, rfl, rfl⟩
        exact leaves_ok hN hD h1 h2 ds (fun d' h => hd d' (by simp [h]))
    · cases hb'

theorem body_sound (hm : P.follows .mixedOrders = true) (hN : Named P) {X : Xt} (hX : GoodX P X) (hD : GoodD P) {esc : FuncId → Nat → Bool} {fuel : Nat} {O : Orc} (hO : GoodO P O) (hP : PureO O) : GoodO P (runBody P X esc fuel O) := by
  intro f args H v H' md h m w args' hlb hR hargs
  unfold runBody at h
  split at h
  · cases h
  · rename_i fn hf
    split at h
    · cases h
    · rename_i c hc
      have hlen : args.length = args'.toArray.size := by simpa using hargs.1
      have hsim : Sim m H w ⟨args ++ List.replicate (fn.ntmps - args.length) undef, H, [], []⟩ m { tmps := args'.toArray ++ Array.replicate (fn.ntmps - args'.toArray.size) undef, defers := [] } w := by
        refine ⟨Ext.refl hR, ?_, DfOk.nil⟩
        have : (args'.toArray ++ Array.replicate (fn.ntmps - args'.toArray.size) undef).toList = args' ++ List.replicate (fn.ntmps - args.length) undef := by simp [hargs.1]
        rw [this]
        refine hargs.append ⟨rfl, fun i a b ha hb => ?_⟩
        rw [ha] at hb; injection hb with hb; subst hb
        have := List.mem_of_getElem? ha
        rw [(List.mem_replicate.1 this).2]
        exact VR.undef m
      have key : ∀ (s : St), (∃ vs, resultsA P s fn.results.toList = some vs ∧ finish H s (packV vs) = some (v, H', md)) → ∀ m1 a1 w1, Sim m H w s m1 a1 w1 →
          Leaves P fn a1.tmps (fun e w' => ∃ v' m', e = .returned v' ∧ VR m' v v' ∧ Ext m H [] w m' H' [] w' md [] ∧ m'.lb = noLb) a1.defers .returning w1 := by
        intro s ⟨vs, h1, h2⟩ m1 a1 w1 hs
        obtain ⟨vs', hr, hv⟩ := results_sound (P := P) hs.ext.rel hs.fr _ _ h1
        obtain ⟨m', e1, e2, e3⟩ := finish_sound hlb hR hs.ext (pack_vr hv) h2
        refine leaves_ok hN hD ?_ ⟨_, m', rfl, e1, e2, e3⟩ _ hs.df
        rw [results_eq, Array.mapM_eq_mapM_toList]
        simp only [Sem.run_bind, Sem.run_map, hr, Result.andThen_ok, Sem.run_pure]
      split at h
      · rename_i s hs
        split at h
        · rename_i vs hvs
          refine calls_of_wp_defers hf hc (exec_sound hm hN hX hO hP c _ .normal s m _ w _ hs hsim fun m1 a1 w1 hs1 => ?_)
          exact key s ⟨vs, hvs, h⟩ m1 a1 w1 hs1
        · cases h
      · rename_i s hs
        split at h
        · rename_i vs hvs
          refine calls_of_wp_defers hf hc (exec_sound hm hN hX hO hP c _ .ret s m _ w _ hs hsim fun m1 a1 w1 hs1 => ?_)
          exact key s ⟨vs, hvs, h⟩ m1 a1 w1 hs1
        · cases h
      · cases h

theorem seq_pure {X : Xt} {O : Orc} (hP : PureO O) {esc : Nat → Bool} {ops : List Oper} : ∀ (l : List Oper) (s s' : St), seqOps P X O esc ops l s = some s' → (∃ wl, Pur s.H s.loc s'.H s'.loc s'.wg wl) ∧ ∀ i, i ∈ s.wg → i ∈ s'.wg
  | [], s, s', h => by
    simp only [seqOps, Option.some.injEq] at h
    subst h
    exact ⟨⟨[], (Pur.refl _ _).wide (by simp) (by simp)⟩, fun _ h => h⟩
  | o :: rest, s, s', h => by
    simp only [seqOps] at h
    split at h
    · rename_i s1 h1
      have h1' : ∃ wg wl, Pur s.H s.loc s1.H s1.loc wg wl ∧ s1.wg = s.wg ++ wg := by
        unfold stepO at h1
        simp only [fVal_eq, fPut_eq, fSpine_eq] at h1
        rcases cond_or h1 with h1 | h1
        · split at h1
          · rename_i out hout
            injection h1 with h1; subst h1
            exact ⟨_, _, evOp_pure hP hout, rfl⟩
          · cases h1
        · injection h1 with h1; subst h1
          exact ⟨[], [], Pur.refl _ _, by simp⟩
      obtain ⟨wg, wl, p1, e1⟩ := h1'
      obtain ⟨⟨wl2, p2⟩, e2⟩ := seq_pure hP rest s1 s' h
      refine ⟨⟨_, (p1.trans p2).wide (fun i hi => ?_) (fun _ h => h)⟩, fun i hi => e2 i (by rw [e1]; simp [hi])⟩
      rw [List.mem_append] at hi
      rcases hi with hi | hi
      · exact e2 i (by rw [e1]; simp [hi])
      · exact hi
    · cases h

theorem trace_pure {X : Xt} {O : Orc} (hP : PureO O) {esc : Nat → Bool} {ops : List Oper} : ∀ (l : List Oper) (s s' : St) (fps : List Fp), traceOps P X O esc ops l s = some (s', fps) → (∃ wl, Pur s.H s.loc s'.H s'.loc s'.wg wl) ∧ ∀ i, i ∈ s.wg → i ∈ s'.wg
  | [], s, s', fps, h => by
    simp only [traceOps, Option.some.injEq, Prod.mk.injEq] at h
    obtain ⟨rfl, _⟩ := h
    exact ⟨⟨[], (Pur.refl _ _).wide (by simp) (by simp)⟩, fun _ h => h⟩
  | o :: rest, s, s', fps, h => by
    unfold traceOps at h
    split at h
    · rename_i s1 f h1
      split at h
      · rename_i s2 fps' h2
        simp only [Option.some.injEq, Prod.mk.injEq] at h
        obtain ⟨rfl, rfl⟩ := h
        have sp := step_pure hP h1
        obtain ⟨⟨wl2, p2⟩, e2⟩ := trace_pure hP rest s1 _ _ h2
        refine ⟨⟨_, (sp.pur.trans p2).wide (fun i hi => ?_) (fun _ h => h)⟩, fun i hi => e2 i (by rw [sp.wg]; simp [hi])⟩
        rw [List.mem_append] at hi
        rcases hi with hi | hi
        · exact e2 i (by rw [sp.wg]; simp [hi])
        · exact hi
      · cases h
    · cases h

/-- What code keeps. -/
def Kept (s s' : St) : Prop := (∃ wl, Pur s.H s.loc s'.H s'.loc s'.wg wl) ∧ ∀ i, i ∈ s.wg → i ∈ s'.wg
theorem Kept.refl (s : St) : Kept s s := ⟨⟨[], (Pur.refl _ _).wide (by simp) (by simp)⟩, fun _ h => h⟩
theorem Kept.trans {s s1 s2 : St} (h : Kept s s1) (k : Kept s1 s2) : Kept s s2 := by
  obtain ⟨⟨wl, p⟩, e⟩ := h
  obtain ⟨⟨wl2, p2⟩, e2⟩ := k
  refine ⟨⟨_, (p.trans p2).wide (fun i hi => ?_) (fun _ h => h)⟩, fun i hi => e2 i (e i hi)⟩
  rw [List.mem_append] at hi
  rcases hi with hi | hi
  · exact e2 i hi
  · exact hi

theorem exec_pure {X : Xt} {O : Orc} (hP : PureO O) {esc : Nat → Bool} {fuel : Nat} : ∀ (c : Code) (s : St) (x : Ex) (s' : St), exec P X O esc fuel c s = some (x, s') → Kept s s' := by
  intro c
  induction c with
  | skip => intro s x s' h; simp only [exec, Option.some.injEq, Prod.mk.injEq] at h; obtain ⟨_, rfl⟩ := h; exact Kept.refl _
  | region id ops draw =>
    intro s x s' h
    unfold exec at h
    rcases cond_or h with h | h
    · split at h
      · rename_i s1 h1
        simp only [Option.some.injEq, Prod.mk.injEq] at h
        obtain ⟨_, rfl⟩ := h
        rcases cond_or h1 with h1 | h1
        · unfold drawOps at h1
          rcases cond_or h1 with h1 | h1
          · split at h1
            · rename_i s2 fps h2
              rcases cond_or h1 with h1 | h1
              · injection h1 with h1; subst h1; exact trace_pure hP _ _ _ _ h2
              · cases h1
            · cases h1
          · cases h1
        · exact seq_pure hP _ _ _ h1
      · cases h
    · cases h
  | seq c d ihc ihd =>
    intro s x s' h
    unfold exec at h
    split at h
    · rename_i s1 h1
      exact (ihc _ _ _ h1).trans (ihd _ _ _ h)
    · exact ihc _ _ _ h
  | cond c t e iht ihe =>
    intro s x s' h
    unfold exec at h
    split at h
    · rcases cond_or h with h | h
      · exact iht _ _ _ h
      · exact ihe _ _ _ h
    · cases h
  | block id c ih =>
    intro s x s' h
    unfold exec at h
    split at h
    · rename_i i s1 h1
      rcases cond_or h with h | h <;> simp only [Option.some.injEq, Prod.mk.injEq] at h <;> obtain ⟨_, rfl⟩ := h <;> exact ih _ _ _ h1
    · exact ih _ _ _ h
  | loop c ih =>
    intro s x s' h
    unfold exec at h
    have : ∀ (n : Nat) (s : St), loopN (exec P X O esc fuel c) n s = some (x, s') → Kept s s' := by
      intro n
      induction n with
      | zero => intro s h; cases h
      | succ n ihn =>
        intro s h
        unfold loopN at h
        split at h
        · rename_i s1 h1
          exact (ih _ _ _ h1).trans (ihn _ h)
        · exact ih _ _ _ h
    exact this fuel s h
  | exit id => intro s x s' h; simp only [exec, Option.some.injEq, Prod.mk.injEq] at h; obtain ⟨_, rfl⟩ := h; exact Kept.refl _
  | ret => intro s x s' h; simp only [exec, Option.some.injEq, Prod.mk.injEq] at h; obtain ⟨_, rfl⟩ := h; exact Kept.refl _
  | rangeFunc f ps as b iha ihb => intro s x s' h; simp [exec] at h
  | scope c ih => intro s x s' h; simp [exec] at h
  | label l => intro s x s' h; simp [exec] at h
  | goto l => intro s x s' h; simp [exec] at h
  | refuse y => intro s x s' h; simp [exec] at h

theorem body_pure {X : Xt} {esc : FuncId → Nat → Bool} {fuel : Nat} {O : Orc} (hP : PureO O) : PureO (runBody P X esc fuel O) := by
  intro f args H v H' md h
  have key : ∀ (s : St) (v0 : Value), (∃ wl, Pur H [] s.H s.loc s.wg wl) → finish H s v0 = some (v, H', md) → Pur H [] H' [] md [] := by
    intro s v0 ⟨wl, hk⟩ hf
    unfold finish at hf
    rcases cond_or hf with hf | hf
    · rcases cond_or hf with hf | hf
      · simp only [Option.some.injEq, Prod.mk.injEq] at hf
        obtain ⟨_, rfl, rfl⟩ := hf
        exact Pur.refl _ _
      · simp only [Option.some.injEq, Prod.mk.injEq] at hf
        obtain ⟨_, rfl, rfl⟩ := hf
        exact ⟨hk.len, Nat.le_refl _, hk.mod, fun _ _ _ => rfl, hk.kp⟩
    · cases hf
  unfold runBody at h
  split at h
  · cases h
  · split at h
    · cases h
    · split at h
      · rename_i s hs
        split at h
        · exact key s _ (exec_pure hP _ _ _ _ hs).1 h
        · cases h
      · rename_i s hs
        split at h
        · exact key s _ (exec_pure hP _ _ _ _ hs).1 h
        · cases h
      · cases h

end
end Go.Am
end

section
/-
  The fast machine: whole numbers, frames as trees, small instructions.
-/
namespace Go.Am

def ltI : Int → Int → Bool
  | .ofNat a, .ofNat b => Nat.blt a b
  | .negSucc _, .ofNat _ => true
  | .ofNat _, .negSucc _ => false
  | .negSucc a, .negSucc b => Nat.blt b a
def eqI : Int → Int → Bool
  | .ofNat a, .ofNat b => Nat.beq a b
  | .negSucc a, .negSucc b => Nat.beq a b
  | _, _ => false
def wrapI (k : IntKind) (n : Int) : Int :=
  match k with
  | .i64 => match n with
    | .ofNat a => bif Nat.ble a 9223372036854775807 then .ofNat a else IntKind.wrap .i64 (.ofNat a)
    | .negSucc a => bif Nat.ble a 9223372036854775807 then .negSucc a else IntKind.wrap .i64 (.negSucc a)
  | .u64 => match n with
    | .ofNat a => bif Nat.ble a 18446744073709551615 then .ofNat a else .ofNat (a % 18446744073709551616)
    | .negSucc a => IntKind.wrap .u64 (.negSucc a)
  | k => k.wrap n
def kN : IntKind → Nat
  | .i8 => 0 | .i16 => 1 | .i32 => 2 | .i64 => 3 | .u8 => 4 | .u16 => 5 | .u32 => 6 | .u64 => 7

inductive Pa where
  | z | a (p : Pa) | b (p : Pa)
inductive Tr where
  | e | n (v : Value) (l r : Tr)

def paF : Nat → Nat → Pa
  | 0, _ => .z
  | f + 1, n => match n with
    | 0 => .z
    | n + 1 => bif Nat.beq (n % 2) 0 then .a (paF f (n / 2)) else .b (paF f (n / 2))
def paOf (n : Nat) : Pa := paF n n

section
variable {β : Type}
noncomputable def getK (p : Pa) : Tr → (Value → β) → β :=
  Pa.rec (motive := fun _ => Tr → (Value → β) → β) (fun t k => Tr.casesOn t (k undef) (fun v _ _ => k v))
    (fun _ ih t k => Tr.casesOn t (k undef) (fun _ l _ => ih l k)) (fun _ ih t k => Tr.casesOn t (k undef) (fun _ _ r => ih r k)) p
noncomputable def setK (p : Pa) (x : Value) : Tr → (Tr → β) → β :=
  Pa.rec (motive := fun _ => Tr → (Tr → β) → β)
    (fun t k => Tr.casesOn t (k (.n x .e .e)) (fun _ l r => k (.n x l r)))
    (fun _ ih t k => Tr.casesOn t (ih .e fun l => k (.n undef l .e)) (fun v l r => ih l fun l => k (.n v l r)))
    (fun _ ih t k => Tr.casesOn t (ih .e fun r => k (.n undef .e r)) (fun v l r => ih r fun r => k (.n v l r))) p
end

/-- An operand. -/
inductive RO where
  | t (p : Pa) | c (v : Value)

inductive RP where
  | mov (x : RO) | pick (c a b : RO) | ext (x : RO) (k : Nat) | faddr (x : RO) (off : Nat) | idxS (x i : RO) (sz : Nat) | idxA (x i : RO) (len sz : Nat)
  | fld1 (x : RO) (off : Nat) | fldA (x : RO) (off sz : Nat) | bin (op : BinOp) (x y : RO) | not (x : RO) | cvt (k : IntKind) (x : RO) | lenS (x : RO)
  | ld1 (x : RO) | ldA (x : RO) (sz : Nat) | max (x y : RO) | min (x y : RO) | nck (x : RO) | gen (o : Oper)

inductive RM where
  | st1 (x v : RO) | stA (x v : RO) (sz : Nat) | box (esc : Bool) (elem : TypeId) (x : RO) | alloc (esc : Bool) (elem : TypeId) (cs : List Value) | call (f : FuncId) (xs : List RO) | gmem (o : Oper)

inductive RG where
  | yes | no | when (p : Pa) (want : Bool)

inductive RS where
  | p (dst : Option Pa) (g : RG) (e : RP)
  | m (dst : Option Pa) (g : RG) (e : RM)

inductive RC where
  | skip | reg (l : List RS) | drw (l : List RS) (conf : List (Nat × Nat)) (lk : List (Nat × Nat × Oper)) | seq (a b : RC) | cond (c : RO) (a b : RC) | block (id : Nat) (c : RC) | loop (c : RC) | exit (id : Nat) | ret | bad

section
variable {β : Type}
noncomputable def opK (x : RO) (tr : Tr) (k : Value → β) : β := RO.casesOn x (fun p => getK p tr k) k

noncomputable def evT (tr : Tr) (x : Operand) : Value :=
  match x with
  | .tmp t => getK (paOf t) tr id
  | .const v => v
  | .global g => .pointer (some ⟨g, 0, some 1⟩)
  | .func f => .func (.func f) #[] #[]

noncomputable def nthK {α : Type} (l : List α) (n : Nat) (z : β) (k : α → β) : β :=
  List.rec (motive := fun _ => Nat → β) (fun _ => z) (fun x _ ih n => Nat.casesOn n (k x) ih) l n

def binK (op : BinOp) (x y : Value) (z : β) (k : Value → β) : β :=
  match x with
  | .int kx a => match y with
    | .int ky b => bif Nat.beq (kN kx) (kN ky) then
        match op with
        | .add => fInt (wrapI kx (Int.add a b)) fun n => k (.int kx n)
        | .sub => fInt (wrapI kx (Int.sub a b)) fun n => k (.int kx n)
        | .mul => fInt (wrapI kx (Int.mul a b)) fun n => k (.int kx n)
        | .lss => fBool (ltI a b) fun c => k (.bool c)
        | .leq => fBool (!ltI b a) fun c => k (.bool c)
        | .gtr => fBool (ltI b a) fun c => k (.bool c)
        | .geq => fBool (!ltI a b) fun c => k (.bool c)
        | .eql => fBool (eqI a b) fun c => k (.bool c)
        | .neq => fBool (!eqI a b) fun c => k (.bool c)
        | .quo => bif eqI b (.ofNat 0) then z else fInt (wrapI kx (Int.tdiv a b)) fun n => k (.int kx n)
        | .rem => bif eqI b (.ofNat 0) then z else fInt (Int.tmod a b) fun n => k (.int kx n)
        | _ => z
      else z
    | _ => z
  | _ => z

def idxK (a : Addr) (len : Nat) (i : Value) (sz : Nat) (z : β) (k : Value → β) : β :=
  match i with
  | .int _ (.ofNat n) => bif Nat.blt n len then fNat (a.off + n * sz) fun o => k (.pointer (some ⟨a.block, o, a.spot⟩)) else z
  | _ => z

noncomputable def cellK (H loc : Hp) (a : Addr) (z : β) (k : Value → β) : β :=
  match a with
  | ⟨b, o, s⟩ =>
    match s with
    | none => nthK H b z fun blk => match blk with
      | ⟨cs, _, _, _, live⟩ => bif live then nthK cs o z k else z
    | some 0 => nthK loc b z fun blk => match blk with
      | ⟨cs, _, _, _, live⟩ => bif live then nthK cs o z k else z
    | some (_ + 1) => z

/-- A list with one more at its end, and its length before. -/
noncomputable def snocK {α : Type} (l : List α) (x : α) (k : List α → Nat → β) : β :=
  List.rec (motive := fun _ => Nat → (List α → Nat → β) → β) (fun n k => fNat n fun n => k [x] n) (fun y _ ih n k => ih (n + 1) fun l n => k (y :: l) n) l 0 k

noncomputable def cellsK (x : Value) (k : List Value → β) : β := match x with
  | .agg ⟨l⟩ => k l
  | _ => k [x]

def nl1 (v : Value) : Bool := match v with
  | .int _ _ => true
  | .bool _ => true
  | .pointer none => true
  | .pointer (some ⟨_, _, s⟩) => s.isNone
  | .slice none _ _ => true
  | .slice (some ⟨_, _, s⟩) _ _ => s.isNone
  | v => noLocB 5 v
noncomputable def nls (l : List Value) : Bool := List.rec (motive := fun _ => Bool) true (fun v _ ih => bif nl1 v then ih else false) l
noncomputable def nlF (v : Value) : Bool := match v with
  | .agg ⟨l⟩ => nls l
  | .tuple ⟨l⟩ => nls l
  | v => nl1 v
noncomputable def nlFs (l : List Value) : Bool := List.rec (motive := fun _ => Bool) true (fun v _ ih => bif nlF v then ih else false) l
def pl1 (v : Value) : Bool := match v with
  | .int _ _ => true
  | .bool _ => true
  | .pointer (some _) => false
  | .slice (some _) _ _ => false
  | v => plainB 3 v
noncomputable def pls (l : List Value) : Bool := List.rec (motive := fun _ => Bool) true (fun v _ ih => bif pl1 v then ih else false) l
noncomputable def plF (v : Value) : Bool := match v with
  | .agg ⟨l⟩ => pls l
  | .tuple ⟨l⟩ => pls l
  | .int _ _ => true
  | .bool _ => true
  | v => plainV v

/-- A cell is written: the list with the value at its place. -/
noncomputable def setLK {α : Type} (l : List α) (n : Nat) (x : α) (z : β) (k : List α → β) : β :=
  List.rec (motive := fun _ => Nat → (List α → β) → β) (fun _ _ => z) (fun y l ih n k => Nat.casesOn n (k (x :: l)) fun n => ih n fun l => k (y :: l)) l n k

noncomputable def wr1 (H loc : Hp) (a : Addr) (v : Value) (z : β) (k : Hp → Hp → List Nat → List Nat → β) : β :=
  match a with
  | ⟨b, o, s⟩ =>
    match s with
    | none => nthK H b z fun blk => match blk with
      | ⟨cs, t, e, lo, live⟩ => bif live then bif v.oneCell' then bif nl1 v then setLK cs o v z fun cs => setLK H b ⟨cs, t, e, lo, true⟩ z fun H => k H loc [b] [] else z else z else z
    | some 0 => nthK loc b z fun blk => match blk with
      | ⟨cs, t, e, lo, live⟩ => bif live then bif v.oneCell' then setLK cs o v z fun cs => setLK loc b ⟨cs, t, e, lo, true⟩ z fun loc => k H loc [] [b] else z else z
    | some (_ + 1) => z

noncomputable def stepP (P : Program) (e : RP) (tr : Tr) (H loc : Hp) (z : β) (k : Value → β) : β :=
  match e with
  | .mov x => opK x tr k
  | .pick c a b => opK c tr fun c => match c with
    | .bool c => bif c then opK a tr k else opK b tr k
    | _ => z
  | .ext x n => opK x tr fun x => match x with
    | .tuple ⟨vs⟩ => nthK vs n z k
    | _ => z
  | .faddr x off => opK x tr fun x => match x with
    | .pointer (some ⟨b, o, s⟩) => fNat (o + off) fun o => k (.pointer (some ⟨b, o, s⟩))
    | _ => z
  | .idxS x i sz => opK x tr fun x => match x with
    | .slice (some a) len _ => opK i tr fun i => idxK a len i sz z k
    | _ => z
  | .idxA x i len sz => opK x tr fun x => match x with
    | .pointer (some a) => opK i tr fun i => idxK a len i sz z k
    | _ => z
  | .fld1 x off => opK x tr fun x => match x with
    | .agg ⟨vs⟩ => nthK vs off z k
    | _ => z
  | .fldA x off sz => opK x tr fun x => match x with
    | .agg ⟨vs⟩ => fSpine ((vs.drop off).take sz) fun l => k (.agg ⟨l⟩)
    | _ => z
  | .bin op x y => opK x tr fun x => opK y tr fun y => binK op x y z k
  | .not x => opK x tr fun x => match x with
    | .bool b => fBool (!b) fun b => k (.bool b)
    | _ => z
  | .cvt kd x => opK x tr fun x => match x with
    | .int _ n => fInt (wrapI kd n) fun n => k (.int kd n)
    | _ => z
  | .lenS x => opK x tr fun x => match x with
    | .slice _ n _ => k (.int .i64 (.ofNat n))
    | _ => z
  | .ld1 x => opK x tr fun x => match x with
    | .pointer (some a) => cellK H loc a z k
    | _ => z
  | .ldA x sz => opK x tr fun x => match x with
    | .pointer (some a) => match readCells H loc a sz with
      | some vs => k (.agg ⟨vs⟩)
      | none => z
    | _ => z
  | .max x y => opK x tr fun x => opK y tr fun y => match x with
    | .int kx a => match y with
      | .int _ b => bif ltI a b then k (.int kx b) else k (.int kx a)
      | _ => z
    | _ => z
  | .min x y => opK x tr fun x => opK y tr fun y => match x with
    | .int kx a => match y with
      | .int _ b => bif ltI b a then k (.int kx b) else k (.int kx a)
      | _ => z
    | _ => z
  | .nck x => opK x tr fun x => match x with
    | .pointer (some a) => k (.pointer (some a))
    | _ => z
  | .gen o => match evInert P H o (evT tr) with
    | some v => fVal 4 v k
    | none => z

noncomputable def opsK (xs : List RO) (tr : Tr) : (List Value → β) → β :=
  List.rec (motive := fun _ => (List Value → β) → β) (fun k => k []) (fun x _ ih k => opK x tr fun v => ih fun l => k (v :: l)) xs

noncomputable def stepM (P : Program) (X : Xt) (O : Orc) (esc : Nat → Bool) (e : RM) (tr : Tr) (H loc : Hp) (z : β) (k : Value → Hp → Hp → List Nat → List Nat → β) : β :=
  match e with
  | .st1 x v => opK x tr fun x => opK v tr fun v => match x with
    | .pointer (some a) => wr1 H loc a v z (k undef)
    | _ => z
  | .stA x v sz => opK x tr fun x => opK v tr fun v => match x with
    | .pointer (some a) => match v with
      | .agg ⟨cs⟩ => bif Nat.beq cs.length sz then
          match writeCells H loc a cs with
          | some (H', loc', wg, wl) => k undef H' loc' wg wl
          | none => z
        else z
      | _ => z
    | _ => z
  | .box es elem x => opK x tr fun x => cellsK x fun cs =>
    bif es then bif nls cs then snocK H ⟨cs, elem, 0, false, true⟩ fun H' n => k (.pointer (some ⟨n, 0, none⟩)) H' loc [] [] else z
    else snocK loc ⟨cs, elem, 0, false, true⟩ fun loc' n => k (.pointer (some ⟨n, 0, some 0⟩)) H loc' [] []
  | .alloc es elem cs => bif es then snocK H ⟨cs, elem, 0, false, true⟩ fun H' n => k (.pointer (some ⟨n, 0, none⟩)) H' loc [] []
    else snocK loc ⟨cs, elem, 0, false, true⟩ fun loc' n => k (.pointer (some ⟨n, 0, some 0⟩)) H loc' [] []
  | .call f xs => opsK xs tr fun args => bif nlFs args then
      match O f args H with
      | some (v, H', md) => k v H' loc md []
      | none => z
    else z
  | .gmem o => match evOp P X O esc o (evT tr) H loc with
    | some out => fVal 4 out.v fun v => k v out.H out.loc out.wg out.wl
    | none => z
end

def compO : Operand → RO
  | .tmp t => .t (paOf t)
  | .const v => .c v
  | .global g => .c (.pointer (some ⟨g, 0, some 1⟩))
  | .func f => .c (.func (.func f) #[] #[])

def compP (P : Program) (o : Oper) : RP :=
  match o.op with
  | .move x => .mov (compO x)
  | .assign x => .mov (compO x)
  | .pick c a b => .pick (compO c) (compO a) (compO b)
  | .extract x k => .ext (compO x) k
  | .fieldAddr s x f => match P.underlying s with
    | some (.struct fs) => match fs[f]? with
      | some fd => bif P.cellsOf fd.type == 0 then .gen o else fNat fd.offset fun off => .faddr (compO x) off
      | none => .gen o
    | _ => .gen o
  | .indexAddr t x i => match P.underlying t with
    | some (.array len elem) => match P.info? elem with
      | some ti => fNat ti.size fun sz => .idxA (compO x) (compO i) len sz
      | none => .gen o
    | some (.slice elem) => match P.info? elem with
      | some ti => fNat ti.size fun sz => .idxS (compO x) (compO i) sz
      | none => .gen o
    | _ => .gen o
  | .field t x f => match P.underlying t with
    | some (.struct fs) => match fs[f]? with
      | some fd => match isAggT P fd.type with
        | some true => match P.info? fd.type with
          | some i => fNat i.size fun sz => fNat fd.offset fun off => .fldA (compO x) off sz
          | none => .gen o
        | some false => fNat fd.offset fun off => .fld1 (compO x) off
        | none => .gen o
      | none => .gen o
    | _ => .gen o
  | .binOp op t x y _ => match P.underlying t with
    | some (.int _) => match op with
      | .add | .sub | .mul | .lss | .leq | .gtr | .geq | .eql | .neq | .quo | .rem => .bin op (compO x) (compO y)
      | _ => .gen o
    | _ => .gen o
  | .unOp .not _ x => .not (compO x)
  | .convert s t x => match P.underlying s, P.underlying t with
    | some (.int _), some (.int k) => .cvt k (compO x)
    | _, _ => .gen o
  | .call { callee := .builtin .len, args := ⟨[x]⟩, argTypes := ⟨[t]⟩ } => match P.underlying t with
    | some (.slice _) => .lenS (compO x)
    | _ => .gen o
  | .call { callee := .builtin .max, args := ⟨[x, y]⟩, .. } => .max (compO x) (compO y)
  | .call { callee := .builtin .min, args := ⟨[x, y]⟩, .. } => .min (compO x) (compO y)
  | .nilCheck x => .nck (compO x)
  | _ => .gen o

/-- A load. -/
def compL (P : Program) (o : Oper) : Option RP :=
  match o.op with
  | .load t x => match isAggT P t with
    | some true => match P.info? t with
      | some i => fNat i.size fun sz => some (.ldA (compO x) sz)
      | none => none
    | some false => some (.ld1 (compO x))
    | none => none
  | _ => none

def compM (P : Program) (esc : Nat → Bool) (o : Oper) : RM :=
  match o.op with
  | .store t x v => match isAggT P t with
    | some true => match P.info? t with
      | some i => fNat i.size fun sz => .stA (compO x) (compO v) sz
      | none => .gmem o
    | some false => match P.info? t with
      | some i => bif Nat.beq i.size 1 then .st1 (compO x) (compO v) else .gmem o
      | none => .gmem o
    | none => .gmem o
  | .box elem x => fBool (match o.dst with | some d => esc d | none => true) fun es => .box es elem (compO x)
  | .alloc elem => match P.info? elem with
    | some i => match i.zero with
      | some z => bif plainV z && z.cells.toList.all noLoc then fBool (match o.dst with | some d => esc d | none => true) fun es => fVals z.cells.toList fun cs => .alloc es elem cs else .gmem o
      | none => .gmem o
    | none => .gmem o
  | .call { callee := .value (.func f), args := ⟨as⟩, .. } => bif hasBody P f then .call f (as.map compO) else .gmem o
  | _ => .gmem o

def compG (ops : List Oper) (o : Oper) : RG :=
  match o.guard with
  | none => .yes
  | some (j, want) => match (ops[j]?).bind (·.dst) with
    | some t => .when (paOf t) want
    | none => .no

def compS (P : Program) (esc : Nat → Bool) (ops : List Oper) (o : Oper) : RS :=
  match kindOf o.op with
  | .inert => .p (o.dst.map paOf) (compG ops o) (compP P o)
  | .load => match compL P o with
    | some e => .p (o.dst.map paOf) (compG ops o) e
    | none => .m (o.dst.map paOf) (compG ops o) (.gmem o)
  | .alloc => .m (o.dst.map paOf) (compG ops o) (compM P esc o)
  | .eff => .m (o.dst.map paOf) (compG ops o) (compM P esc o)
  | .mkmap => .m (o.dst.map paOf) (compG ops o) (.gmem o)
  | .look => .m (o.dst.map paOf) (compG ops o) (.gmem o)

def dstsOk (nt : Nat) (ops : List Oper) : Bool := ops.all fun o => match o.dst with
  | some d => Nat.blt d nt
  | none => true

def compR (P : Program) (esc : Nat → Bool) (nt : Nat) (ops : List Oper) (draw : Bool) : RC :=
  bif constsOk ops && dstsOk nt ops then
    bif draw then
      bif staticOk ops then
        match confOf ops, lkOf ops with
        | [], [] => .reg (ops.map (compS P esc ops))
        | cs, ls => .drw (ops.map (compS P esc ops)) cs ls
      else .bad
    else .reg (ops.map (compS P esc ops))
  else .bad

def compC (P : Program) (esc : Nat → Bool) (nt : Nat) : Code → RC
  | .skip => .skip
  | .region _ ops draw => compR P esc nt ops.toList draw
  | .seq a b => .seq (compC P esc nt a) (compC P esc nt b)
  | .cond c a b => .cond (compO c) (compC P esc nt a) (compC P esc nt b)
  | .block id c => .block id (compC P esc nt c)
  | .loop c => .loop (compC P esc nt c)
  | .exit id => .exit id
  | .ret => .ret
  | _ => .bad

structure FSt where
  tr : Tr
  H : Hp
  loc : Hp
  wg : List Nat

noncomputable def putK {β : Type} (d : Option Pa) (v : Value) (tr : Tr) (k : Tr → β) : β := Option.casesOn d (k tr) (fun p => setK p v tr k)
noncomputable def wantK {β : Type} (g : RG) (tr : Tr) (yes no : β) : β :=
  match g with
  | .yes => yes
  | .no => no
  | .when p w => getK p tr fun v => match v with
    | .bool b => bif b then (bif w then yes else no) else (bif w then no else yes)
    | _ => no

noncomputable def fseq (P : Program) (X : Xt) (O : Orc) (esc : Nat → Bool) (l : List RS) : Tr → Hp → Hp → List Nat → Option (Ex × FSt) :=
  List.rec (motive := fun _ => Tr → Hp → Hp → List Nat → Option (Ex × FSt)) (fun tr H loc wg => some (.normal, ⟨tr, H, loc, wg⟩))
    (fun s _ ih tr H loc wg => match s with
      | .p d g e => wantK g tr (stepP P e tr H loc none fun v => putK d v tr fun tr => ih tr H loc wg) (putK d undef tr fun tr => ih tr H loc wg)
      | .m d g e => wantK g tr (stepM P X O esc e tr H loc none fun v H loc w _ => putK d v tr fun tr => fSpine (wg ++ w) fun wg => ih tr H loc wg) (putK d undef tr fun tr => ih tr H loc wg)) l

noncomputable def rdsP {β : Type} (e : RP) (tr : Tr) (k : List Nat → List Nat → β) : β :=
  match e with
  | .ld1 x => opK x tr fun v => match v with
    | .pointer (some ⟨b, _, none⟩) => k [b] []
    | .pointer (some ⟨b, _, some _⟩) => k [] [b]
    | _ => k [] []
  | .ldA x _ => opK x tr fun v => match v with
    | .pointer (some ⟨b, _, none⟩) => k [b] []
    | .pointer (some ⟨b, _, some _⟩) => k [] [b]
    | _ => k [] []
  | _ => k [] []
noncomputable def rdsM {β : Type} (e : RM) (tr : Tr) (k : List Nat → List Nat → β) : β :=
  match e with
  | .gmem o => match readsOf o (evT tr) with
    | (a, b) => k a b
  | _ => k [] []

noncomputable def ftr (P : Program) (X : Xt) (O : Orc) (esc : Nat → Bool) (l : List RS) : Tr → Hp → Hp → List Nat → List Fp → (FSt → List Fp → Option (Ex × FSt)) → Option (Ex × FSt) :=
  List.rec (motive := fun _ => Tr → Hp → Hp → List Nat → List Fp → (FSt → List Fp → Option (Ex × FSt)) → Option (Ex × FSt)) (fun tr H loc wg fps k => k ⟨tr, H, loc, wg⟩ fps)
    (fun s _ ih tr H loc wg fps k => match s with
      | .p d g e => wantK g tr (stepP P e tr H loc none fun v => rdsP e tr fun rg rl => putK d v tr fun tr => ih tr H loc wg (⟨rg, rl, [], [], boundB H.length loc.length 6 v⟩ :: fps) k) (putK d undef tr fun tr => ih tr H loc wg (⟨[], [], [], [], true⟩ :: fps) k)
      | .m d g e => wantK g tr (stepM P X O esc e tr H loc none fun v H' loc' w wl => rdsM e tr fun rg rl => putK d v tr fun tr => fSpine (wg ++ w) fun wg => ih tr H' loc' wg (⟨rg, rl, w, wl, boundB H.length loc.length 6 v⟩ :: fps) k) (putK d undef tr fun tr => ih tr H loc wg (⟨[], [], [], [], true⟩ :: fps) k)) l

noncomputable def flook (P : Program) (X : Xt) (O : Orc) (esc : Nat → Bool) (l : List RS) (tr : Tr) (H loc : Hp) (wg : List Nat) (q : Nat × Nat × Oper) : Bool :=
  match ftr P X O esc (l.take q.1) tr H loc wg [] fun s1 _ => ftr P X O esc (l.take (q.2.1 + 1)) tr H loc wg [] fun s2 _ =>
    bif sameL (evLook P s1.H q.2.2.op (evT s1.tr)) (evLook P s2.H q.2.2.op (evT s1.tr)) then some (.normal, s1) else none with
  | some _ => true
  | none => false

noncomputable def floop (f : FSt → Option (Ex × FSt)) (n : Nat) : FSt → Option (Ex × FSt) :=
  Nat.rec (motive := fun _ => FSt → Option (Ex × FSt)) (fun _ => none) (fun _ ih s => match f s with
    | some (.normal, s') => ih s'
    | r => r) n

noncomputable def fexec (P : Program) (X : Xt) (O : Orc) (esc : Nat → Bool) (fuel : Nat) (c : RC) : FSt → Option (Ex × FSt) :=
  RC.rec (motive := fun _ => FSt → Option (Ex × FSt))
    (fun s => some (.normal, s))
    (fun l s => match s with | ⟨tr, H, loc, wg⟩ => fseq P X O esc l tr H loc wg)
    (fun l conf lk s => match s with | ⟨tr, H, loc, wg⟩ => bif lk.all (flook P X O esc l tr H loc wg) then ftr P X O esc l tr H loc wg [] fun s fps => bif dynOk conf fps.reverse then some (.normal, s) else none else none)
    (fun _ _ f g s => match f s with
      | some (.normal, s') => g s'
      | r => r)
    (fun c _ _ f g s => opK c s.tr fun v => match v with
      | .bool b => bif b then f s else g s
      | _ => none)
    (fun id _ f s => match f s with
      | some (.exit i, s') => bif Nat.beq i id then some (.normal, s') else some (.exit i, s')
      | r => r)
    (fun _ f s => floop f fuel s)
    (fun id s => some (.exit id, s))
    (fun s => some (.ret, s))
    (fun _ => none) c

noncomputable def argTr (args : List Value) : Nat → Tr → (Tr → Option (Value × Hp × List Nat)) → Option (Value × Hp × List Nat) :=
  List.rec (motive := fun _ => Nat → Tr → (Tr → Option (Value × Hp × List Nat)) → Option (Value × Hp × List Nat)) (fun _ tr k => k tr) (fun v _ ih n tr k => setK (paOf n) v tr fun tr => ih (n + 1) tr k) args

noncomputable def fres (P : Program) (s : FSt) : List ResultVar → Option (List Value)
  | [] => some []
  | .tmp t :: rest => match fres P s rest with
    | some vs => getK (paOf t) s.tr fun v => some (v :: vs)
    | none => none
  | .cell a t :: rest => match evLoad P s.H s.loc t (getK (paOf a) s.tr id), fres P s rest with
    | some v, some vs => fVal 4 v fun v => some (v :: vs)
    | _, _ => none

noncomputable def ffin (H : Hp) (s : FSt) (v : Value) : Option (Value × Hp × List Nat) :=
  bif nlF v then (bif s.wg.isEmpty && plF v then some (v, H, []) else some (v, s.H, s.wg)) else none

def fbody (P : Program) (esc : FuncId → Nat → Bool) (f : FuncId) : Option RC :=
  match P.funcs[f]? with
  | some fn => match fn.body with
    | some c => some (compC P (esc f) fn.ntmps c)
    | none => none
  | none => none
def fresv (P : Program) (f : FuncId) : List ResultVar :=
  match P.funcs[f]? with
  | some fn => fn.results.toList
  | none => []

noncomputable def frun (P : Program) (X : Xt) (esc : FuncId → Nat → Bool) (fuel : Nat) (O : Orc) : Orc := fun f args H =>
  match fbody P esc f with
  | none => none
  | some c => argTr args 0 .e fun tr =>
    match fexec P X O (esc f) fuel c ⟨tr, H, [], []⟩ with
    | some (.normal, s) => match fres P s (fresv P f) with
      | some vs => ffin H s (packV vs)
      | none => none
    | some (.ret, s) => match fres P s (fresv P f) with
      | some vs => ffin H s (packV vs)
      | none => none
    | _ => none

noncomputable def fcall (P : Program) (X : Xt) (esc : FuncId → Nat → Bool) (fuel : Nat) (n : Nat) : Orc :=
  Nat.rec (motive := fun _ => Orc) (fun _ _ _ => none) (fun _ O => frun P X esc fuel O) n
end Go.Am
end

section
/-
  The fast machine: frames, lists, whole numbers.
-/
namespace Go.Am

def toN : Pa → Nat
  | .z => 0
  | .a p => 2 * toN p + 1
  | .b p => 2 * toN p + 2
theorem toN_paF : ∀ (f n : Nat), n ≤ f → toN (paF f n) = n
  | 0, n, h => by have : n = 0 := by omega
                  subst this; rfl
  | f + 1, 0, _ => rfl
  | f + 1, n + 1, h => by
    unfold paF
    simp only
    cases hb : Nat.beq (n % 2) 0 with
    | true =>
      have hb' : n % 2 = 0 := Nat.eq_of_beq_eq_true hb
      simp only [cond_true, toN, toN_paF f (n / 2) (by omega)]
      omega
    | false =>
      have hb' : ¬ n % 2 = 0 := fun e => by rw [e] at hb; cases hb
      simp only [cond_false, toN, toN_paF f (n / 2) (by omega)]
      omega
theorem toN_paOf (n : Nat) : toN (paOf n) = n := toN_paF n n (Nat.le_refl _)
theorem toN_inj : ∀ (p q : Pa), toN p = toN q → p = q
  | .z, .z, _ => rfl
  | .z, .a q, h => by simp [toN] at h
  | .z, .b q, h => by simp [toN] at h
  | .a p, .z, h => by simp [toN] at h
  | .a p, .a q, h => by simp only [toN] at h; rw [toN_inj p q (by omega)]
  | .a p, .b q, h => by simp only [toN] at h; omega
  | .b p, .z, h => by simp [toN] at h
  | .b p, .a q, h => by simp only [toN] at h; omega
  | .b p, .b q, h => by simp only [toN] at h; rw [toN_inj p q (by omega)]

noncomputable def getT (p : Pa) (tr : Tr) : Value := getK p tr id
noncomputable def setT (p : Pa) (x : Value) (tr : Tr) : Tr := setK p x tr id

theorem getK_eq {β : Type} : ∀ (p : Pa) (tr : Tr) (k : Value → β), getK p tr k = k (getT p tr)
  | .z, .e, _ => rfl
  | .z, .n _ _ _, _ => rfl
  | .a _, .e, _ => rfl
  | .a p, .n _ l _, k => getK_eq p l k
  | .b _, .e, _ => rfl
  | .b p, .n _ _ r, k => getK_eq p r k
theorem setK_eq (x : Value) : ∀ (p : Pa) {β : Type} (tr : Tr) (k : Tr → β), setK p x tr k = k (setT p x tr)
  | .z, _, .e, _ => rfl
  | .z, _, .n _ _ _, _ => rfl
  | .a p, _, .e, k => by
    have h1 := setK_eq x p .e (fun l => k (.n undef l .e))
    have h2 := setK_eq x p .e (fun l => (.n undef l .e : Tr))
    show setK p x .e (fun l => k (.n undef l .e)) = k (setK p x .e (fun l => (.n undef l .e : Tr)))
    rw [h1, h2]
  | .a p, _, .n v l r, k => by
    have h1 := setK_eq x p l (fun l => k (.n v l r))
    have h2 := setK_eq x p l (fun l => (.n v l r : Tr))
    show setK p x l (fun l => k (.n v l r)) = k (setK p x l (fun l => (.n v l r : Tr)))
    rw [h1, h2]
  | .b p, _, .e, k => by
    have h1 := setK_eq x p .e (fun r => k (.n undef .e r))
    have h2 := setK_eq x p .e (fun r => (.n undef .e r : Tr))
    show setK p x .e (fun r => k (.n undef .e r)) = k (setK p x .e (fun r => (.n undef .e r : Tr)))
    rw [h1, h2]
  | .b p, _, .n v l r, k => by
    have h1 := setK_eq x p r (fun r => k (.n v l r))
    have h2 := setK_eq x p r (fun r => (.n v l r : Tr))
    show setK p x r (fun r => k (.n v l r)) = k (setK p x r (fun r => (.n v l r : Tr)))
    rw [h1, h2]

theorem setT_ae (x : Value) (p : Pa) : setT (.a p) x .e = .n undef (setT p x .e) .e := setK_eq x p .e (fun l => (.n undef l .e : Tr))
theorem setT_an (x : Value) (p : Pa) (v : Value) (l r : Tr) : setT (.a p) x (.n v l r) = .n v (setT p x l) r := setK_eq x p l (fun l => (.n v l r : Tr))
theorem setT_be (x : Value) (p : Pa) : setT (.b p) x .e = .n undef .e (setT p x .e) := setK_eq x p .e (fun r => (.n undef .e r : Tr))
theorem setT_bn (x : Value) (p : Pa) (v : Value) (l r : Tr) : setT (.b p) x (.n v l r) = .n v l (setT p x r) := setK_eq x p r (fun r => (.n v l r : Tr))
theorem getT_e : ∀ (p : Pa), getT p .e = undef
  | .z => rfl
  | .a _ => rfl
  | .b _ => rfl
theorem getT_a (p : Pa) (v : Value) (l r : Tr) : getT (.a p) (.n v l r) = getT p l := rfl
theorem getT_b (p : Pa) (v : Value) (l r : Tr) : getT (.b p) (.n v l r) = getT p r := rfl

theorem get_set_self (x : Value) : ∀ (p : Pa) (tr : Tr), getT p (setT p x tr) = x
  | .z, .e => rfl
  | .z, .n _ _ _ => rfl
  | .a p, .e => by rw [setT_ae, getT_a]; exact get_set_self x p .e
  | .a p, .n v l r => by rw [setT_an, getT_a]; exact get_set_self x p l
  | .b p, .e => by rw [setT_be, getT_b]; exact get_set_self x p .e
  | .b p, .n v l r => by rw [setT_bn, getT_b]; exact get_set_self x p r
theorem get_set_ne (x : Value) : ∀ (p q : Pa) (tr : Tr), q ≠ p → getT q (setT p x tr) = getT q tr
  | .z, .z, _, h => absurd rfl h
  | .z, .a q, .e, _ => getT_e q
  | .z, .a q, .n _ _ _, _ => rfl
  | .z, .b q, .e, _ => getT_e q
  | .z, .b q, .n _ _ _, _ => rfl
  | .a p, .z, .e, _ => by rw [setT_ae]; rfl
  | .a p, .z, .n _ _ _, _ => by rw [setT_an]; rfl
  | .a p, .a q, .e, h => by rw [setT_ae, getT_a, get_set_ne x p q .e (fun e => h (by rw [e])), getT_e, getT_e]
  | .a p, .a q, .n v l r, h => by rw [setT_an, getT_a, get_set_ne x p q l (fun e => h (by rw [e])), getT_a]
  | .a p, .b q, .e, _ => by rw [setT_ae, getT_b, getT_e, getT_e]
  | .a p, .b q, .n _ _ _, _ => by rw [setT_an, getT_b, getT_b]
  | .b p, .z, .e, _ => by rw [setT_be]; rfl
  | .b p, .z, .n _ _ _, _ => by rw [setT_bn]; rfl
  | .b p, .b q, .e, h => by rw [setT_be, getT_b, get_set_ne x p q .e (fun e => h (by rw [e])), getT_e, getT_e]
  | .b p, .b q, .n v l r, h => by rw [setT_bn, getT_b, get_set_ne x p q r (fun e => h (by rw [e])), getT_b]
  | .b p, .a q, .e, _ => by rw [setT_be, getT_a, getT_e, getT_e]
  | .b p, .a q, .n _ _ _, _ => by rw [setT_bn, getT_a, getT_a]

/-- The two frames. -/
def FR (tr : Tr) (fr : List Value) : Prop := ∀ p, getT p tr = fr.getD (toN p) undef

section
variable {β : Type} {tr : Tr} {fr : List Value}
theorem FR.tmp (h : FR tr fr) (t : Nat) : getT (paOf t) tr = fr.getD t undef := by rw [h, toN_paOf]
theorem FR.ev (h : FR tr fr) : evT tr = evalO fr := by
  funext x
  cases x with
  | tmp t => exact h.tmp t
  | const v => rfl
  | global g => rfl
  | func f => rfl
theorem FR.op (h : FR tr fr) (x : Operand) (k : Value → β) : opK (compO x) tr k = k (evalO fr x) := by
  cases x with
  | tmp t => show getK (paOf t) tr k = _; rw [getK_eq, h.tmp]; rfl
  | const v => rfl
  | global g => rfl
  | func f => rfl
theorem FR.put (h : FR tr fr) (dst : Option Tmp) (v : Value) (hd : ∀ d, dst = some d → d < fr.length) : ∃ tr', FR tr' (putF fr dst v) ∧ ∀ (k : Tr → β), putK (dst.map paOf) v tr k = k tr' := by
  cases dst with
  | none => exact ⟨tr, h, fun k => rfl⟩
  | some d =>
    have hd' : d < fr.length := hd d rfl
    refine ⟨setT (paOf d) v tr, fun q => ?_, fun k => setK_eq v (paOf d) tr k⟩
    simp only [putF]
    by_cases hq : q = paOf d
    · subst hq
      rw [get_set_self, toN_paOf, List.getD_eq_getElem?_getD, List.getElem?_set_self hd']; rfl
    · rw [get_set_ne v (paOf d) q tr hq, h q, List.getD_eq_getElem?_getD, List.getD_eq_getElem?_getD, List.getElem?_set_ne]
      intro e
      exact hq (toN_inj _ _ (by rw [toN_paOf, ← e]))
theorem nthK_eq {α : Type} {z : β} {k : α → β} : ∀ (l : List α) (n : Nat), nthK l n z k = match l[n]? with | some x => k x | none => z
  | [], n => by simp [nthK]
  | x :: l, 0 => rfl
  | x :: l, n + 1 => by
    show nthK l n z k = _
    rw [nthK_eq l n]
    simp
end

theorem ltI_eq (a b : Int) : ltI a b = decide (a < b) := by
  cases a with
  | ofNat a => cases b with
    | ofNat b =>
      simp only [ltI]
      rw [Bool.eq_iff_iff]
      simp only [Nat.blt_eq, decide_eq_true_eq]
      exact Int.ofNat_lt.symm
    | negSucc b => simp only [ltI]; symm; simp; omega
  | negSucc a => cases b with
    | ofNat b => simp only [ltI]; symm; simp; omega
    | negSucc b =>
      simp only [ltI]
      rw [Bool.eq_iff_iff]
      simp only [Nat.blt_eq, decide_eq_true_eq]
      omega
theorem eqI_eq (a b : Int) : eqI a b = (a == b) := by
  cases a with
  | ofNat a => cases b with
    | ofNat b => rw [Bool.eq_iff_iff]; simp [eqI]; omega
    | negSucc b => simp [eqI]
  | negSucc a => cases b with
    | ofNat b => simp [eqI]
    | negSucc b => rw [Bool.eq_iff_iff]; simp [eqI]
theorem wrapI_eq (k : IntKind) (n : Int) : wrapI k n = k.wrap n := by
  cases k <;> try rfl
  · cases n with
    | ofNat a =>
      simp only [wrapI]
      cases h : Nat.ble a 9223372036854775807 with
      | false => exact cond_false _ _
      | true =>
        have h' : a ≤ 9223372036854775807 := Nat.le_of_ble_eq_true h
        exact (IntWalk.i64_in (Int.ofNat a) ⟨by simp only [Int.ofNat_eq_natCast]; omega, by simp only [Int.ofNat_eq_natCast]; omega⟩).symm
    | negSucc a =>
      simp only [wrapI]
      cases h : Nat.ble a 9223372036854775807 with
      | false => exact cond_false _ _
      | true =>
        have h' : a ≤ 9223372036854775807 := Nat.le_of_ble_eq_true h
        exact (IntWalk.i64_in (Int.negSucc a) ⟨by omega, by omega⟩).symm
  · cases n with
    | ofNat a =>
      simp only [wrapI]
      cases h : Nat.ble a 18446744073709551615 with
      | false => show Int.ofNat (a % 18446744073709551616) = _; rw [IntKind.wrap_u64]; simp only [Int.ofNat_eq_natCast]; omega
      | true =>
        have h' : a ≤ 18446744073709551615 := Nat.le_of_ble_eq_true h
        exact (IntWalk.u64_in (Int.ofNat a) ⟨by simp only [Int.ofNat_eq_natCast]; omega, by simp only [Int.ofNat_eq_natCast]; omega⟩).symm
    | negSucc a => rfl
theorem kN_eq {a b : IntKind} (h : Nat.beq (kN a) (kN b) = true) : a = b := by
  cases a <;> cases b <;> first | rfl | (simp [kN] at h)

end Go.Am
end

