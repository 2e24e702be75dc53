/-
  The fast machine: code, bodies, calls. What it answers the plain machine answers too.
-/
import Derived.Test.YthbfmjlcnfgnbaaGreatFmE
namespace Go.Am

section
variable {P : Program} {X : Xt} {O : Orc} {esc : Nat → Bool} {fuel : Nat}

theorem dsts_ok {nt : Nat} {ops : List Oper} (h : dstsOk nt ops = true) : ∀ o ∈ ops, dstOk nt o := by
  intro o ho d hd
  have := List.all_eq_true.1 h o ho
  rw [hd] at this
  simpa using this

theorem fexec_ok {nt : Nat} : ∀ (c : Code) {fs fs' : FSt} {s : St} {x : Ex}, FS nt fs s → fexec P X O esc fuel (compC P esc nt c) fs = some (x, fs') → ∃ s', exec P X O esc fuel c s = some (x, s') ∧ FS nt fs' s' := by
  intro c
  induction c with
  | skip =>
    intro fs fs' s x hS h
    have h' : some (Ex.normal, fs) = some (x, fs') := h
    injection h' with h'; injection h' with h1 h2
    subst h1 h2
    exact ⟨s, rfl, hS⟩
  | region id ops draw =>
    intro fs fs' s x hS h
    obtain ⟨tr, H, loc, wg⟩ := fs
    obtain ⟨fr, H0, loc0, wg0⟩ := s
    obtain ⟨hF, hl, e1, e2, e3⟩ := hS
    simp only at hF hl e1 e2 e3
    subst e1 e2 e3
    have h : fexec P X O esc fuel (compR P esc nt ops.toList draw) ⟨tr, H, loc, wg⟩ = some (x, fs') := h
    unfold compR at h
    cases hc : (constsOk ops.toList && dstsOk nt ops.toList) with
    | false => rw [hc] at h; cases h
    | true =>
      rw [hc] at h
      simp only [cond_true] at h
      simp only [Bool.and_eq_true] at hc
      cases draw with
      | false =>
        simp only [cond_false] at h
        obtain ⟨s', fps, e1, rfl, e3⟩ := fseq_ok ops.toList hF hl (dsts_ok hc.2) h
        refine ⟨s', ?_, e3⟩
        simp only [exec, hc.1, cond_true, cond_false, seq_of_trace e1]
      | true =>
        simp only [cond_true] at h
        cases hst : staticOk ops.toList with
        | false => rw [hst] at h; cases h
        | true =>
          rw [hst] at h
          simp only [cond_true] at h
          cases hcf : confOf ops.toList with
          | nil =>
            rw [hcf] at h
            obtain ⟨s', fps, e1, rfl, e3⟩ := fseq_ok ops.toList hF hl (dsts_ok hc.2) h
            refine ⟨s', ?_, e3⟩
            simp only [exec, hc.1, cond_true, drawOps, hst, e1, hcf, dynOk, List.all_nil]
          | cons c0 cs =>
            rw [hcf] at h
            obtain ⟨s', fps, fs1, e1, e2, e3⟩ := ftr_ok ops.toList (k := fun s fps => bif dynOk (c0 :: cs) fps.reverse then some (.normal, s) else none) hF hl (dsts_ok hc.2) h
            simp only [List.append_nil, List.reverse_reverse] at e3
            replace e3 := cond_cases e3
            rcases e3 with ⟨hdy, e3⟩ | ⟨_, e3⟩
            · injection e3 with e3; injection e3 with h1 h2
              subst h1 h2
              refine ⟨s', ?_, e2⟩
              simp only [exec, hc.1, cond_true, drawOps, hst, e1, hcf, hdy]
            · cases e3
  | seq a b iha ihb =>
    intro fs fs' s x hS h
    have h : (match fexec P X O esc fuel (compC P esc nt a) fs with
      | some (.normal, s') => fexec P X O esc fuel (compC P esc nt b) s'
      | r => r) = some (x, fs') := h
    split at h
    · rename_i fs1 h1
      obtain ⟨s1, e1, e2⟩ := iha hS h1
      obtain ⟨s2, e3, e4⟩ := ihb e2 h
      exact ⟨s2, by simp only [exec, e1, e3], e4⟩
    · rename_i hne
      obtain ⟨s1, e1, e2⟩ := iha hS h
      refine ⟨s1, ?_, e2⟩
      cases x with
      | normal => exact absurd h (hne fs')
      | exit i => simp only [exec, e1]
      | ret => simp only [exec, e1]
  | cond c a b iha ihb =>
    intro fs fs' s x hS h
    have h : (opK (compO c) fs.tr fun v => match v with
      | .bool b' => bif b' then fexec P X O esc fuel (compC P esc nt a) fs else fexec P X O esc fuel (compC P esc nt b) fs
      | _ => none) = some (x, fs') := h
    rw [hS.fr.op] at h
    split at h
    · rename_i t ht
      replace h := cond_cases h
      rcases h with ⟨rfl, h⟩ | ⟨rfl, h⟩
      · obtain ⟨s1, e1, e2⟩ := iha hS h
        exact ⟨s1, by simp only [exec, ht, e1, cond_true], e2⟩
      · obtain ⟨s1, e1, e2⟩ := ihb hS h
        exact ⟨s1, by simp only [exec, ht, e1, cond_false], e2⟩
    · cases h
  | block id a ih =>
    intro fs fs' s x hS h
    have h : (match fexec P X O esc fuel (compC P esc nt a) fs with
      | some (.exit i, s') => bif Nat.beq i id then some (.normal, s') else some (.exit i, s')
      | r => r) = some (x, fs') := h
    split at h
    · rename_i i fs1 h1
      obtain ⟨s1, e1, e2⟩ := ih hS h1
      replace h := cond_cases h
      rcases h with ⟨hb, h⟩ | ⟨hb, h⟩
      · injection h with h; injection h with h2 h3
        subst h2 h3
        have : (i == id) = true := beq_iff_eq.2 (Nat.eq_of_beq_eq_true hb)
        exact ⟨s1, by simp only [exec, e1, this, cond_true], e2⟩
      · injection h with h; injection h with h2 h3
        subst h2 h3
        have : (i == id) = false := by
          rw [beq_eq_false_iff_ne]; intro e; subst e; rw [Nat.beq_refl] at hb; cases hb
        exact ⟨s1, by simp only [exec, e1, this, cond_false], e2⟩
    · rename_i hne
      obtain ⟨s1, e1, e2⟩ := ih hS h
      refine ⟨s1, ?_, e2⟩
      cases x with
      | normal => simp only [exec, e1]
      | exit i => exact absurd h (hne i fs')
      | ret => simp only [exec, e1]
  | loop a ih =>
    intro fs fs' s x hS h
    have h : floop (fexec P X O esc fuel (compC P esc nt a)) fuel fs = some (x, fs') := h
    have key : ∀ (n : Nat) (fs : FSt) (s : St), FS nt fs s → floop (fexec P X O esc fuel (compC P esc nt a)) n fs = some (x, fs') → ∃ s', loopN (exec P X O esc fuel a) n s = some (x, s') ∧ FS nt fs' s' := by
      intro n
      induction n with
      | zero => intro fs s _ h; cases h
      | succ n ihn =>
        intro fs s hS h
        have h : (match fexec P X O esc fuel (compC P esc nt a) fs with
          | some (.normal, s') => floop (fexec P X O esc fuel (compC P esc nt a)) n s'
          | r => r) = some (x, fs') := h
        split at h
        · rename_i fs1 h1
          obtain ⟨s1, e1, e2⟩ := ih hS h1
          obtain ⟨s2, e3, e4⟩ := ihn fs1 s1 e2 h
          exact ⟨s2, by simp only [loopN, e1, e3], e4⟩
        · rename_i hne
          obtain ⟨s1, e1, e2⟩ := ih hS h
          refine ⟨s1, ?_, e2⟩
          cases x with
          | normal => exact absurd h (hne fs')
          | exit i => simp only [loopN, e1]
          | ret => simp only [loopN, e1]
    obtain ⟨s1, e1, e2⟩ := key fuel fs s hS h
    exact ⟨s1, by unfold exec; exact e1, e2⟩
  | exit id =>
    intro fs fs' s x hS h
    have h' : some (Ex.exit id, fs) = some (x, fs') := h
    injection h' with h'; injection h' with h1 h2
    subst h1 h2
    exact ⟨s, rfl, hS⟩
  | ret =>
    intro fs fs' s x hS h
    have h' : some (Ex.ret, fs) = some (x, fs') := h
    injection h' with h'; injection h' with h1 h2
    subst h1 h2
    exact ⟨s, rfl, hS⟩
  | rangeFunc f ps as b iha ihb => intro fs fs' s x hS h; cases h
  | scope c ih => intro fs fs' s x hS h; cases h
  | label l => intro fs fs' s x hS h; cases h
  | goto l => intro fs fs' s x hS h; cases h
  | refuse y => intro fs fs' s x hS h; cases h

theorem fres_ok {nt : Nat} {fs : FSt} {s : St} (hS : FS nt fs s) : ∀ (l : List ResultVar), fres P fs l = resultsA P s l
  | [] => rfl
  | .tmp t :: rest => by
    simp only [fres, resultsA, fres_ok hS rest, getK_eq, hS.fr.tmp]
    cases resultsA P s rest <;> rfl
  | .cell a t :: rest => by
    have : getK (paOf a) fs.tr id = s.fr.getD a undef := hS.fr.tmp a
    simp only [fres, resultsA, fres_ok hS rest, this, hS.h, hS.loc, fVal_eq]
    cases evLoad P s.H s.loc t (s.fr.getD a undef) <;> cases resultsA P s rest <;> rfl

theorem ffin_ok {nt : Nat} {fs : FSt} {s : St} (hS : FS nt fs s) {H : Hp} {v : Value} {r : Value × Hp × List Nat} (h : ffin H fs v = some r) : finish H s v = some r := by
  unfold ffin at h
  unfold finish
  rw [hS.wg, hS.h, plF_eq] at h
  replace h := cond_cases h
  rcases h with ⟨hn, h⟩ | ⟨_, h⟩
  · rw [nlF_ok hn]; exact h
  · cases h

theorem argTr_ok : ∀ (args : List Value) (n : Nat) (tr : Tr), ∃ tr', (∀ k, argTr args n tr k = k tr') ∧ ∀ p, getT p tr' = if n ≤ toN p ∧ toN p < n + args.length then args.getD (toN p - n) undef else getT p tr
  | [], n, tr => ⟨tr, fun _ => rfl, fun p => by rw [if_neg (by simp)]⟩
  | v :: args, n, tr => by
    obtain ⟨tr', e1, e2⟩ := argTr_ok args (n + 1) (setT (paOf n) v tr)
    refine ⟨tr', fun k => ?_, fun p => ?_⟩
    · show setK (paOf n) v tr (fun tr => argTr args (n + 1) tr k) = _
      rw [setK_eq, e1]
    · rw [e2]
      by_cases h1 : n + 1 ≤ toN p ∧ toN p < n + 1 + args.length
      · rw [if_pos h1, if_pos ⟨by omega, by simp only [List.length_cons]; omega⟩, show toN p - n = (toN p - (n + 1)) + 1 from by omega]
        simp
      · rw [if_neg h1]
        by_cases h2 : p = paOf n
        · subst h2
          rw [get_set_self, if_pos ⟨by rw [toN_paOf]; omega, by rw [toN_paOf]; simp only [List.length_cons]; omega⟩, toN_paOf]
          simp
        · have h3 : toN p ≠ n := fun e => h2 (toN_inj _ _ (by rw [toN_paOf, e]))
          rw [get_set_ne v (paOf n) p tr h2, if_neg]
          simp only [List.length_cons]
          omega

theorem argTr_fr (args : List Value) (m : Nat) : ∃ tr', (∀ k, argTr args 0 .e k = k tr') ∧ FR tr' (args ++ List.replicate m undef) := by
  obtain ⟨tr', e1, e2⟩ := argTr_ok args 0 .e
  refine ⟨tr', e1, fun p => ?_⟩
  rw [e2, getT_e]
  by_cases h : toN p < args.length
  · rw [if_pos ⟨Nat.zero_le _, by omega⟩]
    simp [List.getD, List.getElem?_append_left h]
  · rw [if_neg (by omega)]
    simp only [List.getD, List.getElem?_append_right (Nat.le_of_not_lt h), List.getElem?_replicate]
    split <;> rfl

theorem frun_ok {es : FuncId → Nat → Bool} {f : FuncId} {args : List Value} {H : Hp} {r : Value × Hp × List Nat} (h : frun P X es fuel O f args H = some r) : runBody P X es fuel O f args H = some r := by
  unfold frun fbody at h
  unfold runBody
  cases hf : P.funcs[f]? with
  | none => rw [hf] at h; cases h
  | some fn =>
    rw [hf] at h
    simp only at h ⊢
    cases hb : fn.body with
    | none => rw [hb] at h; cases h
    | some c =>
      rw [hb] at h
      simp only at h ⊢
      obtain ⟨tr', e1, e2⟩ := argTr_fr args (fn.ntmps - args.length)
      rw [e1] at h
      have hS : FS fn.ntmps ⟨tr', H, [], []⟩ ⟨args ++ List.replicate (fn.ntmps - args.length) undef, H, [], []⟩ := ⟨e2, by simp; omega, rfl, rfl, rfl⟩
      have hv : fresv P f = fn.results.toList := by unfold fresv; rw [hf]
      rw [hv] at h
      split at h
      · rename_i fs hx
        obtain ⟨s', e3, e4⟩ := fexec_ok c hS hx
        rw [e3]
        simp only
        rw [fres_ok e4] at h
        split at h
        · rename_i vs hvs
          rw [hvs]
          exact ffin_ok e4 h
        · cases h
      · rename_i fs hx
        obtain ⟨s', e3, e4⟩ := fexec_ok c hS hx
        rw [e3]
        simp only
        rw [fres_ok e4] at h
        split at h
        · rename_i vs hvs
          rw [hvs]
          exact ffin_ok e4 h
        · cases h
      · cases h

theorem fcall_good (hm : P.follows .mixedOrders = true) (hN : Named P) (hX : GoodX P X) {es : FuncId → Nat → Bool} : ∀ n, GoodO P (fcall P X es fuel n) ∧ PureO (fcall P X es fuel n)
  | 0 => ⟨(fun f args H v H' md h => by cases h), (fun f args H v H' md h => by cases h)⟩
  | n + 1 => by
    obtain ⟨h1, h2⟩ := fcall_good hm hN hX (es := es) n
    exact ⟨fun f args H v H' md h => body_sound hm hN hX h1 h2 f args H v H' md (frun_ok h), fun f args H v H' md h => body_pure h2 f args H v H' md (frun_ok h)⟩

/-- A closed call, by the fast machine. -/
theorem fcall_calls (hm : P.follows .mixedOrders = true) (hN : Named P) (hX : GoodX P X) {es : FuncId → Nat → Bool} {n : Nat} {f : FuncId} {v : Value} {H' : Hp} {md : List Nat} (h : fcall P X es fuel n f [] [] = some (v, H', md)) (hv : plainV v = true) (w : World) :
    Calls P f #[] w fun e w' => e = .returned v ∧ w'.os = w.os ∧ w'.tape = w.tape ∧ w'.output = w.output ∧ w.heap.size ≤ w'.heap.size ∧ ∀ g, g < w.heap.size → w'.heap[g]? = w.heap[g]? := by
  have := (fcall_good hm hN hX (es := es) n).1 f [] [] v H' md h ⟨noLb, noLb, fun _ => false, fun _ => 0, fun _ => 0⟩ w [] rfl ⟨(fun i g e => by cases e), (fun i g e => by cases e), (fun i j g bi bj e => by cases e), (fun i j g e => by cases e), (fun i j g e => by cases e)⟩ (VRs.nil _)
  refine this.mono fun e w' ⟨v', m', e1, e2, e3, e4⟩ => ?_
  refine ⟨by rw [e1, plain_eq 4 _ _ hv e2], e3.os, e3.tape, e3.output, e3.size, fun g hg => e3.frame g hg (fun i e => by cases e) (fun i e => by cases e)⟩

end
end Go.Am
