/-
  The fast machine: regions, code, bodies, calls. It answers as the plain machine does.
-/
import Derived.Test.YthbfmjlcnfgnbaaGreatFmD
namespace Go.Am

section
variable {P : Program} {X : Xt} {O : Orc} {esc : Nat → Bool} {γ : Type} {tr : Tr} {fr : List Value} {H loc : Hp} {r : γ} {o : Oper}

theorem want_eq {ops : List Oper} (hF : FR tr fr) {yes no : γ} : wantK (compG ops o) tr yes no = bif wantedA ops fr o then yes else no := by
  unfold compG wantedA
  cases o.guard with
  | none => rfl
  | some jw =>
    obtain ⟨j, want⟩ := jw
    simp only
    cases (ops[j]?).bind (·.dst) with
    | none => rfl
    | some t =>
      simp only [wantK, getK_eq, hF.tmp]
      by_cases ht : t < fr.length
      · have e : fr.getD t undef = fr[t] := by simp [List.getD, ht]
        rw [e, List.getElem?_eq_getElem ht]
        cases hv : fr[t] <;> simp
        rename_i b
        cases b <;> cases want <;> rfl
      · have e : fr.getD t undef = undef := by simp [List.getD, List.getElem?_eq_none (Nat.le_of_not_lt ht)]
        rw [e, List.getElem?_eq_none (Nat.le_of_not_lt ht)]
        rfl

/-- A compiled step that writes nothing. -/
def CP (P : Program) (o : Oper) (e : RP) : Prop := (kindOf o.op = .inert ∧ e = compP P o) ∨ (kindOf o.op = .load ∧ compL P o = some e)
def CM (P : Program) (esc : Nat → Bool) (o : Oper) (e : RM) : Prop := e = .gmem o ∨ ((kindOf o.op = .alloc ∨ kindOf o.op = .eff) ∧ e = compM P esc o)

theorem compS_cases (P : Program) (esc : Nat → Bool) (ops : List Oper) (o : Oper) : (∃ e, CP P o e ∧ compS P esc ops o = .p (o.dst.map paOf) (compG ops o) e) ∨ (∃ e, CM P esc o e ∧ compS P esc ops o = .m (o.dst.map paOf) (compG ops o) e) := by
  unfold compS
  split
  · rename_i hk; exact .inl ⟨_, .inl ⟨hk, rfl⟩, rfl⟩
  · rename_i hk
    split
    · rename_i e he; exact .inl ⟨e, .inr ⟨hk, he⟩, rfl⟩
    · exact .inr ⟨_, .inl rfl, rfl⟩
  · rename_i hk; exact .inr ⟨_, .inr ⟨.inl hk, rfl⟩, rfl⟩
  · rename_i hk; exact .inr ⟨_, .inr ⟨.inr hk, rfl⟩, rfl⟩

theorem CP.ok {e : RP} {k : Value → Option γ} (hc : CP P o e) (hF : FR tr fr) (h : stepP P e tr H loc none k = some r) : ∃ v, evOp P X O esc o (evalO fr) H loc = some ⟨v, H, loc, [], []⟩ ∧ k v = some r := by
  rcases hc with ⟨hk, rfl⟩ | ⟨hk, hc⟩
  · obtain ⟨v, e1, e2⟩ := stepP_ok hF h
    exact ⟨v, by simp only [evOp, hk, e1], e2⟩
  · obtain ⟨t, x, v, e0, e1, e2⟩ := load_ok hF hc h
    exact ⟨v, by simp only [evOp, hk]; rw [e0]; simp only [e1], e2⟩
theorem CM.ok {e : RM} {k : Value → Hp → Hp → List Nat → List Nat → Option γ} (hc : CM P esc o e) (hF : FR tr fr) (h : stepM P X O esc e tr H loc none k = some r) :
    ∃ out, evOp P X O esc o (evalO fr) H loc = some out ∧ k out.v out.H out.loc out.wg out.wl = some r := by
  rcases hc with rfl | ⟨_, rfl⟩
  · exact gmem_ok hF h
  · exact stepM_ok hF h

theorem reads_inert (hk : kindOf o.op ≠ .load) (ρ : Operand → Value) : readsOf o ρ = ([], []) := by
  unfold readsOf
  split
  · rename_i t x hop; rw [hop] at hk; exact absurd rfl hk
  · rfl

def isLd : RP → Bool
  | .ld1 _ => true
  | .ldA _ _ => true
  | _ => false
theorem isLd_cond {c : Bool} {a b : RP} (ha : isLd a = false) (hb : isLd b = false) : isLd (bif c then a else b) = false := by
  cases c
  · exact hb
  · exact ha
theorem isLd_compP (P : Program) (o : Oper) : isLd (compP P o) = false := by
  unfold compP
  simp only [fNat_eq]
  repeat' split
  all_goals first | rfl | exact isLd_cond rfl rfl
theorem rdsP_noLd {e : RP} (h : isLd e = false) (k : List Nat → List Nat → γ) : rdsP e tr k = k [] [] := by
  cases e <;> first | rfl | cases h

theorem ptr_reads (v : Value) (k : List Nat → List Nat → γ) : (match v with
    | .pointer (some ⟨b, _, none⟩) => k [b] []
    | .pointer (some ⟨b, _, some _⟩) => k [] [b]
    | _ => k [] []) = k (match v with
    | .pointer (some ⟨b, _, none⟩) => ([b], [])
    | .pointer (some ⟨b, _, some _⟩) => ([], [b])
    | _ => (([], []) : List Nat × List Nat)).1 (match v with
    | .pointer (some ⟨b, _, none⟩) => ([b], [])
    | .pointer (some ⟨b, _, some _⟩) => ([], [b])
    | _ => (([], []) : List Nat × List Nat)).2 := by
  split <;> rfl

theorem CP.reads {e : RP} (hc : CP P o e) (hF : FR tr fr) (k : List Nat → List Nat → γ) : rdsP e tr k = k (readsOf o (evalO fr)).1 (readsOf o (evalO fr)).2 := by
  rcases hc with ⟨hk, rfl⟩ | ⟨hk, hc⟩
  · rw [reads_inert (by rw [hk]; intro h; cases h), rdsP_noLd (isLd_compP P o)]
  · unfold compL at hc
    split at hc
    · rename_i t x hop
      have hr : readsOf o (evalO fr) = match evalO fr x with
        | .pointer (some ⟨b, _, none⟩) => ([b], [])
        | .pointer (some ⟨b, _, some _⟩) => ([], [b])
        | _ => ([], []) := by simp only [readsOf, hop]; rfl
      rw [hr]
      split at hc
      · split at hc
        · rw [fNat_eq] at hc
          injection hc with hc; subst hc
          simp only [rdsP, hF.op]
          exact ptr_reads _ k
        · cases hc
      · injection hc with hc; subst hc
        simp only [rdsP, hF.op]
        exact ptr_reads _ k
      · cases hc
    · cases hc
def isG (o : Oper) : RM → Prop
  | .gmem o' => o' = o
  | _ => True
theorem isG_cond {c : Bool} {a b : RM} (ha : isG o a) (hb : isG o b) : isG o (bif c then a else b) := by
  cases c
  · exact hb
  · exact ha
theorem isG_compM (P : Program) (esc : Nat → Bool) (o : Oper) : isG o (compM P esc o) := by
  unfold compM
  simp only [fNat_eq, fBool_eq, fVals_eq]
  repeat' split
  all_goals first | exact rfl | exact trivial | exact isG_cond trivial rfl
theorem CM.reads {e : RM} (hc : CM P esc o e) (hF : FR tr fr) (k : List Nat → List Nat → γ) : rdsM e tr k = k (readsOf o (evalO fr)).1 (readsOf o (evalO fr)).2 := by
  rcases hc with rfl | ⟨hk, rfl⟩
  · simp only [rdsM, hF.ev]
  · have h0 : readsOf o (evalO fr) = ([], []) := reads_inert (by rcases hk with hk | hk <;> rw [hk] <;> intro h <;> cases h) _
    have hg := isG_compM P esc o
    generalize compM P esc o = e at hg
    cases e with
    | gmem o' => have hg' : o' = o := hg; subst hg'; simp only [rdsM, hF.ev]
    | _ => rw [h0]; rfl

/-- The two machines' states. -/
structure FS (nt : Nat) (fs : FSt) (s : St) : Prop where
  fr : FR fs.tr s.fr
  len : nt ≤ s.fr.length
  h : fs.H = s.H
  loc : fs.loc = s.loc
  wg : fs.wg = s.wg

theorem put_len (fr : List Value) (d : Option Tmp) (v : Value) : (putF fr d v).length = fr.length := by
  cases d <;> simp [putF]

def dstOk (nt : Nat) (o : Oper) : Prop := ∀ d, o.dst = some d → d < nt

/-- One step, with its footprint. -/
theorem step_ok {nt : Nat} {ops : List Oper} {wg : List Nat} {K : Tr → Hp → Hp → List Nat → Fp → Option γ} (hF : FR tr fr) (hl : nt ≤ fr.length) (hd : dstOk nt o)
    (h : (match compS P esc ops o with
      | .p d g e => wantK g tr (stepP P e tr H loc none fun v => rdsP e tr fun rg rl => putK d v tr fun tr => K tr H loc wg ⟨rg, rl, [], [], boundB H.length loc.length 6 v⟩) (putK d undef tr fun tr => K tr H loc wg ⟨[], [], [], [], true⟩)
      | .m d g e => wantK g tr (stepM P X O esc e tr H loc none fun v H' loc' w wl => rdsM e tr fun rg rl => putK d v tr fun tr => fSpine (wg ++ w) fun wg => K tr H' loc' wg ⟨rg, rl, w, wl, boundB H.length loc.length 6 v⟩) (putK d undef tr fun tr => K tr H loc wg ⟨[], [], [], [], true⟩)) = some r) :
    ∃ s' fp tr', stepTr P X O esc ops o ⟨fr, H, loc, wg⟩ = some (s', fp) ∧ FR tr' s'.fr ∧ nt ≤ s'.fr.length ∧ K tr' s'.H s'.loc s'.wg fp = some r := by
  have hd' : ∀ d, o.dst = some d → d < fr.length := fun d e => Nat.lt_of_lt_of_le (hd d e) hl
  have hno : putK (o.dst.map paOf) undef tr (fun tr => K tr H loc wg ⟨[], [], [], [], true⟩) = some r → wantedA ops fr o = false → ∃ s' fp tr', stepTr P X O esc ops o ⟨fr, H, loc, wg⟩ = some (s', fp) ∧ FR tr' s'.fr ∧ nt ≤ s'.fr.length ∧ K tr' s'.H s'.loc s'.wg fp = some r := by
    intro h hw
    obtain ⟨tr', e1, e2⟩ := hF.put (β := Option γ) o.dst undef hd'
    rw [e2] at h
    exact ⟨⟨putF fr o.dst undef, H, loc, wg⟩, ⟨[], [], [], [], true⟩, tr', by simp only [stepTr, hw, cond_false], e1, by rw [put_len]; exact hl, h⟩
  rcases compS_cases P esc ops o with ⟨e, hc, he⟩ | ⟨e, hc, he⟩
  · rw [he] at h
    simp only [want_eq hF] at h
    replace h := cond_cases h
    rcases h with ⟨hw, h⟩ | ⟨hw, h⟩
    · obtain ⟨v, e1, e2⟩ := hc.ok (X := X) (O := O) (esc := esc) hF h
      rw [hc.reads hF] at e2
      obtain ⟨tr', e3, e4⟩ := hF.put (β := Option γ) o.dst v hd'
      rw [e4] at e2
      exact ⟨⟨putF fr o.dst v, H, loc, wg ++ []⟩, ⟨(readsOf o (evalO fr)).1, (readsOf o (evalO fr)).2, [], [], boundB H.length loc.length 6 v⟩, tr', by simp only [stepTr, hw, cond_true, e1], e3, by rw [put_len]; exact hl, by rw [List.append_nil]; exact e2⟩
    · exact hno h hw
  · rw [he] at h
    simp only [want_eq hF] at h
    replace h := cond_cases h
    rcases h with ⟨hw, h⟩ | ⟨hw, h⟩
    · obtain ⟨out, e1, e2⟩ := hc.ok hF h
      simp only [hc.reads hF] at e2
      obtain ⟨tr', e3, e4⟩ := hF.put (β := Option γ) o.dst out.v hd'
      rw [e4, fSpine_eq] at e2
      exact ⟨⟨putF fr o.dst out.v, out.H, out.loc, wg ++ out.wg⟩, ⟨(readsOf o (evalO fr)).1, (readsOf o (evalO fr)).2, out.wg, out.wl, boundB H.length loc.length 6 out.v⟩, tr', by simp only [stepTr, hw, cond_true, e1], e3, by rw [put_len]; exact hl, e2⟩
    · exact hno h hw

theorem stepO_of {ops : List Oper} {s s' : St} {fp : Fp} (h : stepTr P X O esc ops o s = some (s', fp)) : stepO P X O esc ops o s = some s' := by
  unfold stepTr at h
  unfold stepO
  simp only [fVal_eq, fPut_eq, fSpine_eq]
  replace h := cond_cases h
  rcases h with ⟨hw, h⟩ | ⟨hw, h⟩
  · rw [hw]
    split at h
    · rename_i out ho
      injection h with h
      injection h with h1 h2
      simp only [cond_true, ho, h1]
    · cases h
  · rw [hw]
    injection h with h
    injection h with h1 h2
    simp only [cond_false, h1]
theorem seq_of_trace {ops : List Oper} : ∀ {l : List Oper} {s s' : St} {fps : List Fp}, traceOps P X O esc ops l s = some (s', fps) → seqOps P X O esc ops l s = some s'
  | [], s, s', fps, h => by
    simp only [traceOps, Option.some.injEq, Prod.mk.injEq] at h
    simp only [seqOps, h.1]
  | o :: l, s, s', fps, h => by
    unfold traceOps at h
    split at h
    · rename_i s1 f h1
      split at h
      · rename_i s2 fps2 h2
        simp only [Option.some.injEq, Prod.mk.injEq] at h
        have := seq_of_trace h2
        simp only [seqOps, stepO_of h1, this, h.1]
      · cases h
    · cases h

theorem fseq_ok {nt : Nat} {ops : List Oper} : ∀ (l : List Oper) {tr : Tr} {fr : List Value} {H loc : Hp} {wg : List Nat} {x : Ex} {fs : FSt}, FR tr fr → nt ≤ fr.length → (∀ o ∈ l, dstOk nt o) →
    fseq P X O esc (l.map (compS P esc ops)) tr H loc wg = some (x, fs) → ∃ s' fps, traceOps P X O esc ops l ⟨fr, H, loc, wg⟩ = some (s', fps) ∧ x = .normal ∧ FS nt fs s'
  | [], tr, fr, H, loc, wg, x, fs, hF, hl, _, h => by
    have h' : some (Ex.normal, (⟨tr, H, loc, wg⟩ : FSt)) = some (x, fs) := h
    injection h' with h'; injection h' with h1 h2
    subst h1 h2
    exact ⟨_, _, rfl, rfl, ⟨hF, hl, rfl, rfl, rfl⟩⟩
  | o :: l, tr, fr, H, loc, wg, x, fs, hF, hl, hd, h => by
    have h' : (match compS P esc ops o with
      | .p d g e => wantK g tr (stepP P e tr H loc none fun v => rdsP e tr fun _ _ => putK d v tr fun tr => fseq P X O esc (l.map (compS P esc ops)) tr H loc wg) (putK d undef tr fun tr => fseq P X O esc (l.map (compS P esc ops)) tr H loc wg)
      | .m d g e => wantK g tr (stepM P X O esc e tr H loc none fun v H' loc' w _ => rdsM e tr fun _ _ => putK d v tr fun tr => fSpine (wg ++ w) fun wg => fseq P X O esc (l.map (compS P esc ops)) tr H' loc' wg) (putK d undef tr fun tr => fseq P X O esc (l.map (compS P esc ops)) tr H loc wg)) = some (x, fs) := by
      refine Eq.trans ?_ h
      show _ = (match compS P esc ops o with
        | .p d g e => wantK g tr (stepP P e tr H loc none fun v => putK d v tr fun tr => fseq P X O esc (l.map (compS P esc ops)) tr H loc wg) (putK d undef tr fun tr => fseq P X O esc (l.map (compS P esc ops)) tr H loc wg)
        | .m d g e => wantK g tr (stepM P X O esc e tr H loc none fun v H' loc' w _ => putK d v tr fun tr => fSpine (wg ++ w) fun wg => fseq P X O esc (l.map (compS P esc ops)) tr H' loc' wg) (putK d undef tr fun tr => fseq P X O esc (l.map (compS P esc ops)) tr H loc wg))
      rcases compS_cases P esc ops o with ⟨e, hc, he⟩ | ⟨e, hc, he⟩
      · rw [he]; simp only [hc.reads hF]
      · rw [he]; simp only [hc.reads hF]
    obtain ⟨s1, fp, tr', e1, e2, e3, e4⟩ := step_ok (K := fun tr H loc wg _ => fseq P X O esc (l.map (compS P esc ops)) tr H loc wg) hF hl (hd o (by simp)) h'
    obtain ⟨s2, fps, e5, e6, e7⟩ := fseq_ok l e2 e3 (fun o ho => hd o (by simp [ho])) e4
    exact ⟨s2, fp :: fps, by simp only [traceOps, e1]; rw [show (⟨s1.fr, s1.H, s1.loc, s1.wg⟩ : St) = s1 from rfl] at e5; rw [e5], e6, e7⟩

theorem ftr_ok {nt : Nat} {ops : List Oper} {k : FSt → List Fp → Option (Ex × FSt)} {r : Ex × FSt} : ∀ (l : List Oper) {tr : Tr} {fr : List Value} {H loc : Hp} {wg : List Nat} {fps0 : List Fp}, FR tr fr → nt ≤ fr.length → (∀ o ∈ l, dstOk nt o) →
    ftr P X O esc (l.map (compS P esc ops)) tr H loc wg fps0 k = some r → ∃ s' fps fs, traceOps P X O esc ops l ⟨fr, H, loc, wg⟩ = some (s', fps) ∧ FS nt fs s' ∧ k fs (fps.reverse ++ fps0) = some r
  | [], tr, fr, H, loc, wg, fps0, hF, hl, _, h => by
    have h' : k ⟨tr, H, loc, wg⟩ fps0 = some r := h
    exact ⟨_, _, ⟨tr, H, loc, wg⟩, rfl, ⟨hF, hl, rfl, rfl, rfl⟩, h'⟩
  | o :: l, tr, fr, H, loc, wg, fps0, hF, hl, hd, h => by
    obtain ⟨s1, fp, tr', e1, e2, e3, e4⟩ := step_ok (K := fun tr H loc wg fp => ftr P X O esc (l.map (compS P esc ops)) tr H loc wg (fp :: fps0) k) hF hl (hd o (by simp)) h
    obtain ⟨s2, fps, fs, e5, e6, e7⟩ := ftr_ok l e2 e3 (fun o ho => hd o (by simp [ho])) e4
    exact ⟨s2, fp :: fps, fs, by simp only [traceOps, e1]; rw [show (⟨s1.fr, s1.H, s1.loc, s1.wg⟩ : St) = s1 from rfl] at e5; rw [e5], e6, by simpa using e7⟩
end
end Go.Am
