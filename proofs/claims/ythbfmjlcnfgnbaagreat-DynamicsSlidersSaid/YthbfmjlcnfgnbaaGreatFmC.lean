/-
  The fast machine's operations that write nothing: each answers as the plain machine's.
-/
import Derived.Test.YthbfmjlcnfgnbaaGreatFmB
namespace Go.Am

section
variable {P : Program}
theorem runPure_bind {α β : Type} : ∀ (s : Sem α) (f : α → Sem β), runPure P (s.bind f) = (runPure P s).bind fun a => runPure P (f a)
  | .pure _, _ => rfl
  | .program k, f => by simp only [Sem.bind, runPure]; exact runPure_bind (k P) f
  | .mark _ k, f => by simp only [Sem.bind, runPure]; exact runPure_bind k f
  | .load .., _ | .store .., _ | .new .., _ | .shape .., _ | .freeze .., _ | .frozen .., _ | .getObj .., _ | .setObj .., _
  | .choose .., _ | .sys .., _ | .halt .., _ => rfl
theorem runPure_bind' {α β : Type} (s : Sem α) (f : α → Sem β) : runPure P (s >>= f) = (runPure P s).bind fun a => runPure P (f a) := runPure_bind s f
theorem runPure_pure {α : Type} (a : α) : runPure P (pure a : Sem α) = some a := rfl
theorem runPure_underlying {t : TypeId} {d : TypeDesc} (h : P.underlying t = some d) : runPure P (underlying t) = some d := by
  simp only [underlying, program, runPure_bind', runPure, Option.bind_some, h, runPure_pure]
end

section
variable {P : Program} {γ : Type} {tr : Tr} {fr : List Value} {H loc : Hp} {k : Value → Option γ} {r : γ} {o : Oper} {e : RP}

theorem plain_int (kd : IntKind) (n : Int) : plainV (.int kd n) = true := rfl
theorem plain_bool (b : Bool) : plainV (.bool b) = true := rfl

theorem gen_ok (hF : FR tr fr) (h : stepP P (.gen o) tr H loc none k = some r) : ∃ v, evInert P H o (evalO fr) = some v ∧ k v = some r := by
  simp only [stepP, hF.ev, fVal_eq] at h
  split at h
  · rename_i v hv; exact ⟨v, hv, h⟩
  · cases h

theorem evPlain2 {x y : Operand} {vx vy v : Value} (ho : o.op.operands.toList = [x, y]) (hx : evalO fr x = vx) (hy : evalO fr y = vy) (px : plainV vx = true) (py : plainV vy = true)
    (hr : runPure P (execOp (evalO fr) o) = some (.value v)) (pv : plainV v = true) : evPlain P o (evalO fr) = some v := by
  unfold evPlain
  simp only [ho, List.all_cons, List.all_nil, hx, hy, px, py, hr, pv, Bool.and_self, cond_true]
theorem evPlain1 {x : Operand} {vx v : Value} (ho : o.op.operands.toList = [x]) (hx : evalO fr x = vx) (px : plainV vx = true)
    (hr : runPure P (execOp (evalO fr) o) = some (.value v)) (pv : plainV v = true) : evPlain P o (evalO fr) = some v := by
  unfold evPlain
  simp only [ho, List.all_cons, List.all_nil, hx, px, hr, pv, Bool.and_self, cond_true]

/-- What a binary operation on two numbers of one kind answers. -/
def binV (op : BinOp) (kd : IntKind) (a b : Int) : Option Value :=
  match op with
  | .add => some (.int kd (kd.wrap (a + b)))
  | .sub => some (.int kd (kd.wrap (a - b)))
  | .mul => some (.int kd (kd.wrap (a * b)))
  | .lss => some (.bool (decide (a < b)))
  | .leq => some (.bool (decide (a ≤ b)))
  | .gtr => some (.bool (decide (b < a)))
  | .geq => some (.bool (decide (b ≤ a)))
  | .eql => some (.bool (a == b))
  | .neq => some (.bool (a != b))
  | .quo => if b = 0 then none else some (.int kd (kd.wrap (a.tdiv b)))
  | .rem => if b = 0 then none else some (.int kd (a.tmod b))
  | _ => none

theorem not_lt_dec (a b : Int) : (!decide (b < a)) = decide (a ≤ b) := by
  rw [Bool.eq_iff_iff]; simp

theorem binK_ok {op : BinOp} {x y : Value} (h : binK op x y none k = some r) : ∃ kd a b v, x = .int kd a ∧ y = .int kd b ∧ binV op kd a b = some v ∧ k v = some r := by
  unfold binK at h
  split at h
  · rename_i kx a
    split at h
    · rename_i ky b
      replace h := cond_cases h
      rcases h with ⟨hk, h⟩ | ⟨_, h⟩
      · have e := kN_eq hk
        subst e
        have e0 : (eqI b (Int.ofNat 0)) = decide (b = 0) := by rw [eqI_eq]; rw [Bool.eq_iff_iff]; simp
        split at h <;> try simp only [fInt_eq, fBool_eq, wrapI_eq, ltI_eq, eqI_eq, not_lt_dec] at h
        all_goals first
          | exact ⟨kx, a, b, _, rfl, rfl, rfl, h⟩
          | (rw [← eqI_eq, e0] at h
             rcases cond_cases h with ⟨_, h⟩ | ⟨hb, h⟩
             · cases h
             · have hb' : ¬ b = 0 := by simpa using hb
               refine ⟨kx, a, b, _, rfl, rfl, ?_, h⟩
               simp only [binV, if_neg hb'])
          | cases h
      · cases h
    · cases h
  · cases h

theorem bin_run {op : BinOp} {t : TypeId} {x y : Operand} {kd : IntKind} {a b : Int} {v : Value} (ho : ∃ z, o.op = .binOp op t x y z) (hx : evalO fr x = .int kd a) (hy : evalO fr y = .int kd b) (hv : binV op kd a b = some v) :
    runPure P (execOp (evalO fr) o) = some (.value v) ∧ plainV v = true := by
  obtain ⟨z, ho⟩ := ho
  unfold execOp
  rw [ho]
  simp only [hx, hy, runPure_bind']
  have hg : runPure P (eqGuard op t x y (.int kd a) (.int kd b)) = some () := by
    cases op <;> rfl
  rw [hg]
  unfold binV at hv
  split at hv
  all_goals first
    | (injection hv with hv; subst hv; refine ⟨?_, rfl⟩; simp [binOp, Op.intArith, Op.intCmp, runPure_pure])
    | (split at hv
       · cases hv
       · rename_i hb
         injection hv with hv; subst hv; refine ⟨?_, rfl⟩; simp [binOp, Op.intDiv, hb, runPure_pure])
    | cases hv

theorem tmp_plain_bin {op : BinOp} {t : TypeId} {x y : Operand} (ho : ∃ z, o.op = .binOp op t x y z) : o.op.operands.toList = [x, y] := by
  obtain ⟨z, ho⟩ := ho
  rw [ho]; rfl

theorem idxK_ok {a : Addr} {len : Nat} {i : Value} {sz : Nat} (h : idxK a len i sz none k = some r) : ∃ kd n, i = .int kd n ∧ (decide (0 ≤ n) && decide (n < (len : Int))) = true ∧ k (.pointer (some (addA a (n.toNat * sz)))) = some r := by
  unfold idxK at h
  split at h
  · rename_i kd n
    rcases cond_cases h with ⟨hn, h⟩ | ⟨_, h⟩
    · rw [fNat_eq] at h
      refine ⟨kd, .ofNat n, rfl, ?_, h⟩
      have hn' : n < len := by simpa using hn
      simp only [Int.ofNat_eq_natCast, Bool.and_eq_true, decide_eq_true_eq]
      omega
    · cases h
  · cases h

theorem stepP_ok (hF : FR tr fr) (h : stepP P (compP P o) tr H loc none k = some r) : ∃ v, evInert P H o (evalO fr) = some v ∧ k v = some r := by
  unfold compP at h
  split at h
  · rename_i x hop
    simp only [stepP, hF.op] at h
    exact ⟨_, by unfold evInert; rw [hop], h⟩
  · rename_i x hop
    simp only [stepP, hF.op] at h
    exact ⟨_, by unfold evInert; rw [hop], h⟩
  · rename_i c a b hop
    simp only [stepP, hF.op] at h
    split at h
    · rename_i t ht
      rcases cond_cases h with ⟨rfl, h⟩ | ⟨rfl, h⟩
      · exact ⟨_, by unfold evInert; rw [hop]; simp only [ht]; rfl, h⟩
      · exact ⟨_, by unfold evInert; rw [hop]; simp only [ht]; rfl, h⟩
    · cases h
  · rename_i x n hop
    simp only [stepP, hF.op] at h
    split at h
    · rename_i vs hx
      rw [nthK_eq] at h
      split at h
      · rename_i v hv
        exact ⟨v, by unfold evInert; rw [hop]; simp only [hx]; exact hv, h⟩
      · cases h
    · cases h
  · rename_i s x f hop
    split at h
    · rename_i fs hs
      split at h
      · rename_i fd hf
        cases hz : (P.cellsOf fd.type == 0) with
        | true => rw [hz] at h; exact gen_ok hF h
        | false =>
          rw [hz] at h
          simp only [cond_false] at h
          simp only [fNat_eq, stepP, hF.op] at h
          split at h
          · rename_i b o' s' hx
            exact ⟨_, by unfold evInert; rw [hop]; simp only [hs, hx, hf, hz, cond_false]; rfl, h⟩
          · cases h
      · exact gen_ok hF h
    · exact gen_ok hF h
  · rename_i t x i hop
    split at h
    · rename_i len elem ht
      split at h
      · rename_i ti hi
        simp only [fNat_eq, stepP, hF.op] at h
        split at h
        · rename_i a hx
          obtain ⟨kd, n, e1, e2, e3⟩ := idxK_ok h
          exact ⟨_, by unfold evInert; rw [hop]; simp only [evIndexAddr, ht, hx, e1, hi, e2, cond_true], e3⟩
        · cases h
      · exact gen_ok hF h
    · rename_i elem ht
      split at h
      · rename_i ti hi
        simp only [fNat_eq, stepP, hF.op] at h
        split at h
        · rename_i a len _ hx
          obtain ⟨kd, n, e1, e2, e3⟩ := idxK_ok h
          exact ⟨_, by unfold evInert; rw [hop]; simp only [evIndexAddr, ht, hx, e1, hi, e2, cond_true], e3⟩
        · cases h
      · exact gen_ok hF h
    · exact gen_ok hF h
  · rename_i t x f hop
    split at h
    · rename_i fs hs
      split at h
      · rename_i fd hf
        split at h
        · rename_i ha
          split at h
          · rename_i i hi
            simp only [fNat_eq, stepP, hF.op] at h
            split at h
            · rename_i vs hx
              rw [fSpine_eq] at h
              exact ⟨_, by unfold evInert; rw [hop]; simp only [hs, hx, hf, evPart, ha, hi], h⟩
            · cases h
          · exact gen_ok hF h
        · rename_i ha
          simp only [fNat_eq, stepP, hF.op] at h
          split at h
          · rename_i vs hx
            rw [nthK_eq] at h
            split at h
            · rename_i v hv
              exact ⟨v, by unfold evInert; rw [hop]; simp only [hs, hx, hf, evPart, ha]; exact hv, h⟩
            · cases h
          · cases h
        · exact gen_ok hF h
      · exact gen_ok hF h
    · exact gen_ok hF h
  · rename_i op t x y z hop
    split at h
    · split at h
      all_goals first
        | exact gen_ok hF h
        | (simp only [stepP, hF.op] at h
           obtain ⟨kd, a, b, v, e1, e2, e3, e4⟩ := binK_ok h
           have hb := bin_run (P := P) ⟨z, hop⟩ e1 e2 e3
           exact ⟨v, by unfold evInert; rw [hop]; exact evPlain2 (tmp_plain_bin ⟨z, hop⟩) e1 e2 rfl rfl hb.1 hb.2, e4⟩)
    · exact gen_ok hF h
  · rename_i t x hop
    simp only [stepP, hF.op] at h
    split at h
    · rename_i b hx
      rw [fBool_eq] at h
      refine ⟨_, ?_, h⟩
      unfold evInert; rw [hop]
      refine evPlain1 (x := x) (by rw [hop]; rfl) hx rfl ?_ rfl
      unfold execOp
      rw [hop]
      simp only [hx, runPure_bind', Op.unary, runPure_pure, Option.bind_some]
    · cases h
  · rename_i s t x hop
    split at h
    · rename_i ks kd hs ht
      simp only [stepP, hF.op] at h
      split at h
      · rename_i k0 n hx
        rw [fInt_eq, wrapI_eq] at h
        refine ⟨_, ?_, h⟩
        unfold evInert; rw [hop]
        refine evPlain1 (x := x) (by rw [hop]; rfl) hx rfl ?_ rfl
        unfold execOp
        rw [hop]
        simp only [hx, runPure_bind', convert, runPure_underlying hs, runPure_underlying ht, Conv.intToInt, runPure_pure, Option.bind_some]
      · cases h
    · exact gen_ok hF h
  · rename_i x t hop
    split at h
    · rename_i el ht
      simp only [stepP, hF.op] at h
      split at h
      · rename_i a n c hx
        exact ⟨_, by unfold evInert; rw [hop]; simp only [ht, hx]; rfl, h⟩
      · cases h
    · exact gen_ok hF h
  · rename_i x y ts hop
    simp only [stepP, hF.op] at h
    split at h
    · rename_i kx a hx
      split at h
      · rename_i ky b hy
        rw [ltI_eq] at h
        refine ⟨.int kx (if b > a then b else a), ?_, ?_⟩
        · unfold evInert; rw [hop]
          refine evPlain2 (x := x) (y := y) (by rw [hop]; rfl) hx hy rfl rfl ?_ rfl
          unfold execOp
          rw [hop]
          simp [resolve, invoke, builtin, Builtin.max_, Builtin.max2, hx, hy, runPure_pure]
        · replace h := cond_cases h
          rcases h with ⟨hb, h⟩ | ⟨hb, h⟩
          · rw [if_pos (by simpa using hb)]; exact h
          · rw [if_neg (by simpa using hb)]; exact h
      · cases h
    · cases h
  · rename_i x y ts hop
    simp only [stepP, hF.op] at h
    split at h
    · rename_i kx a hx
      split at h
      · rename_i ky b hy
        rw [ltI_eq] at h
        refine ⟨.int kx (if b < a then b else a), ?_, ?_⟩
        · unfold evInert; rw [hop]
          refine evPlain2 (x := x) (y := y) (by rw [hop]; rfl) hx hy rfl rfl ?_ rfl
          unfold execOp
          rw [hop]
          simp [resolve, invoke, builtin, Builtin.min_, Builtin.min2, hx, hy, runPure_pure]
        · replace h := cond_cases h
          rcases h with ⟨hb, h⟩ | ⟨hb, h⟩
          · rw [if_pos (by simpa using hb)]; exact h
          · rw [if_neg (by simpa using hb)]; exact h
      · cases h
    · cases h
  · rename_i x hop
    simp only [stepP, hF.op] at h
    split at h
    · rename_i a hx
      exact ⟨_, by unfold evInert; rw [hop]; simp only [hx], h⟩
    · cases h
  · exact gen_ok hF h
end
end Go.Am
