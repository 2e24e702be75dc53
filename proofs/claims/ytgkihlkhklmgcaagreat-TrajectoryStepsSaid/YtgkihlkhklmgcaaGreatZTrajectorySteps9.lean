/-
  Texts put together: FmC FmD FmE FmF.
-/
import Derived.Test.YtgkihlkhklmgcaaGreatZTrajectorySteps8
set_option linter.unusedVariables false
section
/-
  The fast machine's operations that write nothing: each answers as the plain machine's.
-/
namespace Go.Am

section
variable {P : Program}
end

section
variable {P : Program} {γ : Type} {tr : Tr} {fr : List Value} {H loc : Hp} {k : Value → Option γ} {r : γ} {o : Oper} {e : RP}

theorem gen_ok (hF : FR tr fr) (h : stepP P (.gen o) tr H loc none k = some r) : ∃ v, evInert P H o (evalO fr) = some v ∧ k v = some r := by
  simp only [stepP, hF.ev, fVal_eq] at h
  split at h
  · rename_i v hv; exact ⟨v, hv, h⟩
  · cases h

theorem evPlain2 {x y : Operand} {vx vy v : Value} (ho : o.op.operands.toList = [x, y]) (hx : evalO fr x = vx) (hy : evalO fr y = vy) (px : plainV vx = true) (py : plainV vy = true)
    (hr : runPure P (execOp (evalO fr) o) = some (.value v)) (pv : plainV v = true) : evPlain P o (evalO fr) = some v := by
  unfold evPlain
  simp only [ho, List.all_cons, List.all_nil, hx, hy, px, py, hr, pv, Bool.and_self, cond_true]
theorem evPlain1 {x : Operand} {vx v : Value} (ho : o.op.operands.toList = [x]) (hx : evalO fr x = vx) (px : plainV vx = true)
    (hr : runPure P (execOp (evalO fr) o) = some (.value v)) (pv : plainV v = true) : evPlain P o (evalO fr) = some v := by
  unfold evPlain
  simp only [ho, List.all_cons, List.all_nil, hx, px, hr, pv, Bool.and_self, cond_true]

/-- What a binary operation on two numbers of one kind answers. -/
def binV (op : BinOp) (kd : IntKind) (a b : Int) : Option Value :=
  match op with
  | .add => some (.int kd (kd.wrap (a + b)))
  | .sub => some (.int kd (kd.wrap (a - b)))
  | .mul => some (.int kd (kd.wrap (a * b)))
  | .lss => some (.bool (decide (a < b)))
  | .leq => some (.bool (decide (a ≤ b)))
  | .gtr => some (.bool (decide (b < a)))
  | .geq => some (.bool (decide (b ≤ a)))
  | .eql => some (.bool (a == b))
  | .neq => some (.bool (a != b))
  | .quo => if b = 0 then none else some (.int kd (kd.wrap (a.tdiv b)))
  | .rem => if b = 0 then none else some (.int kd (a.tmod b))
  | _ => none

theorem not_lt_dec (a b : Int) : (!decide (b < a)) = decide (a ≤ b) := by
  rw [Bool.eq_iff_iff]; simp

theorem nilCmp_int {op : BinOp} {t : TypeId} {x y : Value} {kd : IntKind} {a : Int} (h : x = .int kd a) : nilCmp P op t x y = none := by
  subst h; unfold nilCmp; split <;> first | rfl | (rename_i h; cases h) | simp_all

theorem binK_ok {op : BinOp} {x y : Value} (h : binK op x y none k = some r) : ∃ kd a b v, x = .int kd a ∧ y = .int kd b ∧ binV op kd a b = some v ∧ k v = some r := by
  unfold binK at h
  split at h
  · rename_i kx a
    split at h
    · rename_i ky b
      replace h := cond_cases h
      rcases h with ⟨hk, h⟩ | ⟨_, h⟩
      · have e := kN_eq hk
        subst e
        have e0 : (eqI b (Int.ofNat 0)) = decide (b = 0) := by rw [eqI_eq]; rw [Bool.eq_iff_iff]; simp
        split at h <;> try simp only [fInt_eq, fBool_eq, wrapI_eq, ltI_eq, eqI_eq, not_lt_dec] at h
        all_goals first
          | exact ⟨kx, a, b, _, rfl, rfl, rfl, h⟩
          | (rw [← eqI_eq, e0] at h
             rcases cond_cases h with ⟨_, h⟩ | ⟨hb, h⟩
             · cases h
             · have hb' : ¬ b = 0 := by simpa using hb
               refine ⟨kx, a, b, _, rfl, rfl, ?_, h⟩
               simp only [binV, if_neg hb'])
          | cases h
      · cases h
    · cases h
  · cases h

theorem bin_run {op : BinOp} {t : TypeId} {x y : Operand} {kd : IntKind} {a b : Int} {v : Value} (ho : ∃ z, o.op = .binOp op t x y z) (hx : evalO fr x = .int kd a) (hy : evalO fr y = .int kd b) (hv : binV op kd a b = some v) :
    runPure P (execOp (evalO fr) o) = some (.value v) ∧ plainV v = true := by
  obtain ⟨z, ho⟩ := ho
  unfold execOp
  rw [ho]
  simp only [hx, hy, runPure_bind']
  have hg : runPure P (eqGuard op t x y (.int kd a) (.int kd b)) = some () := by
    cases op <;> rfl
  rw [hg]
  unfold binV at hv
  split at hv
  all_goals first
    | (injection hv with hv; subst hv; refine ⟨?_, rfl⟩; simp [binOp, Op.intArith, Op.intCmp, runPure_pure])
    | (split at hv
       · cases hv
       · rename_i hb
         injection hv with hv; subst hv; refine ⟨?_, rfl⟩; simp [binOp, Op.intDiv, hb, runPure_pure])
    | cases hv

theorem tmp_plain_bin {op : BinOp} {t : TypeId} {x y : Operand} (ho : ∃ z, o.op = .binOp op t x y z) : o.op.operands.toList = [x, y] := by
  obtain ⟨z, ho⟩ := ho
  rw [ho]; rfl

theorem idxK_ok {a : Addr} {len : Nat} {i : Value} {sz : Nat} (h : idxK a len i sz none k = some r) : ∃ kd n, i = .int kd n ∧ (decide (0 ≤ n) && decide (n < (len : Int))) = true ∧ k (.pointer (some (addA a (n.toNat * sz)))) = some r := by
  unfold idxK at h
  split at h
  · rename_i kd n
    rcases cond_cases h with ⟨hn, h⟩ | ⟨_, h⟩
    · rw [fNat_eq] at h
      refine ⟨kd, .ofNat n, rfl, ?_, h⟩
      have hn' : n < len := by simpa using hn
      simp only [Int.ofNat_eq_natCast, Bool.and_eq_true, decide_eq_true_eq]
      omega
    · cases h
  · cases h

theorem stepP_ok (hF : FR tr fr) (h : stepP P (compP P o) tr H loc none k = some r) : ∃ v, evInert P H o (evalO fr) = some v ∧ k v = some r := by
  unfold compP at h
  split at h
  · rename_i x hop
    simp only [stepP, hF.op] at h
    exact ⟨_, by unfold evInert; rw [hop], h⟩
  · rename_i x hop
    simp only [stepP, hF.op] at h
    exact ⟨_, by unfold evInert; rw [hop], h⟩
  · rename_i c a b hop
    simp only [stepP, hF.op] at h
    split at h
    · rename_i t ht
      rcases cond_cases h with ⟨rfl, h⟩ | ⟨rfl, h⟩
      · exact ⟨_, by unfold evInert; rw [hop]; simp only [ht]; rfl, h⟩
      · exact ⟨_, by unfold evInert; rw [hop]; simp only [ht]; rfl, h⟩
    · cases h
  · rename_i x n hop
    simp only [stepP, hF.op] at h
    split at h
    · rename_i vs hx
      rw [nthK_eq] at h
      split at h
      · rename_i v hv
        exact ⟨v, by unfold evInert; rw [hop]; simp only [hx]; exact hv, h⟩
      · cases h
    · cases h
  · rename_i s x f hop
    split at h
    · rename_i fs hs
      split at h
      · rename_i fd hf
        cases hz : (P.cellsOf fd.type == 0) with
        | true => rw [hz] at h; exact gen_ok hF h
        | false =>
          rw [hz] at h
          simp only [cond_false] at h
          simp only [fNat_eq, stepP, hF.op] at h
          split at h
          · rename_i b o' s' hx
            exact ⟨_, by unfold evInert; rw [hop]; simp only [hs, hx, hf, hz, cond_false]; rfl, h⟩
          · cases h
      · exact gen_ok hF h
    · exact gen_ok hF h
  · rename_i t x i hop
    split at h
    · rename_i len elem ht
      split at h
      · rename_i ti hi
        simp only [fNat_eq, stepP, hF.op] at h
        split at h
        · rename_i a hx
          obtain ⟨kd, n, e1, e2, e3⟩ := idxK_ok h
          exact ⟨_, by unfold evInert; rw [hop]; simp only [evIndexAddr, ht, hx, e1, hi, e2, cond_true], e3⟩
        · cases h
      · exact gen_ok hF h
    · rename_i elem ht
      split at h
      · rename_i ti hi
        simp only [fNat_eq, stepP, hF.op] at h
        split at h
        · rename_i a len _ hx
          obtain ⟨kd, n, e1, e2, e3⟩ := idxK_ok h
          exact ⟨_, by unfold evInert; rw [hop]; simp only [evIndexAddr, ht, hx, e1, hi, e2, cond_true], e3⟩
        · cases h
      · exact gen_ok hF h
    · exact gen_ok hF h
  · rename_i t x f hop
    split at h
    · rename_i fs hs
      split at h
      · rename_i fd hf
        split at h
        · rename_i ha
          split at h
          · rename_i i hi
            simp only [fNat_eq, stepP, hF.op] at h
            split at h
            · rename_i vs hx
              rw [fSpine_eq] at h
              exact ⟨_, by unfold evInert; rw [hop]; simp only [hs, hx, hf, evPart, ha, hi], h⟩
            · cases h
          · exact gen_ok hF h
        · rename_i ha
          simp only [fNat_eq, stepP, hF.op] at h
          split at h
          · rename_i vs hx
            rw [nthK_eq] at h
            split at h
            · rename_i v hv
              exact ⟨v, by unfold evInert; rw [hop]; simp only [hs, hx, hf, evPart, ha]; exact hv, h⟩
            · cases h
          · cases h
        · exact gen_ok hF h
      · exact gen_ok hF h
    · exact gen_ok hF h
  · rename_i op t x y z hop
    split at h
    · split at h
      all_goals first
        | exact gen_ok hF h
        | (simp only [stepP, hF.op] at h
           obtain ⟨kd, a, b, v, e1, e2, e3, e4⟩ := binK_ok h
           have hb := bin_run (P := P) ⟨z, hop⟩ e1 e2 e3
           exact ⟨v, by unfold evInert; rw [hop]; simp only [nilCmp_int e1]; exact evPlain2 (tmp_plain_bin ⟨z, hop⟩) e1 e2 rfl rfl hb.1 hb.2, e4⟩)
    · exact gen_ok hF h
  · rename_i t x hop
    simp only [stepP, hF.op] at h
    split at h
    · rename_i b hx
      rw [fBool_eq] at h
      refine ⟨_, ?_, h⟩
      unfold evInert; rw [hop]
      refine evPlain1 (x := x) (by rw [hop]; rfl) hx rfl ?_ rfl
      unfold execOp
      rw [hop]
      simp only [hx, runPure_bind', Op.unary, runPure_pure, Option.bind_some]
    · cases h
  · rename_i s t x hop
    split at h
    · rename_i ks kd hs ht
      simp only [stepP, hF.op] at h
      split at h
      · rename_i k0 n hx
        rw [fInt_eq, wrapI_eq] at h
        refine ⟨_, ?_, h⟩
        unfold evInert; rw [hop]
        refine evPlain1 (x := x) (by rw [hop]; rfl) hx rfl ?_ rfl
        unfold execOp
        rw [hop]
        simp only [hx, runPure_bind', convert, runPure_underlying hs, runPure_underlying ht, Conv.intToInt, runPure_pure, Option.bind_some]
      · cases h
    · exact gen_ok hF h
  · rename_i x t hop
    split at h
    · rename_i el ht
      simp only [stepP, hF.op] at h
      split at h
      · rename_i a n c hx
        exact ⟨_, by unfold evInert; rw [hop]; simp only [ht, hx]; rfl, h⟩
      · cases h
    · exact gen_ok hF h
  · rename_i x y ts hop
    simp only [stepP, hF.op] at h
    split at h
    · rename_i kx a hx
      split at h
      · rename_i ky b hy
        rw [ltI_eq] at h
        refine ⟨.int kx (if b > a then b else a), ?_, ?_⟩
        · unfold evInert; rw [hop]
          refine evPlain2 (x := x) (y := y) (by rw [hop]; rfl) hx hy rfl rfl ?_ rfl
          unfold execOp
          rw [hop]
          simp [resolve, invoke, builtin, Builtin.max_, Builtin.max2, hx, hy, runPure_pure]
        · replace h := cond_cases h
          rcases h with ⟨hb, h⟩ | ⟨hb, h⟩
          · rw [if_pos (by simpa using hb)]; exact h
          · rw [if_neg (by simpa using hb)]; exact h
      · cases h
    · cases h
  · rename_i x y ts hop
    simp only [stepP, hF.op] at h
    split at h
    · rename_i kx a hx
      split at h
      · rename_i ky b hy
        rw [ltI_eq] at h
        refine ⟨.int kx (if b < a then b else a), ?_, ?_⟩
        · unfold evInert; rw [hop]
          refine evPlain2 (x := x) (y := y) (by rw [hop]; rfl) hx hy rfl rfl ?_ rfl
          unfold execOp
          rw [hop]
          simp [resolve, invoke, builtin, Builtin.min_, Builtin.min2, hx, hy, runPure_pure]
        · replace h := cond_cases h
          rcases h with ⟨hb, h⟩ | ⟨hb, h⟩
          · rw [if_pos (by simpa using hb)]; exact h
          · rw [if_neg (by simpa using hb)]; exact h
      · cases h
    · cases h
  · rename_i x hop
    simp only [stepP, hF.op] at h
    split at h
    · rename_i a hx
      exact ⟨_, by unfold evInert; rw [hop]; simp only [hx], h⟩
    · cases h
  · exact gen_ok hF h
end
end Go.Am
end

section
/-
  The fast machine's operations on memory: each answers as the plain machine's.
-/
namespace Go.Am

section
variable {γ : Type}
theorem snocK_go {α : Type} (x : α) : ∀ (l : List α) (n : Nat) (k : List α → Nat → γ),
    (List.rec (motive := fun _ => Nat → (List α → Nat → γ) → γ) (fun n k => fNat n fun n => k [x] n) (fun y _ ih n k => ih (n + 1) fun l n => k (y :: l) n) l n k) = k (l ++ [x]) (n + l.length)
  | [], n, k => fNat_eq n _
  | y :: l, n, k => by
    have := snocK_go x l (n + 1) (fun l n => k (y :: l) n)
    simp only [List.cons_append, List.length_cons]
    rw [show n + (l.length + 1) = n + 1 + l.length from by omega]
    exact this
theorem snocK_eq {α : Type} (l : List α) (x : α) (k : List α → Nat → γ) : snocK l x k = k (l ++ [x]) l.length := by
  have := snocK_go x l 0 k
  rw [Nat.zero_add] at this
  exact this
theorem setLK_ok {α : Type} (x : α) : ∀ (l : List α) (n : Nat) (k : List α → Option γ) (r : γ), setLK l n x none k = some r → n < l.length ∧ k (l.set n x) = some r
  | [], n, k, r, h => by cases h
  | y :: l, 0, k, r, h => ⟨by simp, h⟩
  | y :: l, n + 1, k, r, h => by
    have := setLK_ok x l n (fun l => k (y :: l)) r h
    exact ⟨by have := this.1; simp; omega, this.2⟩
theorem cellsK_eq (x : Value) (k : List Value → γ) : cellsK x k = k x.cells.toList := by
  cases x <;> rfl
end

theorem noLocB_more : ∀ (d : Nat) (v : Value), noLocB d v = true → noLocB (d + 1) v = true
  | 0, _, h => by cases h
  | d + 1, v, h => by
    unfold noLocB at h ⊢
    split at h
    · exact h
    · exact h
    · simp only [List.all_eq_true] at h ⊢; exact fun x hx => noLocB_more d x (h x hx)
    · simp only [List.all_eq_true] at h ⊢; exact fun x hx => noLocB_more d x (h x hx)
    · exact noLocB_more d _ h
    · simp only [Bool.and_eq_true, List.all_eq_true] at h ⊢; exact ⟨fun x hx => noLocB_more d x (h.1 x hx), fun x hx => noLocB_more d x (h.2 x hx)⟩
    · rfl
theorem nl1_5 {v : Value} (h : nl1 v = true) : noLocB 5 v = true := by
  unfold nl1 at h
  split at h <;> first | rfl | exact h
theorem nl1_ok {v : Value} (h : nl1 v = true) : noLoc v = true := noLocB_more 5 v (nl1_5 h)
theorem nls_5 : ∀ {l : List Value}, nls l = true → l.all (noLocB 5) = true
  | [], _ => rfl
  | v :: l, h => by
    have h' : (bif nl1 v then nls l else false) = true := h
    cases hv : nl1 v with
    | false => rw [hv] at h'; cases h'
    | true =>
      rw [hv] at h'
      simp only [List.all_cons, nl1_5 hv, nls_5 h', Bool.and_self]
theorem nls_all {l : List Value} (h : nls l = true) : l.all noLoc = true := by
  have := nls_5 h
  simp only [List.all_eq_true] at this ⊢
  exact fun x hx => noLocB_more 5 x (this x hx)
theorem nlF_ok {v : Value} (h : nlF v = true) : noLoc v = true := by
  unfold nlF at h
  split at h
  · exact nls_5 h
  · exact nls_5 h
  · exact nl1_ok h
theorem nlFs_ok : ∀ {l : List Value}, nlFs l = true → l.all noLoc = true
  | [], _ => rfl
  | v :: l, h => by
    have h' : (bif nlF v then nlFs l else false) = true := h
    cases hv : nlF v with
    | false => rw [hv] at h'; cases h'
    | true =>
      rw [hv] at h'
      simp only [List.all_cons, nlF_ok hv, nlFs_ok h', Bool.and_self]
theorem pl1_eq (v : Value) : pl1 v = plainB 3 v := by
  unfold pl1
  split <;> rfl
theorem pls_eq : ∀ (l : List Value), pls l = l.all (plainB 3)
  | [] => rfl
  | v :: l => by
    have h : pls (v :: l) = bif pl1 v then pls l else false := rfl
    rw [h, pl1_eq, pls_eq l]
    cases hv : plainB 3 v <;> simp [hv]
theorem plF_eq (v : Value) : plF v = plainV v := by
  unfold plF
  split
  · rename_i l; exact pls_eq l
  · rename_i l; exact pls_eq l
  · rfl
  · rfl
  · rfl

section
variable {P : Program} {X : Xt} {O : Orc} {esc : Nat → Bool} {γ : Type} {tr : Tr} {fr : List Value} {H loc : Hp} {r : γ} {o : Oper}

theorem read_one {cs : List Value} {off : Nat} {v : Value} (h : cs[off]? = some v) : (cs.drop off).take 1 = [v] ∧ off + 1 ≤ cs.length := by
  have hl : off < cs.length := by
    rcases Nat.lt_or_ge off cs.length with hlt | hge
    · exact hlt
    · rw [List.getElem?_eq_none hge] at h; cases h
  refine ⟨?_, hl⟩
  rw [List.drop_eq_getElem_cons hl]
  rw [List.getElem?_eq_getElem hl] at h
  injection h with h
  simp [h]

theorem cellK_ok {a : Addr} {k : Value → Option γ} (h : cellK H loc a none k = some r) : ∃ v, readCells H loc a 1 = some [v] ∧ k v = some r := by
  obtain ⟨b, o, s⟩ := a
  unfold cellK at h
  simp only at h
  split at h
  · rw [nthK_eq] at h
    split at h
    · rename_i blk hb
      obtain ⟨cs, t, e, lo, live⟩ := blk
      simp only at h
      replace h := cond_cases h
      rcases h with ⟨hl, h⟩ | ⟨_, h⟩
      · rw [nthK_eq] at h
        split at h
        · rename_i v hv
          obtain ⟨e1, e2⟩ := read_one hv
          subst hl
          refine ⟨v, ?_, h⟩
          simp only [readCells, hb, fSpine_eq, e1, decide_eq_true e2, Bool.and_self, cond_true]
        · cases h
      · cases h
    · cases h
  · rw [nthK_eq] at h
    split at h
    · rename_i blk hb
      obtain ⟨cs, t, e, lo, live⟩ := blk
      simp only at h
      replace h := cond_cases h
      rcases h with ⟨hl, h⟩ | ⟨_, h⟩
      · rw [nthK_eq] at h
        split at h
        · rename_i v hv
          obtain ⟨e1, e2⟩ := read_one hv
          subst hl
          refine ⟨v, ?_, h⟩
          simp only [readCells, hb, fSpine_eq, e1, decide_eq_true e2, Bool.and_self, cond_true]
        · cases h
      · cases h
    · cases h
  · cases h

theorem load_ok {k : Value → Option γ} {e : RP} (hF : FR tr fr) (hc : compL P o = some e) (h : stepP P e tr H loc none k = some r) :
    ∃ t x v, o.op = .load t x ∧ evLoad P H loc t (evalO fr x) = some v ∧ k v = some r := by
  unfold compL at hc
  split at hc
  · rename_i t x hop
    split at hc
    · rename_i ha
      split at hc
      · rename_i i hi
        rw [fNat_eq] at hc
        injection hc with hc; subst hc
        simp only [stepP, hF.op] at h
        split at h
        · rename_i a hx
          split at h
          · rename_i vs hvs
            exact ⟨t, x, _, hop, by simp only [evLoad, hx, ha, hi, hvs], h⟩
          · cases h
        · cases h
      · cases hc
    · rename_i ha
      injection hc with hc; subst hc
      simp only [stepP, hF.op] at h
      split at h
      · rename_i a hx
        obtain ⟨v, e1, e2⟩ := cellK_ok h
        exact ⟨t, x, v, hop, by simp only [evLoad, hx, ha, e1], e2⟩
      · cases h
    · cases hc
  · cases hc

theorem splice_one {cs : List Value} {off : Nat} {v : Value} (h : off < cs.length) : splice cs off [v] = cs.set off v := by
  rw [List.set_eq_take_append_cons_drop]
  simp [splice, h]

theorem wr1_ok {a : Addr} {v : Value} {k : Hp → Hp → List Nat → List Nat → Option γ} (h : wr1 H loc a v none k = some r) :
    ∃ H' loc' wg wl, v.oneCell' = true ∧ writeCells H loc a [v] = some (H', loc', wg, wl) ∧ k H' loc' wg wl = some r := by
  obtain ⟨b, o, s⟩ := a
  unfold wr1 at h
  simp only at h
  split at h
  · rw [nthK_eq] at h
    split at h
    · rename_i blk hb
      obtain ⟨cs, t, e, lo, live⟩ := blk
      simp only at h
      replace h := cond_cases h
      rcases h with ⟨hl, h⟩ | ⟨_, h⟩
      · subst hl
        replace h := cond_cases h
        rcases h with ⟨ho, h⟩ | ⟨_, h⟩
        · replace h := cond_cases h
          rcases h with ⟨hn, h⟩ | ⟨_, h⟩
          · obtain ⟨h1, h⟩ := setLK_ok _ _ _ _ _ h
            obtain ⟨h2, h⟩ := setLK_ok _ _ _ _ _ h
            refine ⟨_, _, _, _, ho, ?_, h⟩
            simp only [writeCells, hb, fSpine_eq, fSet_eq, splice_one h1, List.length_cons, List.length_nil, decide_eq_true (show o + (0 + 1) ≤ cs.length from h1), List.all_cons, List.all_nil, cellOk, ho, nl1_ok hn, Bool.and_self, cond_true]
          · cases h
        · cases h
      · cases h
    · cases h
  · rw [nthK_eq] at h
    split at h
    · rename_i blk hb
      obtain ⟨cs, t, e, lo, live⟩ := blk
      simp only at h
      replace h := cond_cases h
      rcases h with ⟨hl, h⟩ | ⟨_, h⟩
      · subst hl
        replace h := cond_cases h
        rcases h with ⟨ho, h⟩ | ⟨_, h⟩
        · obtain ⟨h1, h⟩ := setLK_ok _ _ _ _ _ h
          obtain ⟨h2, h⟩ := setLK_ok _ _ _ _ _ h
          refine ⟨_, _, _, _, ho, ?_, h⟩
          simp only [writeCells, hb, fSpine_eq, fSet_eq, splice_one h1, List.length_cons, List.length_nil, decide_eq_true (show o + (0 + 1) ≤ cs.length from h1), List.all_cons, List.all_nil, ho, Bool.and_self, cond_true]
        · cases h
      · cases h
    · cases h
  · cases h

theorem opsK_eq {k : List Value → γ} (hF : FR tr fr) : ∀ (xs : List Operand), opsK (xs.map compO) tr k = k (xs.map (evalO fr)) := by
  intro xs
  induction xs generalizing k with
  | nil => rfl
  | cons x xs ih =>
    show opK (compO x) tr (fun v => opsK (xs.map compO) tr fun l => k (v :: l)) = _
    rw [hF.op, ih]; rfl

theorem gmem_ok {k : Value → Hp → Hp → List Nat → List Nat → Option γ} (hF : FR tr fr) (h : stepM P X O esc (.gmem o) tr H loc none k = some r) :
    ∃ out, evOp P X O esc o (evalO fr) H loc = some out ∧ k out.v out.H out.loc out.wg out.wl = some r := by
  simp only [stepM, hF.ev, fVal_eq] at h
  split at h
  · rename_i out ho; exact ⟨out, ho, h⟩
  · cases h

theorem cond_t {α : Type} {c : Bool} {a b : α} (h : c = true) : cond c a b = a := by rw [h]; rfl
theorem cond_f {α : Type} {c : Bool} {a b : α} (h : c = false) : cond c a b = b := by rw [h]; rfl

theorem oneCell_cells {v : Value} (h : v.oneCell' = true) : v.cells = #[v] := by
  cases v <;> first | rfl | cases h

theorem stepM_ok {k : Value → Hp → Hp → List Nat → List Nat → Option γ} (hF : FR tr fr) (h : stepM P X O esc (compM P esc o) tr H loc none k = some r) :
    ∃ out, evOp P X O esc o (evalO fr) H loc = some out ∧ k out.v out.H out.loc out.wg out.wl = some r := by
  unfold compM at h
  split at h
  · rename_i t x v hop
    split at h
    · rename_i ha
      split at h
      · rename_i i hi
        simp only [fNat_eq, stepM, hF.op] at h
        split at h
        · rename_i a hx
          split at h
          · rename_i cs hv
            replace h := cond_cases h
            rcases h with ⟨hl, h⟩ | ⟨_, h⟩
            · have hl' : cs.length = i.size := Nat.eq_of_beq_eq_true hl
              split at h
              · rename_i H' loc' wg wl hw
                refine ⟨⟨undef, H', loc', wg, wl⟩, ?_, h⟩
                simp only [evOp, hop, kindOf, evEff, evStore, hx, hv, hi, Value.cells, List.size_toArray, hl', beq_self_eq_true, cond_true, hw]
              · cases h
            · cases h
          · cases h
        · cases h
      · exact gmem_ok hF h
    · rename_i ha
      split at h
      · rename_i i hi
        cases hz : Nat.beq i.size 1 with
        | false => rw [hz] at h; exact gmem_ok hF h
        | true =>
          rw [hz] at h
          have hz' : i.size = 1 := Nat.eq_of_beq_eq_true hz
          simp only [cond_true, stepM, hF.op] at h
          split at h
          · rename_i a hx
            obtain ⟨H', loc', wg, wl, e1, e2, e3⟩ := wr1_ok h
            refine ⟨⟨undef, H', loc', wg, wl⟩, ?_, e3⟩
            have : (evalO fr v).cells = #[evalO fr v] := oneCell_cells e1
            simp only [evOp, hop, kindOf, evEff, evStore, hx, hi, this, List.size_toArray, List.length_cons, List.length_nil, hz', Nat.zero_add, beq_self_eq_true, cond_true, e2]
          · cases h
      · exact gmem_ok hF h
    · exact gmem_ok hF h
  · rename_i elem x hop
    simp only [fBool_eq, stepM, hF.op, cellsK_eq, snocK_eq] at h
    replace h := cond_cases h
    rcases h with ⟨he, h⟩ | ⟨he, h⟩
    · replace h := cond_cases h
      rcases h with ⟨hn, h⟩ | ⟨_, h⟩
      · refine ⟨⟨_, _, _, _, _⟩, ?_, h⟩
        simp only [evOp, hop, kindOf, evAlloc, cond_true, nls_all hn, fVals_eq, fSpine_eq, nameV]; exact cond_t he
      · cases h
    · refine ⟨⟨_, _, _, _, _⟩, ?_, h⟩
      simp only [evOp, hop, kindOf, evAlloc, fVals_eq, fSpine_eq, nameV]; exact cond_f he
  · rename_i elem hop
    split at h
    · rename_i i hi
      split at h
      · rename_i z hz
        cases hp : (plainV z && z.cells.toList.all noLoc) with
        | false => rw [hp] at h; exact gmem_ok hF h
        | true =>
          rw [hp] at h
          simp only [Bool.and_eq_true] at hp
          simp only [cond_true, fBool_eq, fVals_eq, stepM, snocK_eq] at h
          replace h := cond_cases h
          rcases h with ⟨he, h⟩ | ⟨he, h⟩
          · refine ⟨⟨_, _, _, _, _⟩, ?_, h⟩
            simp only [evOp, hop, kindOf, evAlloc, hi, hz, hp.1, hp.2, cond_true, fVals_eq, fSpine_eq, nameV]; exact cond_t he
          · refine ⟨⟨_, _, _, _, _⟩, ?_, h⟩
            simp only [evOp, hop, kindOf, evAlloc, hi, hz, hp.1, cond_true, fVals_eq, fSpine_eq, nameV]; exact cond_f he
      · exact gmem_ok hF h
    · exact gmem_ok hF h
  · rename_i f as ts hop
    cases hb : hasBody P f with
    | false => rw [hb] at h; exact gmem_ok hF h
    | true =>
      rw [hb] at h
      simp only [cond_true, stepM, opsK_eq hF] at h
      replace h := cond_cases h
      rcases h with ⟨hn, h⟩ | ⟨_, h⟩
      · split at h
        · rename_i v H' md ho
          refine ⟨⟨v, H', loc, md, []⟩, ?_, h⟩
          simp only [evOp, hop, kindOf, evEff, evalO, evCall, hb, List.nil_append, List.append_nil, nlFs_ok hn, Bool.and_self, cond_true, ho]
        · cases h
      · cases h
  · exact gmem_ok hF h
end
end Go.Am
end

section
/-
  The fast machine: regions, code, bodies, calls. It answers as the plain machine does.
-/
namespace Go.Am

section
variable {P : Program} {X : Xt} {O : Orc} {esc : Nat → Bool} {γ : Type} {tr : Tr} {fr : List Value} {H loc : Hp} {r : γ} {o : Oper}

theorem want_eq {ops : List Oper} (hF : FR tr fr) {yes no : γ} : wantK (compG ops o) tr yes no = bif wantedA ops fr o then yes else no := by
  unfold compG wantedA
  cases o.guard with
  | none => rfl
  | some jw =>
    obtain ⟨j, want⟩ := jw
    simp only
    cases (ops[j]?).bind (·.dst) with
    | none => rfl
    | some t =>
      simp only [wantK, getK_eq, hF.tmp]
      by_cases ht : t < fr.length
      · have e : fr.getD t undef = fr[t] := by simp [List.getD, ht]
        rw [e, List.getElem?_eq_getElem ht]
        cases hv : fr[t] <;> simp
        rename_i b
        cases b <;> cases want <;> rfl
      · have e : fr.getD t undef = undef := by simp [List.getD, List.getElem?_eq_none (Nat.le_of_not_lt ht)]
        rw [e, List.getElem?_eq_none (Nat.le_of_not_lt ht)]
        rfl

/-- A compiled step that writes nothing. -/
def CP (P : Program) (o : Oper) (e : RP) : Prop := (kindOf o.op = .inert ∧ e = compP P o) ∨ (kindOf o.op = .load ∧ compL P o = some e)
def CM (P : Program) (esc : Nat → Bool) (o : Oper) (e : RM) : Prop := e = .gmem o ∨ ((kindOf o.op = .alloc ∨ kindOf o.op = .eff) ∧ e = compM P esc o)

theorem compS_cases (P : Program) (esc : Nat → Bool) (ops : List Oper) (o : Oper) : (∃ e, CP P o e ∧ compS P esc ops o = .p (o.dst.map paOf) (compG ops o) e) ∨ (∃ e, CM P esc o e ∧ compS P esc ops o = .m (o.dst.map paOf) (compG ops o) e) := by
  unfold compS
  split
  · rename_i hk; exact .inl ⟨_, .inl ⟨hk, rfl⟩, rfl⟩
  · rename_i hk
    split
    · rename_i e he; exact .inl ⟨e, .inr ⟨hk, he⟩, rfl⟩
    · exact .inr ⟨_, .inl rfl, rfl⟩
  all_goals rename_i hk
  all_goals first | exact .inr ⟨_, .inr ⟨.inl hk, rfl⟩, rfl⟩ | exact .inr ⟨_, .inr ⟨.inr hk, rfl⟩, rfl⟩ | exact .inr ⟨_, .inl rfl, rfl⟩

theorem CP.ok {e : RP} {k : Value → Option γ} (hc : CP P o e) (hF : FR tr fr) (h : stepP P e tr H loc none k = some r) : ∃ v, evOp P X O esc o (evalO fr) H loc = some ⟨v, H, loc, [], []⟩ ∧ k v = some r := by
  rcases hc with ⟨hk, rfl⟩ | ⟨hk, hc⟩
  · obtain ⟨v, e1, e2⟩ := stepP_ok hF h
    exact ⟨v, by simp only [evOp, hk, e1], e2⟩
  · obtain ⟨t, x, v, e0, e1, e2⟩ := load_ok hF hc h
    exact ⟨v, by simp only [evOp, hk]; rw [e0]; simp only [e1], e2⟩
theorem CM.ok {e : RM} {k : Value → Hp → Hp → List Nat → List Nat → Option γ} (hc : CM P esc o e) (hF : FR tr fr) (h : stepM P X O esc e tr H loc none k = some r) :
    ∃ out, evOp P X O esc o (evalO fr) H loc = some out ∧ k out.v out.H out.loc out.wg out.wl = some r := by
  rcases hc with rfl | ⟨_, rfl⟩
  · exact gmem_ok hF h
  · exact stepM_ok hF h

theorem reads_inert (hk : kindOf o.op ≠ .load) (ρ : Operand → Value) : readsOf o ρ = ([], []) := by
  unfold readsOf
  split
  · rename_i t x hop; rw [hop] at hk; exact absurd rfl hk
  · rfl

def isLd : RP → Bool
  | .ld1 _ => true
  | .ldA _ _ => true
  | _ => false
theorem isLd_cond {c : Bool} {a b : RP} (ha : isLd a = false) (hb : isLd b = false) : isLd (bif c then a else b) = false := by
  cases c
  · exact hb
  · exact ha
theorem isLd_compP (P : Program) (o : Oper) : isLd (compP P o) = false := by
  unfold compP
  simp only [fNat_eq]
  repeat' split
  all_goals first | rfl | exact isLd_cond rfl rfl
theorem rdsP_noLd {e : RP} (h : isLd e = false) (k : List Nat → List Nat → γ) : rdsP e tr k = k [] [] := by
  cases e <;> first | rfl | cases h

theorem ptr_reads (v : Value) (k : List Nat → List Nat → γ) : (match v with
    | .pointer (some ⟨b, _, none⟩) => k [b] []
    | .pointer (some ⟨b, _, some _⟩) => k [] [b]
    | _ => k [] []) = k (match v with
    | .pointer (some ⟨b, _, none⟩) => ([b], [])
    | .pointer (some ⟨b, _, some _⟩) => ([], [b])
    | _ => (([], []) : List Nat × List Nat)).1 (match v with
    | .pointer (some ⟨b, _, none⟩) => ([b], [])
    | .pointer (some ⟨b, _, some _⟩) => ([], [b])
    | _ => (([], []) : List Nat × List Nat)).2 := by
  split <;> rfl

theorem CP.reads {e : RP} (hc : CP P o e) (hF : FR tr fr) (k : List Nat → List Nat → γ) : rdsP e tr k = k (readsOf o (evalO fr)).1 (readsOf o (evalO fr)).2 := by
  rcases hc with ⟨hk, rfl⟩ | ⟨hk, hc⟩
  · rw [reads_inert (by rw [hk]; intro h; cases h), rdsP_noLd (isLd_compP P o)]
  · unfold compL at hc
    split at hc
    · rename_i t x hop
      have hr : readsOf o (evalO fr) = match evalO fr x with
        | .pointer (some ⟨b, _, none⟩) => ([b], [])
        | .pointer (some ⟨b, _, some _⟩) => ([], [b])
        | _ => ([], []) := by simp only [readsOf, hop]; rfl
      rw [hr]
      split at hc
      · split at hc
        · rw [fNat_eq] at hc
          injection hc with hc; subst hc
          simp only [rdsP, hF.op]
          exact ptr_reads _ k
        · cases hc
      · injection hc with hc; subst hc
        simp only [rdsP, hF.op]
        exact ptr_reads _ k
      · cases hc
    · cases hc
def isG (o : Oper) : RM → Prop
  | .gmem o' => o' = o
  | _ => True
theorem isG_cond {c : Bool} {a b : RM} (ha : isG o a) (hb : isG o b) : isG o (bif c then a else b) := by
  cases c
  · exact hb
  · exact ha
theorem isG_compM (P : Program) (esc : Nat → Bool) (o : Oper) : isG o (compM P esc o) := by
  unfold compM
  simp only [fNat_eq, fBool_eq, fVals_eq]
  repeat' split
  all_goals first | exact rfl | exact trivial | exact isG_cond trivial rfl
theorem CM.reads {e : RM} (hc : CM P esc o e) (hF : FR tr fr) (k : List Nat → List Nat → γ) : rdsM e tr k = k (readsOf o (evalO fr)).1 (readsOf o (evalO fr)).2 := by
  rcases hc with rfl | ⟨hk, rfl⟩
  · simp only [rdsM, hF.ev]
  · have h0 : readsOf o (evalO fr) = ([], []) := reads_inert (by rcases hk with hk | hk <;> rw [hk] <;> intro h <;> cases h) _
    have hg := isG_compM P esc o
    generalize compM P esc o = e at hg
    cases e with
    | gmem o' => have hg' : o' = o := hg; subst hg'; simp only [rdsM, hF.ev]
    | _ => rw [h0]; rfl

/-- The two machines' states. -/
structure FS (nt : Nat) (fs : FSt) (s : St) : Prop where
  fr : FR fs.tr s.fr
  len : nt ≤ s.fr.length
  h : fs.H = s.H
  loc : fs.loc = s.loc
  wg : fs.wg = s.wg

theorem put_len (fr : List Value) (d : Option Tmp) (v : Value) : (putF fr d v).length = fr.length := by
  cases d <;> simp [putF]

def dstOk (nt : Nat) (o : Oper) : Prop := ∀ d, o.dst = some d → d < nt

/-- One step, with its footprint. -/
theorem step_ok {nt : Nat} {ops : List Oper} {wg : List Nat} {K : Tr → Hp → Hp → List Nat → Fp → Option γ} (hF : FR tr fr) (hl : nt ≤ fr.length) (hd : dstOk nt o)
    (h : (match compS P esc ops o with
      | .p d g e => wantK g tr (stepP P e tr H loc none fun v => rdsP e tr fun rg rl => putK d v tr fun tr => K tr H loc wg ⟨rg, rl, [], [], boundB H.length loc.length 6 v⟩) (putK d undef tr fun tr => K tr H loc wg ⟨[], [], [], [], true⟩)
      | .m d g e => wantK g tr (stepM P X O esc e tr H loc none fun v H' loc' w wl => rdsM e tr fun rg rl => putK d v tr fun tr => fSpine (wg ++ w) fun wg => K tr H' loc' wg ⟨rg, rl, w, wl, boundB H.length loc.length 6 v⟩) (putK d undef tr fun tr => K tr H loc wg ⟨[], [], [], [], true⟩)) = some r) :
    ∃ s' fp tr', stepTr P X O esc ops o ⟨fr, H, loc, wg⟩ = some (s', fp) ∧ FR tr' s'.fr ∧ nt ≤ s'.fr.length ∧ K tr' s'.H s'.loc s'.wg fp = some r := by
  have hd' : ∀ d, o.dst = some d → d < fr.length := fun d e => Nat.lt_of_lt_of_le (hd d e) hl
  have hno : putK (o.dst.map paOf) undef tr (fun tr => K tr H loc wg ⟨[], [], [], [], true⟩) = some r → wantedA ops fr o = false → ∃ s' fp tr', stepTr P X O esc ops o ⟨fr, H, loc, wg⟩ = some (s', fp) ∧ FR tr' s'.fr ∧ nt ≤ s'.fr.length ∧ K tr' s'.H s'.loc s'.wg fp = some r := by
    intro h hw
    obtain ⟨tr', e1, e2⟩ := hF.put (β := Option γ) o.dst undef hd'
    rw [e2] at h
    exact ⟨⟨putF fr o.dst undef, H, loc, wg⟩, ⟨[], [], [], [], true⟩, tr', by simp only [stepTr, hw, cond_false], e1, by rw [put_len]; exact hl, h⟩
  rcases compS_cases P esc ops o with ⟨e, hc, he⟩ | ⟨e, hc, he⟩
  · rw [he] at h
    simp only [want_eq hF] at h
    replace h := cond_cases h
    rcases h with ⟨hw, h⟩ | ⟨hw, h⟩
    · obtain ⟨v, e1, e2⟩ := hc.ok (X := X) (O := O) (esc := esc) hF h
      rw [hc.reads hF] at e2
      obtain ⟨tr', e3, e4⟩ := hF.put (β := Option γ) o.dst v hd'
      rw [e4] at e2
      exact ⟨⟨putF fr o.dst v, H, loc, wg ++ []⟩, ⟨(readsOf o (evalO fr)).1, (readsOf o (evalO fr)).2, [], [], boundB H.length loc.length 6 v⟩, tr', by simp only [stepTr, hw, cond_true, e1], e3, by rw [put_len]; exact hl, by rw [List.append_nil]; exact e2⟩
    · exact hno h hw
  · rw [he] at h
    simp only [want_eq hF] at h
    replace h := cond_cases h
    rcases h with ⟨hw, h⟩ | ⟨hw, h⟩
    · obtain ⟨out, e1, e2⟩ := hc.ok hF h
      simp only [hc.reads hF] at e2
      obtain ⟨tr', e3, e4⟩ := hF.put (β := Option γ) o.dst out.v hd'
      rw [e4, fSpine_eq] at e2
      exact ⟨⟨putF fr o.dst out.v, out.H, out.loc, wg ++ out.wg⟩, ⟨(readsOf o (evalO fr)).1, (readsOf o (evalO fr)).2, out.wg, out.wl, boundB H.length loc.length 6 out.v⟩, tr', by simp only [stepTr, hw, cond_true, e1], e3, by rw [put_len]; exact hl, e2⟩
    · exact hno h hw

theorem stepO_of {ops : List Oper} {s s' : St} {fp : Fp} (h : stepTr P X O esc ops o s = some (s', fp)) : stepO P X O esc ops o s = some s' := by
  unfold stepTr at h
  unfold stepO
  simp only [fVal_eq, fPut_eq, fSpine_eq]
  replace h := cond_cases h
  rcases h with ⟨hw, h⟩ | ⟨hw, h⟩
  · rw [hw]
    split at h
    · rename_i out ho
      injection h with h
      injection h with h1 h2
      simp only [cond_true, ho, h1]
    · cases h
  · rw [hw]
    injection h with h
    injection h with h1 h2
    simp only [cond_false, h1]
theorem seq_of_trace {ops : List Oper} : ∀ {l : List Oper} {s s' : St} {fps : List Fp}, traceOps P X O esc ops l s = some (s', fps) → seqOps P X O esc ops l s = some s'
  | [], s, s', fps, h => by
    simp only [traceOps, Option.some.injEq, Prod.mk.injEq] at h
    simp only [seqOps, h.1]
  | o :: l, s, s', fps, h => by
    unfold traceOps at h
    split at h
    · rename_i s1 f h1
      split at h
      · rename_i s2 fps2 h2
        simp only [Option.some.injEq, Prod.mk.injEq] at h
        have := seq_of_trace h2
        simp only [seqOps, stepO_of h1, this, h.1]
      · cases h
    · cases h

theorem fseq_ok {nt : Nat} {ops : List Oper} : ∀ (l : List Oper) {tr : Tr} {fr : List Value} {H loc : Hp} {wg : List Nat} {x : Ex} {fs : FSt}, FR tr fr → nt ≤ fr.length → (∀ o ∈ l, dstOk nt o) →
    fseq P X O esc (l.map (compS P esc ops)) tr H loc wg = some (x, fs) → ∃ s' fps, traceOps P X O esc ops l ⟨fr, H, loc, wg⟩ = some (s', fps) ∧ x = .normal ∧ FS nt fs s'
  | [], tr, fr, H, loc, wg, x, fs, hF, hl, _, h => by
    have h' : some (Ex.normal, (⟨tr, H, loc, wg⟩ : FSt)) = some (x, fs) := h
    injection h' with h'; injection h' with h1 h2
    subst h1 h2
    exact ⟨_, _, rfl, rfl, ⟨hF, hl, rfl, rfl, rfl⟩⟩
  | o :: l, tr, fr, H, loc, wg, x, fs, hF, hl, hd, h => by
    have h' : (match compS P esc ops o with
      | .p d g e => wantK g tr (stepP P e tr H loc none fun v => rdsP e tr fun _ _ => putK d v tr fun tr => fseq P X O esc (l.map (compS P esc ops)) tr H loc wg) (putK d undef tr fun tr => fseq P X O esc (l.map (compS P esc ops)) tr H loc wg)
      | .m d g e => wantK g tr (stepM P X O esc e tr H loc none fun v H' loc' w _ => rdsM e tr fun _ _ => putK d v tr fun tr => fSpine (wg ++ w) fun wg => fseq P X O esc (l.map (compS P esc ops)) tr H' loc' wg) (putK d undef tr fun tr => fseq P X O esc (l.map (compS P esc ops)) tr H loc wg)) = some (x, fs) := by
      refine Eq.trans ?_ h
      show _ = (match compS P esc ops o with
        | .p d g e => wantK g tr (stepP P e tr H loc none fun v => putK d v tr fun tr => fseq P X O esc (l.map (compS P esc ops)) tr H loc wg) (putK d undef tr fun tr => fseq P X O esc (l.map (compS P esc ops)) tr H loc wg)
        | .m d g e => wantK g tr (stepM P X O esc e tr H loc none fun v H' loc' w _ => putK d v tr fun tr => fSpine (wg ++ w) fun wg => fseq P X O esc (l.map (compS P esc ops)) tr H' loc' wg) (putK d undef tr fun tr => fseq P X O esc (l.map (compS P esc ops)) tr H loc wg))
      rcases compS_cases P esc ops o with ⟨e, hc, he⟩ | ⟨e, hc, he⟩
      · rw [he]; simp only [hc.reads hF]
      · rw [he]; simp only [hc.reads hF]
    obtain ⟨s1, fp, tr', e1, e2, e3, e4⟩ := step_ok (K := fun tr H loc wg _ => fseq P X O esc (l.map (compS P esc ops)) tr H loc wg) hF hl (hd o (by simp)) h'
    obtain ⟨s2, fps, e5, e6, e7⟩ := fseq_ok l e2 e3 (fun o ho => hd o (by simp [ho])) e4
    exact ⟨s2, fp :: fps, by simp only [traceOps, e1]; rw [show (⟨s1.fr, s1.H, s1.loc, s1.wg⟩ : St) = s1 from rfl] at e5; rw [e5], e6, e7⟩

theorem ftr_ok {nt : Nat} {ops : List Oper} {k : FSt → List Fp → Option (Ex × FSt)} {r : Ex × FSt} : ∀ (l : List Oper) {tr : Tr} {fr : List Value} {H loc : Hp} {wg : List Nat} {fps0 : List Fp}, FR tr fr → nt ≤ fr.length → (∀ o ∈ l, dstOk nt o) →
    ftr P X O esc (l.map (compS P esc ops)) tr H loc wg fps0 k = some r → ∃ s' fps fs, traceOps P X O esc ops l ⟨fr, H, loc, wg⟩ = some (s', fps) ∧ FS nt fs s' ∧ k fs (fps.reverse ++ fps0) = some r
  | [], tr, fr, H, loc, wg, fps0, hF, hl, _, h => by
    have h' : k ⟨tr, H, loc, wg⟩ fps0 = some r := h
    exact ⟨_, _, ⟨tr, H, loc, wg⟩, rfl, ⟨hF, hl, rfl, rfl, rfl⟩, h'⟩
  | o :: l, tr, fr, H, loc, wg, fps0, hF, hl, hd, h => by
    obtain ⟨s1, fp, tr', e1, e2, e3, e4⟩ := step_ok (K := fun tr H loc wg fp => ftr P X O esc (l.map (compS P esc ops)) tr H loc wg (fp :: fps0) k) hF hl (hd o (by simp)) h
    obtain ⟨s2, fps, fs, e5, e6, e7⟩ := ftr_ok l e2 e3 (fun o ho => hd o (by simp [ho])) e4
    exact ⟨s2, fp :: fps, fs, by simp only [traceOps, e1]; rw [show (⟨s1.fr, s1.H, s1.loc, s1.wg⟩ : St) = s1 from rfl] at e5; rw [e5], e6, by simpa using e7⟩
end
end Go.Am
end

section
/-
  The fast machine: code, bodies, calls. What it answers the plain machine answers too.
-/
namespace Go.Am

section
variable {P : Program} {X : Xt} {O : Orc} {esc : Nat → Bool} {fuel : Nat}

theorem dsts_ok {nt : Nat} {ops : List Oper} (h : dstsOk nt ops = true) : ∀ o ∈ ops, dstOk nt o := by
  intro o ho d hd
  have := List.all_eq_true.1 h o ho
  rw [hd] at this
  simpa using this

theorem flook_ok {nt : Nat} {ops : List Oper} {tr : Tr} {fr : List Value} {H loc : Hp} {wg : List Nat} (hF : FR tr fr) (hl : nt ≤ fr.length) (hd : ∀ o ∈ ops, dstOk nt o) {q : Nat × Nat × Oper} (h : flook P X O esc (ops.map (compS P esc ops)) tr H loc wg q = true) : lookAt P X O esc ops ⟨fr, H, loc, wg⟩ q = true := by
  unfold flook at h
  split at h
  · rename_i r hr
    rw [← List.map_take] at hr
    obtain ⟨s1, f1, fs1, e1, g1, h1⟩ := ftr_ok (ops.take q.1) hF hl (fun o ho => hd o (List.mem_of_mem_take ho)) hr
    rw [← List.map_take] at h1
    obtain ⟨s2, f2, fs2, e2, g2, h2⟩ := ftr_ok (ops.take (q.2.1 + 1)) hF hl (fun o ho => hd o (List.mem_of_mem_take ho)) h1
    replace h2 := cond_cases h2
    rcases h2 with ⟨h2, _⟩ | ⟨_, h2⟩
    · rw [g1.h, g2.h, g1.fr.ev] at h2
      simp only [lookAt, e1, e2]
      exact h2
    · cases h2
  · cases h

theorem fexec_ok {nt : Nat} : ∀ (c : Code) {fs fs' : FSt} {s : St} {x : Ex}, FS nt fs s → fexec P X O esc fuel (compC P esc nt c) fs = some (x, fs') → ∃ s', exec P X O esc fuel c s = some (x, s') ∧ FS nt fs' s' := by
  intro c
  induction c with
  | skip =>
    intro fs fs' s x hS h
    have h' : some (Ex.normal, fs) = some (x, fs') := h
    injection h' with h'; injection h' with h1 h2
    subst h1 h2
    exact ⟨s, rfl, hS⟩
  | region id ops draw =>
    intro fs fs' s x hS h
    obtain ⟨tr, H, loc, wg⟩ := fs
    obtain ⟨fr, H0, loc0, wg0⟩ := s
    obtain ⟨hF, hl, e1, e2, e3⟩ := hS
    simp only at hF hl e1 e2 e3
    subst e1 e2 e3
    have h : fexec P X O esc fuel (compR P esc nt ops.toList draw) ⟨tr, H, loc, wg⟩ = some (x, fs') := h
    unfold compR at h
    cases hc : (constsOk ops.toList && dstsOk nt ops.toList) with
    | false => rw [hc] at h; cases h
    | true =>
      rw [hc] at h
      simp only [cond_true] at h
      simp only [Bool.and_eq_true] at hc
      cases draw with
      | false =>
        simp only [cond_false] at h
        obtain ⟨s', fps, e1, rfl, e3⟩ := fseq_ok ops.toList hF hl (dsts_ok hc.2) h
        refine ⟨s', ?_, e3⟩
        simp only [exec, hc.1, cond_true, cond_false, seq_of_trace e1]
      | true =>
        simp only [cond_true] at h
        cases hst : staticOk ops.toList with
        | false => rw [hst] at h; cases h
        | true =>
          rw [hst] at h
          simp only [cond_true] at h
          revert h
          generalize hcf : confOf ops.toList = conf
          generalize hlf : lkOf ops.toList = lks
          intro h
          have h' : (conf = [] ∧ lks = [] ∧ fexec P X O esc fuel (.reg (ops.toList.map (compS P esc ops.toList))) ⟨tr, H, loc, wg⟩ = some (x, fs')) ∨ fexec P X O esc fuel (.drw (ops.toList.map (compS P esc ops.toList)) conf lks) ⟨tr, H, loc, wg⟩ = some (x, fs') := by
            cases conf with
            | nil => cases lks with
              | nil => exact .inl ⟨rfl, rfl, h⟩
              | cons _ _ => exact .inr h
            | cons _ _ => exact .inr (by cases lks <;> exact h)
          clear h
          rcases h' with ⟨rfl, rfl, h⟩ | h
          · obtain ⟨s', fps, e1, rfl, e3⟩ := fseq_ok ops.toList hF hl (dsts_ok hc.2) h
            refine ⟨s', ?_, e3⟩
            simp only [exec, hc.1, cond_true, drawOps, hst, e1, hcf, hlf, dynOk, List.all_nil, Bool.and_self]
          · have h : (bif lks.all (flook P X O esc (ops.toList.map (compS P esc ops.toList)) tr H loc wg) then ftr P X O esc (ops.toList.map (compS P esc ops.toList)) tr H loc wg [] (fun s fps => bif dynOk conf fps.reverse then some (.normal, s) else none) else none) = some (x, fs') := h
            replace h := cond_cases h
            rcases h with ⟨hlk, h⟩ | ⟨_, h⟩
            · obtain ⟨s', fps, fs1, e1, e2, e3⟩ := ftr_ok ops.toList (k := fun s fps => bif dynOk conf fps.reverse then some (.normal, s) else none) hF hl (dsts_ok hc.2) h
              simp only [List.append_nil, List.reverse_reverse] at e3
              replace e3 := cond_cases e3
              rcases e3 with ⟨hdy, e3⟩ | ⟨_, e3⟩
              · injection e3 with e3; injection e3 with h1 h2
                subst h1 h2
                have hlk' : lks.all (lookAt P X O esc ops.toList ⟨fr, H, loc, wg⟩) = true := by
                  rw [List.all_eq_true] at hlk ⊢
                  exact fun q hq => flook_ok hF hl (dsts_ok hc.2) (hlk q hq)
                refine ⟨s', ?_, e2⟩
                simp only [exec, hc.1, cond_true, drawOps, hst, e1, hcf, hlf, hdy, hlk', Bool.and_self]
              · cases e3
            · cases h
  | seq a b iha ihb =>
    intro fs fs' s x hS h
    have h : (match fexec P X O esc fuel (compC P esc nt a) fs with
      | some (.normal, s') => fexec P X O esc fuel (compC P esc nt b) s'
      | r => r) = some (x, fs') := h
    split at h
    · rename_i fs1 h1
      obtain ⟨s1, e1, e2⟩ := iha hS h1
      obtain ⟨s2, e3, e4⟩ := ihb e2 h
      exact ⟨s2, by simp only [exec, e1, e3], e4⟩
    · rename_i hne
      obtain ⟨s1, e1, e2⟩ := iha hS h
      refine ⟨s1, ?_, e2⟩
      cases x with
      | normal => exact absurd h (hne fs')
      | exit i => simp only [exec, e1]
      | ret => simp only [exec, e1]
  | cond c a b iha ihb =>
    intro fs fs' s x hS h
    have h : (opK (compO c) fs.tr fun v => match v with
      | .bool b' => bif b' then fexec P X O esc fuel (compC P esc nt a) fs else fexec P X O esc fuel (compC P esc nt b) fs
      | _ => none) = some (x, fs') := h
    rw [hS.fr.op] at h
    split at h
    · rename_i t ht
      replace h := cond_cases h
      rcases h with ⟨rfl, h⟩ | ⟨rfl, h⟩
      · obtain ⟨s1, e1, e2⟩ := iha hS h
        exact ⟨s1, by simp only [exec, ht, e1, cond_true], e2⟩
      · obtain ⟨s1, e1, e2⟩ := ihb hS h
        exact ⟨s1, by simp only [exec, ht, e1, cond_false], e2⟩
    · cases h
  | block id a ih =>
    intro fs fs' s x hS h
    have h : (match fexec P X O esc fuel (compC P esc nt a) fs with
      | some (.exit i, s') => bif Nat.beq i id then some (.normal, s') else some (.exit i, s')
      | r => r) = some (x, fs') := h
    split at h
    · rename_i i fs1 h1
      obtain ⟨s1, e1, e2⟩ := ih hS h1
      replace h := cond_cases h
      rcases h with ⟨hb, h⟩ | ⟨hb, h⟩
      · injection h with h; injection h with h2 h3
        subst h2 h3
        have : (i == id) = true := beq_iff_eq.2 (Nat.eq_of_beq_eq_true hb)
        exact ⟨s1, by simp only [exec, e1, this, cond_true], e2⟩
      · injection h with h; injection h with h2 h3
        subst h2 h3
        have : (i == id) = false := by
          rw [beq_eq_false_iff_ne]; intro e; subst e; rw [Nat.beq_refl] at hb; cases hb
        exact ⟨s1, by simp only [exec, e1, this, cond_false], e2⟩
    · rename_i hne
      obtain ⟨s1, e1, e2⟩ := ih hS h
      refine ⟨s1, ?_, e2⟩
      cases x with
      | normal => simp only [exec, e1]
      | exit i => exact absurd h (hne i fs')
      | ret => simp only [exec, e1]
  | loop a ih =>
    intro fs fs' s x hS h
    have h : floop (fexec P X O esc fuel (compC P esc nt a)) fuel fs = some (x, fs') := h
    have key : ∀ (n : Nat) (fs : FSt) (s : St), FS nt fs s → floop (fexec P X O esc fuel (compC P esc nt a)) n fs = some (x, fs') → ∃ s', loopN (exec P X O esc fuel a) n s = some (x, s') ∧ FS nt fs' s' := by
      intro n
      induction n with
      | zero => intro fs s _ h; cases h
      | succ n ihn =>
        intro fs s hS h
        have h : (match fexec P X O esc fuel (compC P esc nt a) fs with
          | some (.normal, s') => floop (fexec P X O esc fuel (compC P esc nt a)) n s'
          | r => r) = some (x, fs') := h
        split at h
        · rename_i fs1 h1
          obtain ⟨s1, e1, e2⟩ := ih hS h1
          obtain ⟨s2, e3, e4⟩ := ihn fs1 s1 e2 h
          exact ⟨s2, by simp only [loopN, e1, e3], e4⟩
        · rename_i hne
          obtain ⟨s1, e1, e2⟩ := ih hS h
          refine ⟨s1, ?_, e2⟩
          cases x with
          | normal => exact absurd h (hne fs')
          | exit i => simp only [loopN, e1]
          | ret => simp only [loopN, e1]
    obtain ⟨s1, e1, e2⟩ := key fuel fs s hS h
    exact ⟨s1, by unfold exec; exact e1, e2⟩
  | exit id =>
    intro fs fs' s x hS h
    have h' : some (Ex.exit id, fs) = some (x, fs') := h
    injection h' with h'; injection h' with h1 h2
    subst h1 h2
    exact ⟨s, rfl, hS⟩
  | ret =>
    intro fs fs' s x hS h
    have h' : some (Ex.ret, fs) = some (x, fs') := h
    injection h' with h'; injection h' with h1 h2
    subst h1 h2
    exact ⟨s, rfl, hS⟩
  | rangeFunc f ps as b iha ihb => intro fs fs' s x hS h; cases h
  | scope c ih => intro fs fs' s x hS h; cases h
  | label l => intro fs fs' s x hS h; cases h
  | goto l => intro fs fs' s x hS h; cases h
  | refuse y => intro fs fs' s x hS h; cases h

theorem fres_ok {nt : Nat} {fs : FSt} {s : St} (hS : FS nt fs s) : ∀ (l : List ResultVar), fres P fs l = resultsA P s l
  | [] => rfl
  | .tmp t :: rest => by
    simp only [fres, resultsA, fres_ok hS rest, getK_eq, hS.fr.tmp]
    cases resultsA P s rest <;> rfl
  | .cell a t :: rest => by
    have : getK (paOf a) fs.tr id = s.fr.getD a undef := hS.fr.tmp a
    simp only [fres, resultsA, fres_ok hS rest, this, hS.h, hS.loc, fVal_eq]
    cases evLoad P s.H s.loc t (s.fr.getD a undef) <;> cases resultsA P s rest <;> rfl

theorem ffin_ok {nt : Nat} {fs : FSt} {s : St} (hS : FS nt fs s) {H : Hp} {v : Value} {r : Value × Hp × List Nat} (h : ffin H fs v = some r) : finish H s v = some r := by
  unfold ffin at h
  unfold finish
  rw [hS.wg, hS.h, plF_eq] at h
  replace h := cond_cases h
  rcases h with ⟨hn, h⟩ | ⟨_, h⟩
  · rw [nlF_ok hn]; exact h
  · cases h

theorem argTr_ok : ∀ (args : List Value) (n : Nat) (tr : Tr), ∃ tr', (∀ k, argTr args n tr k = k tr') ∧ ∀ p, getT p tr' = if n ≤ toN p ∧ toN p < n + args.length then args.getD (toN p - n) undef else getT p tr
  | [], n, tr => ⟨tr, fun _ => rfl, fun p => by rw [if_neg (by simp)]⟩
  | v :: args, n, tr => by
    obtain ⟨tr', e1, e2⟩ := argTr_ok args (n + 1) (setT (paOf n) v tr)
    refine ⟨tr', fun k => ?_, fun p => ?_⟩
    · show setK (paOf n) v tr (fun tr => argTr args (n + 1) tr k) = _
      rw [setK_eq, e1]
    · rw [e2]
      by_cases h1 : n + 1 ≤ toN p ∧ toN p < n + 1 + args.length
      · rw [if_pos h1, if_pos ⟨by omega, by simp only [List.length_cons]; omega⟩, show toN p - n = (toN p - (n + 1)) + 1 from by omega]
        simp
      · rw [if_neg h1]
        by_cases h2 : p = paOf n
        · subst h2
          rw [get_set_self, if_pos ⟨by rw [toN_paOf]; omega, by rw [toN_paOf]; simp only [List.length_cons]; omega⟩, toN_paOf]
          simp
        · have h3 : toN p ≠ n := fun e => h2 (toN_inj _ _ (by rw [toN_paOf, e]))
          rw [get_set_ne v (paOf n) p tr h2, if_neg]
          simp only [List.length_cons]
          omega

theorem argTr_fr (args : List Value) (m : Nat) : ∃ tr', (∀ k, argTr args 0 .e k = k tr') ∧ FR tr' (args ++ List.replicate m undef) := by
  obtain ⟨tr', e1, e2⟩ := argTr_ok args 0 .e
  refine ⟨tr', e1, fun p => ?_⟩
  rw [e2, getT_e]
  by_cases h : toN p < args.length
  · rw [if_pos ⟨Nat.zero_le _, by omega⟩]
    simp [List.getD, List.getElem?_append_left h]
  · rw [if_neg (by omega)]
    simp only [List.getD, List.getElem?_append_right (Nat.le_of_not_lt h), List.getElem?_replicate]
    split <;> rfl

theorem frun_ok {es : FuncId → Nat → Bool} {f : FuncId} {args : List Value} {H : Hp} {r : Value × Hp × List Nat} (h : frun P X es fuel O f args H = some r) : runBody P X es fuel O f args H = some r := by
  unfold frun fbody at h
  unfold runBody
  cases hf : P.funcs[f]? with
  | none => rw [hf] at h; cases h
  | some fn =>
    rw [hf] at h
    simp only at h ⊢
    cases hb : fn.body with
    | none => rw [hb] at h; cases h
    | some c =>
      rw [hb] at h
      simp only at h ⊢
      obtain ⟨tr', e1, e2⟩ := argTr_fr args (fn.ntmps - args.length)
      rw [e1] at h
      have hS : FS fn.ntmps ⟨tr', H, [], []⟩ ⟨args ++ List.replicate (fn.ntmps - args.length) undef, H, [], []⟩ := ⟨e2, by simp; omega, rfl, rfl, rfl⟩
      have hv : fresv P f = fn.results.toList := by unfold fresv; rw [hf]
      rw [hv] at h
      split at h
      · rename_i fs hx
        obtain ⟨s', e3, e4⟩ := fexec_ok c hS hx
        rw [e3]
        simp only
        rw [fres_ok e4] at h
        split at h
        · rename_i vs hvs
          rw [hvs]
          exact ffin_ok e4 h
        · cases h
      · rename_i fs hx
        obtain ⟨s', e3, e4⟩ := fexec_ok c hS hx
        rw [e3]
        simp only
        rw [fres_ok e4] at h
        split at h
        · rename_i vs hvs
          rw [hvs]
          exact ffin_ok e4 h
        · cases h
      · cases h

theorem fcall_good (hm : P.follows .mixedOrders = true) (hN : Named P) (hX : GoodX P X) (hD : GoodD P) {es : FuncId → Nat → Bool} : ∀ n, GoodO P (fcall P X es fuel n) ∧ PureO (fcall P X es fuel n)
  | 0 => ⟨(fun f args H v H' md h => by cases h), (fun f args H v H' md h => by cases h)⟩
  | n + 1 => by
    obtain ⟨h1, h2⟩ := fcall_good hm hN hX hD (es := es) n
    exact ⟨fun f args H v H' md h => body_sound hm hN hX hD h1 h2 f args H v H' md (frun_ok h), fun f args H v H' md h => body_pure h2 f args H v H' md (frun_ok h)⟩

/-- A closed call, by the fast machine. -/
theorem fcall_calls (hm : P.follows .mixedOrders = true) (hN : Named P) (hX : GoodX P X) (hD : GoodD P) {es : FuncId → Nat → Bool} {n : Nat} {f : FuncId} {v : Value} {H' : Hp} {md : List Nat} (h : fcall P X es fuel n f [] [] = some (v, H', md)) (hv : plainV v = true) (w : World) :
    Calls P f #[] w fun e w' => e = .returned v ∧ w'.os = w.os ∧ w'.tape = w.tape ∧ w'.output = w.output ∧ w.heap.size ≤ w'.heap.size ∧ ∀ g, g < w.heap.size → w'.heap[g]? = w.heap[g]? := by
  have := (fcall_good hm hN hX hD (es := es) n).1 f [] [] v H' md h ⟨noLb, noLb, fun _ => false, fun _ => 0, fun _ => 0⟩ w [] rfl ⟨(fun i g e => by cases e), (fun i g e => by cases e), (fun i j g bi bj e => by cases e), (fun i j g e => by cases e), (fun i j g e => by cases e)⟩ (VRs.nil _)
  refine this.mono fun e w' ⟨v', m', e1, e2, e3, e4⟩ => ?_
  refine ⟨by rw [e1, plain_eq 4 _ _ hv e2], e3.os, e3.tape, e3.output, e3.size, fun g hg => e3.frame g hg (fun i e => by cases e) (fun i e => by cases e)⟩

end
end Go.Am
end

