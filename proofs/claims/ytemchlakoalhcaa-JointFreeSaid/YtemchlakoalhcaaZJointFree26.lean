/-
  Texts put together: Gj Ha Hb Hc Hd Hg Ia.
-/
import Derived.Test.YtemchlakoalhcaaZJointFree24
import Derived.Test.YtemchlakoalhcaaZJointFree25
import Derived.BigRegion
import Derived.Test.YtemchlakoalhcaaZJointFree23
set_option linter.unusedVariables false
section
/-
  Walks: JointLeast.
-/
namespace Go.Proofs.Jn
open Go.RowKit Go.Shelf

theorem inr_step {T : Tm} (hO : TeamOk T) {y r : List Nat} (h1 : InR T y) (h2 : r ∈ (movesE T y).2) : InR T r := by
  have hl : r.length = y.length := LReach.len.moves_len _ h2
  refine ⟨by rw [hl, h1.1], fun k x m hx hm => ?_⟩
  have hk := (List.getElem?_eq_some_iff.1 hm).1
  rw [mem_moves (by rw [h1.1]; exact hO.n2) hl] at h2
  have h3 := (h2 k (by rw [h1.1]; exact hk)).1
  have h4 := (next_comp (hO.mo m (List.mem_of_getElem? hm)) hm (atOf_lt h1 hm) h3).1
  have : atOf r k = x := by simp [atOf, hx]
  omega
set_option maxRecDepth 100000 in
set_option maxHeartbeats 4000000 in
theorem least_any (o1 o2 o3 : Option Addr) (c1 c2 c3 : Nat) (xs ys zs : List Int) (tk : Int) (w : World) (h1 : Sl w o1 1 (pvals xs)) (h2 : Sl w o2 1 (pvals ys)) (h3 : Sl w o3 1 (pvals zs)) (lx : xs.length ≤ 9223372036854775807) (ly : ys.length ≤ 9223372036854775807) (lz : zs.length ≤ 9223372036854775807) :
    Calls Try.prog 4 #[.slice o1 xs.length c1, .slice o2 ys.length c2, .slice o3 zs.length c3, .int .i64 tk] w fun e w' => e = .returned (.bool true) ∧ Below w.heap.size w w' := by
  have HTM := Lib.hid (team_any o1 c1 xs w h1 lx)
  obtain ⟨r, hr, hr6⟩ := round_nat tk 6 (by omega) (by omega)
  have hrd : ∀ X, Calls Try.prog 11 #[.int .i64 tk, .int .i64 6] X fun e X' => e = .returned (.int .i64 (r : Nat)) ∧ X' = X := fun X => (round_any tk 6 X (by omega) (by omega)).mono fun _ _ ⟨h, h'⟩ => ⟨by rw [h, show (6 : Int) = ((6 : Nat) : Int) from rfl, hr], h'.symm⟩
  have HRD := Lib.hid hrd
  clear hr hrd
  have hw1 : IntKind.i64.wrap (1 + (r : Int)) = 1 + (r : Int) := IntWalk.i64_in _ (by omega)
  go_enter Try.func4, Try.ntmps4
  go_wp2_with fail
  refine HTM.out.mono ?_
  rintro e W1 ⟨T, om, oc, cm, cc, base, rfl, hO, hmk, hT, -, -, hb⟩
  unfold Tm.val
  replace h2 := h2.keep hb
  replace h3 := h3.keep hb
  have HB1 := Lib.hid hb
  have HO := Lib.hid hO
  have HMK := Lib.hid hmk
  have hn1 := hO.n1
  have hn2 := hO.n2
  clear hb h1 hO hmk HTM
  go_upto_region 2 with fail
  have hbx_ := boxes1 W1 [.slice om T.ms.length cm, .slice oc T.cs.length cc] 26
  replace hT := hT.keep hbx_.2
  replace h2 := h2.keep hbx_.2
  replace h3 := h3.keep hbx_.2
  have HB := Lib.hid (below_call HB1.out (hbx_.2))
  generalize W1.alloc (.cells #[.slice om T.ms.length cm, .slice oc T.cs.length cc] 26) = W2 at hbx_ hT h2 h3 HB ⊢
  obtain ⟨r9, hbel_⟩ := hbx_
  obtain ⟨n9, hn_⟩ : ∃ n, n = W1.heap.size := ⟨_, rfl⟩
  rw [← hn_] at r9 ⊢
  clear hn_ hbel_
  have HT := Lib.hid hT
  have H2 := Lib.hid h2
  have H3 := Lib.hid h3
  have HR9 := Lib.hid r9
  have hva := verts_any om oc o2 cm cc c2 T ys W2 HO.out hT h2 ly
  unfold Tm.val at hva
  have HVA := Lib.hid hva
  have a0 : W2.cell? ⟨n9, 0, none⟩ = some (.slice om T.ms.length cm) := r9.c 0 _ rfl
  have a1 : W2.cell? ⟨n9, 1, none⟩ = some (.slice oc T.cs.length cc) := r9.c 1 _ rfl
  have l9 := r9.lt
  clear hT h2 h3 r9 hva
  go_wp2_with fail
  refine HVA.out.mono ?_
  rintro e W3 ⟨ps, oa, ca, rfl, hla, hra, hsa, hb, -⟩
  have HP : Hid (InR T ps) := Lib.hid ⟨hla, hra⟩
  have HSA := Lib.hid hsa
  have HB3 := Lib.hid hb
  clear a0 a1 l9 hla hra hsa hb HVA
  go_wp2_with fail
  with_reducible refine (HRD.out _).mono ?_
  rintro e X ⟨rfl, rfl⟩
  go_wp2_with fail
  have hci : 1 + (r : Int) = (r : Int) + 1 := by omega
  rw [hci]
  clear hw1 hci
  go_loopw [13, 12] (fun i y W => ∃ (q : Nat) (at' : List Nat) (oat : Option Addr) (cat : Nat), i = .int .i64 (q : Nat) ∧ q ≤ r + 1 ∧ y = .slice oat at'.length cat ∧ InR T at' ∧ LReach T ps q at' ∧ Sl W oat 1 (nvals at') ∧ Below W2.heap.size W2 W ∧ Sl W oa 1 (nvals ps)) (fun i _ _ => r + 1 - (intOf i).toNat)
  case atStart => exact ⟨0, ps, oa, ca, rfl, Nat.zero_le _, rfl, HP.out, rfl, HSA.out, HB3.out, HSA.out⟩
  case round =>
    obtain ⟨q, at', oat, cat, rfl, hq, hy, hin, hre, hsat, hW, hps⟩ := hrel
    subst hy
    obtain ⟨Wa, rfl⟩ : ∃ X, X = wr := ⟨_, rfl⟩
    have r9 := HR9.out.keep hW
    have a0 : Wa.cell? ⟨n9, 0, none⟩ = some (.slice om T.ms.length cm) := r9.c 0 _ rfl
    have a1 : Wa.cell? ⟨n9, 1, none⟩ = some (.slice oc T.cs.length cc) := r9.c 1 _ rfl
    have l9 := r9.lt
    have HIN := Lib.hid hin
    have HRE := Lib.hid hre
    have HW := Lib.hid hW
    have HPS := Lib.hid hps
    by_cases hlt : q < r + 1
    · have hmv := refMoves_any om oc oat cm cc cat T at' Wa HO.out hin (HT.out.keep hW) hsat
      have HMV := Lib.hid hmv
      clear hmv hin hre hsat hW hps r9
      have hqi : decide ((q : Int) < (r : Int) + 1) = true := decide_eq_true (by omega)
      go_wp2_with fail
      refine HMV.out.mono ?_
      rintro e Wb ⟨ol, cl, rfl, hLL, hb⟩
      clear a0 a1 l9 HMV
      have hmem := nextR_moves HO.out HIN.out
      have hRl := nextR_len HO.out (ps := at') T.ms.length []
      have hRb : (nextR T at' T.ms.length []).length ≤ 1000000000000 := by
        have : 1000 ^ T.ms.length ≤ 1000 ^ 4 := Nat.pow_le_pow_right (by omega) hn2
        omega
      generalize nextR T at' T.ms.length [] = R at hLL hmem hRb ⊢
      have HMEM := Lib.hid hmem
      have HLL := Lib.hid hLL
      have HBB := Lib.hid (below_call HW.out hb)
      have HPB := Lib.hid (HPS.out.keep hb)
      clear hmem hLL hb hRl
      by_cases hR : R.length = 0
      · have e0 := int_beq (R.length : Int) 0
        rw [decide_eq_true (by omega)] at e0
        have HBW := Lib.hid (below_call HB.out HBB.out)
        go_wp2_with (go_at_call 13; refine (Try.awake _).mono ?_; rintro e X ⟨rfl, hb⟩)
        go_ret
        exact ⟨rfl, below_call HBW.out hb⟩
      · have e0 := int_beq (R.length : Int) 0
        rw [decide_eq_false (by omega)] at e0
        obtain ⟨p, hpl, hp⟩ : ∃ p : Nat, p < R.length ∧ ∀ X, Below Wb.heap.size Wb X → (if hz : q < zs.length then ∃ zq, zs[q]? = some zq ∧ Calls Try.prog 11 #[.int .i64 zq, .int .i64 R.length] X (fun e X' => e = .returned (.int .i64 (p : Nat)) ∧ X' = X) else p = 0) := by
          by_cases hz : q < zs.length
          · obtain ⟨zq, hzq⟩ : ∃ z, zs[q]? = some z := ⟨_, List.getElem?_eq_getElem hz⟩
            obtain ⟨p, hp, hpl⟩ : ∃ p : Nat, zq % (R.length : Int) = (p : Int) ∧ p < R.length := by
              have h5 := Int.emod_nonneg zq (show (R.length : Int) ≠ 0 by omega)
              have h6 := Int.emod_lt_of_pos zq (show (0 : Int) < (R.length : Int) by omega)
              exact ⟨(zq % (R.length : Int)).toNat, by omega, by omega⟩
            refine ⟨p, hpl, fun X _ => ?_⟩
            rw [dif_pos hz]
            exact ⟨zq, hzq, (round_any zq R.length X (by omega) (by omega)).mono fun _ _ ⟨h, h'⟩ => ⟨by rw [h, hp], h'.symm⟩⟩
          · refine ⟨0, by omega, fun X _ => ?_⟩
            rw [dif_neg hz]
        obtain ⟨vs, hSl, hvl, hvr⟩ := HLL.out
        obtain ⟨vp, hvp⟩ : ∃ v, vs[p]? = some v := ⟨_, List.getElem?_eq_getElem (by rw [hvl]; exact hpl)⟩
        obtain ⟨row, hrow⟩ : ∃ l, R[p]? = some l := ⟨_, List.getElem?_eq_getElem hpl⟩
        obtain ⟨o5, c5, rfl, hs5⟩ := hvr p vp row hvp hrow
        obtain ⟨bl, offl, hol, hlr⟩ := hSl (map_ne (k := p) (by rw [hvl]; exact hpl))
        have x0 : Wb.cell? ⟨bl, offl + p, none⟩ = some (.slice o5 row.length c5) := by have := hlr.c p _ (map_get hvp) 0 _ rfl; simpa using this
        have lx2 := hlr.lt
        have hpi : (p : Int) < (R.length : Int) := by omega
        have hrm := HMEM.out row (List.mem_of_getElem? hrow)
        have HIR := Lib.hid (inr_step HO.out HIN.out hrm)
        have HLR : Hid (LReach T ps (q + 1) row) := Lib.hid ⟨at', HRE.out, hrm⟩
        have HS5 := Lib.hid hs5
        have HPP := Lib.hid hp
        have hq1 : IntKind.i64.wrap ((q : Int) + 1) = (q : Int) + 1 := IntWalk.i64_in _ (by omega)
        clear hSl hvl hvr hvp hrow hs5 hlr hrm hp
        subst hol
        by_cases hz : q < zs.length
        · have hd : decide ((q : Int) < (zs.length : Int)) = true := decide_eq_true (by omega)
          obtain ⟨bz, offz, rfl, hzr⟩ := (H3.out.keep HBB.out) (by simp only [pvals]; exact map_ne hz)
          have hpp := HPP.out
          simp only [dif_pos hz] at hpp
          obtain ⟨zq, hzq, hr2⟩ := hpp Wb (Below.refl _ _)
          have z0 : Wb.cell? ⟨bz, offz + q, none⟩ = some (.int .i64 zq) := by have := hzr.c q [.int .i64 zq] (by simp [pvals, hzq]) 0 _ rfl; simpa using this
          have lz2 := hzr.lt
          have hqz : (q : Int) < (zs.length : Int) := by omega
          have HR2 := Lib.hid hr2
          clear hr2 hzr hzq hpp
          go_wp2_with fail
          with_reducible refine HR2.out.mono ?_
          rintro e X ⟨rfl, hXW⟩
          subst hXW
          go_wp2_with fail
          go_roundw
          case rel => exact ⟨q + 1, row, o5, c5, by simp, by omega, rfl, HIR.out, HLR.out, HS5.out, HBB.out, HPB.out⟩
          case measure => simp [intOf]; omega
        · have hd : decide ((q : Int) < (zs.length : Int)) = false := decide_eq_false (by omega)
          have hpp := HPP.out
          simp only [dif_neg hz] at hpp
          have hp0 := hpp Wb (Below.refl _ _)
          subst hp0
          clear hpp
          rw [Nat.add_zero] at x0
          go_wp2_with fail
          go_roundw
          case rel => exact ⟨q + 1, row, o5, c5, by simp, by omega, rfl, HIR.out, HLR.out, HS5.out, HBB.out, HPB.out⟩
          case measure => simp [intOf]; omega
    · have hqr : q = r + 1 := by omega
      have hd : decide ((q : Int) < (r : Int) + 1) = false := decide_eq_false (by omega)
      have hd2 : decide ((r : Int) + 1 < (r : Int) + 1) = false := decide_eq_false (by omega)
      subst hqr
      have hsol := solve_any om oc oa oat cm cc ca cat T ps at' (r + 1) Wa HO.out HP.out hin (fun m hm => ⟨(HMK.out m hm).n4.2, (HMK.out m hm).n6⟩) (HT.out.keep hW) hps hsat (by omega) (by omega)
      unfold Tm.val at hsol
      have hsol2 : Calls Try.prog 12 #[.agg #[.slice om T.ms.length cm, .slice oc T.cs.length cc], .slice oa ps.length ca, .slice oat at'.length cat, .int .i64 ((r : Int) + 1)] Wa _ := hsol
      have HSOL := Lib.hid hsol2
      have HSAT := Lib.hid hsat
      clear hsol hsol2 hin hre hsat hW hps r9
      go_wp2_with fail
      refine HSOL.out.mono ?_
      rintro e W4 ⟨hb, ⟨rfl, hno⟩ | ⟨gp, rows, rfl, hrl, hLL, hS⟩⟩
      · exact absurd HRE.out (hno (r + 1) (by omega) (Nat.le_refl _))
      · obtain ⟨n', P, hn1', hn2', rfl, hP, -⟩ := hS
        have hvp := vplan_of HO.out HP.out hP
        have hB34 := HW.out
        obtain ⟨row, hrow0⟩ : ∃ row, (rowsP T.ms.length n' P)[0]? = some row := ⟨_, List.getElem?_eq_getElem (by rw [hrl]; exact HO.out.n1)⟩
        have hrl1 := rowsP_len row (List.mem_of_getElem? hrow0)
        obtain ⟨vs, hSl, hvl, hvr⟩ := hLL
        obtain ⟨v0, hv0⟩ : ∃ v, vs[0]? = some v := ⟨_, List.getElem?_eq_getElem (by rw [hvl, hrl]; exact HO.out.n1)⟩
        obtain ⟨o0, c0, rfl, -⟩ := hvr 0 v0 row hv0 hrow0
        obtain ⟨bg, offg, hgp, hGr⟩ := hSl (map_ne (k := 0) (by rw [hvl, hrl]; exact HO.out.n1))
        injection hgp with hgp
        injection hgp with hg1 hg2 _
        subst hg1 hg2
        have hLLk : ∀ X, Below W4.heap.size W4 X → LL X (some ⟨gp, 0, none⟩) (rowsP T.ms.length n' P) := fun X hX => LL.keep ⟨vs, hSl, hvl, hvr⟩ hX
        have hval : ∀ X, Below W4.heap.size W4 X → Calls Try.prog 14 #[.agg #[.slice om T.ms.length cm, .slice oc T.cs.length cc], .slice oa ps.length ca, .slice oat at'.length cat, .slice (some ⟨gp, 0, none⟩) T.ms.length T.ms.length] X (BoolP true X) := fun X hX => by
          have := valid_any om oc oa oat (some ⟨gp, 0, none⟩) cm cc ca cat T.ms.length T ps at' n' (rowsP T.ms.length n' P) X HO.out HP.out HIN.out (HT.out.keep (below_call hB34 (below_call hb hX))) (HPS.out.keep (below_call hb hX)) (HSAT.out.keep (below_call hb hX)) hvp hn1' (by omega) (hLLk X hX)
          rw [hrl] at this
          exact this
        have HVAL := Lib.hid hval
        have HB4 := Lib.hid (below_call HB.out (below_call hB34 hb))
        have hx0 : ∀ X, Below W4.heap.size W4 X → X.cell? ⟨gp, 0, none⟩ = some (.slice o0 (n' + 1) c0) ∧ gp < X.heap.size := fun X hX => by
          have := (hGr.keep hX).c 0 _ (map_get hv0) 0 _ rfl
          rw [hrl1] at this
          exact ⟨by simpa using this, (hGr.keep hX).lt⟩
        have hbx : ∀ X, Below W4.heap.size W4 X → X.cell? ⟨n9, 0, none⟩ = some (.slice om T.ms.length cm) ∧ X.cell? ⟨n9, 1, none⟩ = some (.slice oc T.cs.length cc) ∧ n9 < X.heap.size := fun X hX => by
          have r9 := HR9.out.keep (below_call hB34 (below_call hb hX))
          exact ⟨r9.c 0 _ rfl, r9.c 1 _ rfl, r9.lt⟩
        have HX0 := Lib.hid hx0
        have HBX := Lib.hid hbx
        have hN0 : (0 : Int) < (T.ms.length : Int) := by have := HO.out.n1; omega
        have hpl : ps.length = T.ms.length := HP.out.1
        have e0 := int_beq (T.ms.length : Int) (ps.length : Int)
        rw [decide_eq_true (by omega)] at e0
        have e1 : decide (T.ms.length = ps.length) = true := decide_eq_true hpl.symm
        have e2 : (T.ms.length == ps.length) = true := by simp [hpl]
        clear hval hx0 hbx hLLk hvr hv0 hrow0 hrl1 hSl hvl hGr hvp hrl hP hB34 hb a0 a1 l9 hpl HSOL
        go_wp2_with fail
        refine (Try.awake _).mono ?_
        rintro e X ⟨rfl, hb⟩
        obtain ⟨a0, a1, l9c⟩ := HBX.out X hb
        obtain ⟨x0, lg⟩ := HX0.out X hb
        have HB5 := Lib.hid hb
        have d1 : decide ((n' : Int) + 1 ≥ 2) = true := decide_eq_true (by omega)
        have hw3 : IntKind.i64.wrap ((n' : Int) + 1 - 1) = (n' : Int) + 1 - 1 := IntWalk.i64_in _ (by omega)
        have hw4 : IntKind.i64.wrap (n' : Int) = (n' : Int) := IntWalk.i64_in _ (by omega)
        have d2 : decide ((n' : Int) + 1 - 1 ≤ (r : Int) + 1) = true := decide_eq_true (by omega)
        have d3 : decide ((n' : Int) ≤ (r : Int) + 1) = true := decide_eq_true (by omega)
        clear hb
        go_wp2_with fail
        with_reducible refine (HVAL.out X HB5.out).mono ?_
        rintro e Y ⟨rfl, hb⟩
        have HB6 := Lib.hid (below_call HB4.out (below_call HB5.out hb))
        clear hb a0 a1 l9c x0
        go_wp2
        go_ret
        exact ⟨by simp, HB6.out⟩
end Go.Proofs.Jn
end

section
/-
  Walks: the maker's Order: a permutation.
-/
namespace Go.Proofs.Jn
open Go.RowKit

/-- A list of the first n numbers, each once. -/
structure Perm (n : Nat) (l : List Nat) : Prop where
  len : l.length = n
  lt : ∀ (i x : Nat), l[i]? = some x → x < n
  inj : ∀ (i j x : Nat), l[i]? = some x → l[j]? = some x → i = j
  on : ∀ (x : Nat), x < n → ∃ i : Nat, l[i]? = some x
theorem Perm.nil : Perm 0 [] := ⟨rfl, by simp, by simp, fun x h => absurd h (by omega)⟩
theorem Perm.push {n : Nat} {l : List Nat} (h : Perm n l) : Perm (n + 1) (l ++ [n]) := by
  have hl := h.len
  have key : ∀ (i x : Nat), (l ++ [n])[i]? = some x → (l[i]? = some x ∧ x < n) ∨ (i = n ∧ x = n) := fun i x hx => by
    rcases Nat.lt_or_ge i l.length with hi | hi
    · rw [List.getElem?_append_left hi] at hx
      exact .inl ⟨hx, h.lt i x hx⟩
    · have := (List.getElem?_eq_some_iff.1 hx).1
      simp at this
      have e : i = l.length := by omega
      subst e
      simp at hx
      exact .inr ⟨hl, hx.symm⟩
  refine ⟨by simp [hl], fun i x hx => ?_, fun i j x hx hy => ?_, fun x hx => ?_⟩
  · rcases key i x hx with ⟨_, h2⟩ | ⟨_, h2⟩ <;> omega
  · rcases key i x hx with ⟨h1, h2⟩ | ⟨h1, h2⟩ <;> rcases key j x hy with ⟨h3, h4⟩ | ⟨h3, h4⟩
    · exact h.inj i j x h1 h3
    · omega
    · omega
    · omega
  · by_cases e : x = n
    · exact ⟨n, by subst e; rw [← hl]; simp⟩
    · obtain ⟨i, hi⟩ := h.on x (by omega)
      have := (List.getElem?_eq_some_iff.1 hi).1
      exact ⟨i, by rw [List.getElem?_append_left this]; exact hi⟩
theorem Perm.sw {n : Nat} {l l2 : List Nat} (h : Perm n l) (f : Nat → Nat) (hf : ∀ i, f (f i) = i) (hl : l2.length = l.length) (he : ∀ i, l2[i]? = l[f i]?) : Perm n l2 := by
  refine ⟨by rw [hl, h.len], fun i x hx => h.lt (f i) x (by rw [← he]; exact hx), fun i j x hx hy => ?_, fun x hx => ?_⟩
  · have := h.inj (f i) (f j) x (by rw [← he]; exact hx) (by rw [← he]; exact hy)
    rw [← hf i, this, hf]
  · obtain ⟨i, hi⟩ := h.on x hx
    exact ⟨f i, by rw [he, hf]; exact hi⟩
theorem Perm.swap {n : Nat} {l : List Nat} (h : Perm n l) (i k a b : Nat) (ha : l[i]? = some a) (hb : l[k]? = some b) : Perm n ((l.set i b).set k a) := by
  have hi := (List.getElem?_eq_some_iff.1 ha).1
  have hk := (List.getElem?_eq_some_iff.1 hb).1
  refine h.sw (fun j => if j = k then i else if j = i then k else j) (fun j => ?_) (by simp) (fun j => ?_)
  · split
    · split
      · omega
      · simp_all
    · split <;> simp_all
  · rw [List.getElem?_set, List.getElem?_set]
    simp only [List.length_set]
    by_cases e1 : j = k
    · subst e1; simp [hk, ha]
    · by_cases e2 : j = i
      · subst e2; simp [hi, hb, e1, Ne.symm e1]
      · simp [e1, e2, Ne.symm e1, Ne.symm e2]
theorem own_set1 {W : World} {base n c g : Nat} {xs : List Value} (h : W.ownsRow base 3 1 (.slice (some ⟨g, 0, none⟩) n c) n xs) (i : Nat) (hi : i < n) (x : Value) : (W.setCell ⟨g, i, none⟩ x).ownsRow base 3 1 (.slice (some ⟨g, 0, none⟩) n c) n (xs.set i x) := by
  obtain ⟨hl, hv⟩ := h
  refine ⟨by simp [hl], .inr ?_⟩
  rcases hv with ⟨h1, h2⟩ | ⟨g', cap, cur, h1, h2, h3, h4, h5, h6, h7⟩
  · omega
  · injection h1 with h1 h8 h9
    injection h1 with h1
    injection h1 with h1 _ _
    subst h1 h9
    refine ⟨g, c, cur.setIfInBounds i x, rfl, h2, ?_, h4, h5, by simp [h6], ?_⟩
    · have hg : g < W.heap.size := by
        rcases Nat.lt_or_ge g W.heap.size with h1 | h1
        · exact h1
        · rw [Array.getElem?_eq_none h1] at h3; cases h3
      simp [World.setCell, Array.getElem?_modify, h3]
    · rw [← h7]
      simp [List.take_set]
theorem own_cur {W : World} {base n : Nat} {v : Value} {l : List Nat} (h : W.ownsRow base 3 1 v n (nvals l).flatten) (hn : 0 < n) : ∃ g cap cur, v = .slice (some ⟨g, 0, none⟩) n cap ∧ base ≤ g ∧ W.heap[g]? = some (.cells cur 3 (0, 0)) ∧ n ≤ cap ∧ cap ≤ maxLen ∧ cur.size = cap * 1 ∧ cur.toList.take (n * 1) = (nvals l).flatten := by
  rcases h.2 with ⟨h1, h2⟩ | h1
  · omega
  · exact h1
theorem own_cell {W : World} {base c g : Nat} {l : List Nat} (h : W.ownsRow base 3 1 (.slice (some ⟨g, 0, none⟩) l.length c) l.length (nvals l).flatten) (i y : Nat) (hy : l[i]? = some y) : W.cell? ⟨g, i, none⟩ = some (.int .i64 (y : Nat)) := by
  rw [← nvals_len] at h
  obtain ⟨oa, ca, hv, hs⟩ := own_rows (nvals_one l) h
  injection hv with h1 _ _
  subst h1
  obtain ⟨b, off, h2, hr⟩ := hs (fun e => by simp [nvals] at e; subst e; simp at hy)
  injection h2 with h2
  injection h2 with h2 h3 _
  subst h2 h3
  have := hr.c i [.int .i64 (y : Nat)] (by simp [nvals, hy]) 0 _ rfl
  simpa using this
theorem nvals_set (l : List Nat) (i x : Nat) : (nvals (l.set i x)).flatten = (nvals l).flatten.set i (.int .i64 (x : Nat)) := by
  have e : ∀ l : List Nat, (nvals l).flatten = l.map fun x => .int .i64 (x : Nat) := fun l => by
    induction l with
    | nil => rfl
    | cons a r ih => simpa [nvals] using ih
  rw [e, e, List.map_set]
def OrdP (n : Nat) (w : World) (e : Ending) (W : World) : Prop := ∃ (l : List Nat) (oa : Option Addr) (ca : Nat), e = .returned (.slice oa l.length ca) ∧ Perm n l ∧ Sl W oa 1 (nvals l) ∧ Below w.heap.size w W ∧ ∀ a, oa = some a → w.heap.size ≤ a.block

set_option maxRecDepth 100000 in
set_option maxHeartbeats 4000000 in
theorem order_any (os : Option Addr) (cap n : Nat) (xs : List Int) (w : World) (hn : n ≤ 1000) (hX : Sl w os 1 (pvals xs)) (hxl : xs.length ≤ 9223372036854775807) :
    Calls Try.prog 17 #[.int .i64 (n : Nat), .slice os xs.length cap] w (OrdP n w) := by
  go_enter Try.func17, Try.ntmps17
  go_wp2_with fail
  refine (from_any os cap xs.length w).mono ?_
  rintro e W1 ⟨rfl, rfl⟩
  have hbA : Below w.heap.size w (w.alloc (.cells #[.slice os xs.length cap, .int .i64 0] 116)) := (Below.refl _ _).alloc (Nat.le_refl _) _
  have hC2 := Cells2.new w (.slice os xs.length cap) (.int .i64 0) 116
  have hX1 := hX.keep hbA
  have hoff : pvals xs ≠ [] → ∀ b o s, os = some ⟨b, o, s⟩ → b ≠ w.heap.size := fun h b o s he => by
    obtain ⟨b', off', e1, hr⟩ := hX h
    rw [he] at e1; injection e1 with e1; injection e1 with e1 _ _
    have := hr.lt; omega
  have hS : Src (w.alloc (.cells #[.slice os xs.length cap, .int .i64 0] 116)) w.heap.size os cap xs := ⟨⟨0, by omega, hC2⟩, hX1, fun h => hoff (fun h0 => h (by simpa [pvals] using h0)), hxl⟩
  have HB1 := Lib.hid hbA
  have hnS : w.heap.size ≤ w.heap.size := Nat.le_refl _
  clear hbA hC2 hX hoff
  generalize w.alloc (.cells #[.slice os xs.length cap, .int .i64 0] 116) = W1 at *
  obtain ⟨nS, hnSe⟩ : ∃ a, a = w.heap.size := ⟨_, rfl⟩
  rw [← hnSe] at hS
  have hI : NI W1 nS os cap xs [] (.slice none 0 0) W1 := ⟨grown_of_below (Below.refl _ _), hS, World.ownsRow_nil _ _ _ _, Nat.le_refl _, src_lt hS, hX1⟩
  have HNS := Lib.hid hnSe
  rw [← hnSe]
  clear hS hX1 hnSe hnS
  go_wp2_with fail
  go_loopw [6, 7] (fun v i W => ∃ l : List Nat, l.length ≤ n ∧ i = .int .i64 (l.length : Nat) ∧ Perm l.length l ∧ NI W1 nS os cap xs l v W) (fun _ i _ => n - (intOf i).toNat)
  case atStart => exact ⟨[], by simp, rfl, Perm.nil, hI⟩
  case round =>
    clear hI
    obtain ⟨l, hk, rfl, hV, hI⟩ := hrel
    have HV := Lib.hid hV
    clear hV
    by_cases hlt : l.length < n
    · go_wp2_with fail
      refine (next_any wr nS os cap xs (l.length + 1) hI.src (by omega) (by omega)).mono ?_
      rintro e W2 ⟨q, q0, q1, rfl, hg2, hS2, -⟩
      obtain ⟨q, rfl, q2⟩ := nat_int q0 q1
      replace hI := hI.call hg2 hS2
      clear hg2 hS2
      obtain ⟨i0, hi, hz0, hz1, hz2⟩ := info_parts info3
      have HC2 := Lib.hid (hI.keep (W' := W2.alloc (.cells #[.int .i64 (l.length : Nat)] 3)) ((Below.refl _ _).alloc (Nat.le_refl _) _))
      go_wp2_with (at_builtin; refine wpList_append_own _ rfl _ _ 22 rfl W1.heap.size 3 i0 (.int .i64 0) 1 8 under22 hi hz0 hz1 hz2 rfl (by decide) _ _ _ rfl HC2.out.own ⟨W2.heap.size, 0, none⟩ 1 1 [.int .i64 (l.length : Nat)] rfl rfl ?c1 ?c2 ?c3 ?c4 ?c5 ?_)
      case c1 => exact new_cells _ _ _
      case c2 => intro u hu; simp at hu; subst hu; rfl
      case c3 => unfold maxLen; omega
      case c4 => omega
      case c5 => exact HC2.out.hb
      intro v' w' hown' hgrow _
      have HN := Lib.hid (HC2.out.app hown' hgrow)
      clear hown' hgrow HC2 hI hi hz0 hz1 hz2
      go_upto_region 8 with fail
      obtain ⟨g, c, cur, rfl, hg1, hg2, hg3, hg4, hg5, hg6⟩ := own_cur HN.out.own (by simp)
      have hpn : Perm (l.length + 1) (l ++ [l.length]) := HV.out.push
      obtain ⟨y, hy⟩ : ∃ y, (l ++ [l.length])[q]? = some y := ⟨_, List.getElem?_eq_getElem (by simp; omega)⟩
      have hz : (l ++ [l.length])[l.length]? = some l.length := by simp
      have x0 : w'.cell? ⟨g, q, none⟩ = some (.int .i64 (y : Nat)) := own_cell HN.out.own q y hy
      have x1 : w'.cell? ⟨g, l.length, none⟩ = some (.int .i64 (l.length : Nat)) := own_cell HN.out.own _ _ hz
      have f0 : w'.frozen? ⟨g, q, none⟩ = false := by simp [World.frozen?, hg2]
      have f1 : w'.frozen? ⟨g, l.length, none⟩ = false := by simp [World.frozen?, hg2]
      have lg := (own_lt HN.out.own g rfl).1
      have i1 : (q : Int) < (l.length : Int) + 1 := by omega
      have i2 : (l.length : Int) < (l.length : Int) + 1 := by omega
      have i3 : (0 : Int) ≤ (q : Int) := by omega
      have i4 : (0 : Int) ≤ (l.length : Int) := by omega
      have hL : ∀ W', Below W1.heap.size w' W' → W'.ownsRow W1.heap.size 3 1 (.slice (some ⟨g, 0, none⟩) (((l ++ [l.length]).set l.length y).set q l.length).length c) (((l ++ [l.length]).set l.length y).set q l.length).length (nvals (((l ++ [l.length]).set l.length y).set q l.length)).flatten → NI W1 nS os cap xs (((l ++ [l.length]).set l.length y).set q l.length) (.slice (some ⟨g, 0, none⟩) (((l ++ [l.length]).set l.length y).set q l.length).length c) W' := fun W' hb ho => ⟨grown_low HN.out.gr hb, HN.out.src.low HN.out.i0 HN.out.hs hb, ho, Nat.le_trans HN.out.hb hb.size, HN.out.hs, HN.out.i0⟩
      have hP2 := Lib.hid (hpn.swap l.length q l.length y hz hy)
      have hlen : (((l ++ [l.length]).set l.length y).set q l.length).length = l.length + 1 := by simp
      have hO2 : ((w'.setCell ⟨g, l.length, none⟩ (.int .i64 (y : Nat))).setCell ⟨g, q, none⟩ (.int .i64 (l.length : Nat))).drew.ownsRow W1.heap.size 3 1 (.slice (some ⟨g, 0, none⟩) (((l ++ [l.length]).set l.length y).set q l.length).length c) (((l ++ [l.length]).set l.length y).set q l.length).length (nvals (((l ++ [l.length]).set l.length y).set q l.length)).flatten := by
        rw [nvals_set, nvals_set]
        have h1 := own_set1 HN.out.own l.length (by simp) (.int .i64 (y : Nat))
        have h2 := own_set1 h1 q (by simp; omega) (.int .i64 (l.length : Nat))
        simp only [List.length_set]
        exact h2
      have hB2 : Below W1.heap.size w' ((w'.setCell ⟨g, l.length, none⟩ (.int .i64 (y : Nat))).setCell ⟨g, q, none⟩ (.int .i64 (l.length : Nat))).drew := Below.drew (((Below.refl _ _).setCell (p := ⟨g, l.length, none⟩) hg1 _).setCell (p := ⟨g, q, none⟩) hg1 _)
      have HN2 := Lib.hid (hL _ hB2 hO2)
      have HLE := Lib.hid hlen
      clear hL hO2 hB2 hlen hpn hg2 hg3 hg4 hg5 hg6 hy hz
      by_cases hq : q = l.length
      · subst hq
        obtain rfl : l.length = y := by
          have := x0.symm.trans x1
          simp at this
          omega
        go_region
        go_wp2
        go_roundw
        case rel => exact ⟨_, by rw [HLE.out]; omega, by simp, by rw [HLE.out]; exact hP2.out, by have := HN2.out; simpa using this⟩
        case measure => simp [intOf]; omega
      · have hne : ¬ (l.length = q) := fun e => hq e.symm
        clear q2
        go_region
        go_wp2
        go_roundw
        case rel => exact ⟨_, by rw [HLE.out]; omega, by simp, by rw [HLE.out]; exact hP2.out, by have := HN2.out; simpa using this⟩
        case measure => simp [intOf]; omega
    · obtain ⟨oa, ca, rfl, hs, hf⟩ := hI.done
      have hle : l.length = n := by omega
      have HI := Lib.hid hI
      have HS := Lib.hid hs
      have HF := Lib.hid hf
      clear hI hs hf
      go_wp2
      go_ret
      refine ⟨l, oa, ca, rfl, by rw [← hle]; exact HV.out, HS.out, ?_, fun a ha => Nat.le_trans HB1.out.size (HF.out a ha)⟩
      exact (grown_fresh HB1.out HI.out.gr (by rw [HNS.out]; exact Nat.le_refl _))
end Go.Proofs.Jn
end

section
/-
  Walks of the reference: permuted.
-/
namespace Go.Proofs.Jn
open Go.RowKit

theorem info4 : (Try.prog.info? 4).map (fun i => (i.zero, i.size, i.bytes)) = some (some (.bool false), 1, 1) := by kernel_rfl
theorem under125 : Try.prog.underlying 125 = some (.slice 4) := by kernel_rfl
theorem made_false (n : Nat) : madeCells #[Value.bool false] n = Array.replicate n (Value.bool false) := by
  apply Array.ext
  · simp [madeCells]
  · intro i h1 h2
    simp [madeCells, Nat.mod_one]
theorem run_make125 (n : Nat) (hn : n ≤ 1000) (u : World) : (Instr.makeSlice 125 (.int .i64 (n : Nat)) (.int .i64 (n : Nat))).run Try.prog u = .ok (.slice (some ⟨u.heap.size, 0, none⟩) n n) (u.alloc (.cells (Array.replicate n (Value.bool false)) 4)) := by
  obtain ⟨i, hi, hz, hs, hb⟩ := info_parts info4
  have := run_makeSlice (P := Try.prog) u 125 4 i (.bool false) under125 hi hz .i64 .i64 n n (by omega) (Int.le_refl _) (by rw [hs]; simp; omega) (by rw [hb]; simp; omega) (by omega)
  rw [hs] at this
  simp only [Int.toNat_natCast, Nat.mul_one] at this
  have hc : madeCells (Value.bool false).cells n = Array.replicate n (Value.bool false) := made_false n
  rw [this, hc]
/-- A row of flags. -/
def bvl (n : Nat) (u : Nat → Bool) : List Value := (List.range n).map fun x => .bool (u x)
theorem bvl_get {n : Nat} {u : Nat → Bool} {x : Nat} (h : x < n) : (bvl n u)[x]? = some (.bool (u x)) := by simp [bvl, h]
theorem bvl_set (n : Nat) (u : Nat → Bool) (x : Nat) (b : Bool) : (bvl n u).set x (.bool b) = bvl n (fun y => if y = x then b else u y) := by
  apply List.ext_getElem?
  intro i
  rw [List.getElem?_set]
  by_cases h : i < n
  · by_cases e : x = i
    · subst e; simp [bvl, h]
    · rw [if_neg e, bvl_get h, bvl_get h, if_neg (fun e2 => e e2.symm)]
  · have h1 : n ≤ i := by omega
    simp [bvl, h1]
    try omega
theorem bvl_new (W : World) (n : Nat) : Blk (W.alloc (.cells (Array.replicate n (Value.bool false)) 4)) W.heap.size (bvl n fun _ => false) := by
  have e : Array.replicate n (Value.bool false) = (bvl n fun _ => false).toArray := by
    apply Array.ext
    · simp [bvl]
    · intro i h1 h2; simp [bvl]
  rw [e]
  exact Blk.new W _ 4

set_option maxRecDepth 100000 in
set_option maxHeartbeats 4000000 in
theorem permuted_any (oo : Option Addr) (co n : Nat) (l : List Nat) (w : World) (hn : n ≤ 1000) (hl : Perm n l) (hL : Sl w oo 1 (nvals l)) :
    Calls Try.prog 40 #[.slice oo l.length co, .int .i64 (n : Nat)] w (BoolP true w) := by
  have hmk := run_make125 n hn w
  have HPM := Lib.hid hl
  have HL := Lib.hid hL
  have hll := hl.len
  have HLL := Lib.hid hll
  clear hl hL hll
  go_enter Try.func40, Try.ntmps40
  go_wp2_with fail
  have hB := bvl_new w n
  have hbA : Below w.heap.size w (w.alloc (.cells (Array.replicate n (Value.bool false)) 4)) := (Below.refl _ _).alloc (Nat.le_refl _) _
  generalize w.alloc (.cells (Array.replicate n (Value.bool false)) 4) = W1 at hB hbA ⊢
  obtain ⟨g, hg⟩ : ∃ g, g = w.heap.size := ⟨_, rfl⟩
  rw [← hg] at hB ⊢
  have HG := Lib.hid hg
  clear hmk hg
  go_loopw [6] (fun i W => ∃ (k : Nat) (u : Nat → Bool), i = .int .i64 (k : Nat) ∧ k ≤ l.length ∧ Blk W g (bvl n u) ∧ Below w.heap.size w W ∧ (∀ x, u x = true → ∃ i, i < k ∧ l[i]? = some x)) (fun i _ => l.length - (intOf i).toNat)
  case atStart => exact ⟨0, _, rfl, Nat.zero_le _, hB, hbA, fun x h => by cases h⟩
  case round =>
    clear hB hbA
    obtain ⟨k, u, rfl, hk, hB, hW, hU⟩ := hrel
    obtain ⟨Wa, rfl⟩ : ∃ X, X = wr := ⟨_, rfl⟩
    by_cases hlt : k < l.length
    · obtain ⟨x, hx⟩ : ∃ x, l[k]? = some x := ⟨_, List.getElem?_eq_getElem hlt⟩
      have hxn := HPM.out.lt k x hx
      have hux : u x = false := by
        cases hh : u x with
        | false => rfl
        | true =>
          obtain ⟨i, hi, hli⟩ := hU x hh
          have := HPM.out.inj i k x hli hx
          omega
      obtain ⟨bl, offl, rfl, hlr⟩ := (HL.out.keep hW) (by simp only [nvals]; exact map_ne hlt)
      have x0 : Wa.cell? ⟨bl, offl + k, none⟩ = some (.int .i64 (x : Nat)) := by have := hlr.c k [.int .i64 (x : Nat)] (by simp [nvals, hx]) 0 _ rfl; simpa using this
      have lb := hlr.lt
      have c0 := hB.c x _ (bvl_get hxn)
      rw [hux] at c0
      have f0 := hB.f x
      have lg := hB.lt
      have HB := Lib.hid hB
      have HW := Lib.hid hW
      have HU := Lib.hid hU
      have HX := Lib.hid hx
      have i1 : (x : Int) < (n : Int) := by omega
      have i2 : (0 : Int) ≤ (x : Int) := by omega
      have d1 : decide ((x : Int) < 0) = false := decide_eq_false (by omega)
      have d2 : decide ((x : Int) ≥ (n : Int)) = false := decide_eq_false (by omega)
      have i3 : (k : Int) < (l.length : Int) := by omega
      clear hB hW hU hx hlr hux
      have hw1 : IntKind.i64.wrap ((k : Int) + 1) = (k : Int) + 1 := IntWalk.i64_in _ (by have := HPM.out.len; omega)
      go_wp2_with fail
      refine ⟨⟨k + 1, (fun y => if y = x then true else u y), by simp [], by omega, by rw [← bvl_set]; exact HB.out.put x _, HW.out.setCell (p := ⟨g, x, none⟩) (by rw [HG.out]; exact Nat.le_refl _) _, fun y hy => ?_⟩, by simp [intOf, ]; omega⟩
      by_cases e : y = x
      · subst e; exact ⟨k, by omega, HX.out⟩
      · simp only [if_neg e] at hy
        obtain ⟨i, h1, h2⟩ := HU.out y hy
        exact ⟨i, by omega, h2⟩
    · have e0 := int_beq (l.length : Int) (n : Int)
      rw [decide_eq_true (by have := HLL.out; omega)] at e0
      have e1 : decide (l.length = n) = true := decide_eq_true HLL.out
      have hk2 : k = l.length := by omega
      have HW := Lib.hid hW
      subst hk2
      clear hB hU hW
      go_wp2
      go_ret
      exact ⟨rfl, HW.out⟩
end Go.Proofs.Jn
end

section
/-
  Walks of the reference: Arrival.
-/
namespace Go.Proofs.Jn
open Go.RowKit

set_option maxRecDepth 100000 in
set_option maxHeartbeats 4000000 in
theorem arrival_any (o : Option Addr) (c : Nat) (l : List Nat) (w : World) (h1 : 1 ≤ l.length) (h2 : l.length ≤ 1000) (hA : Sl w o 1 (nvals l)) :
    Calls Try.prog 42 #[.slice o l.length c] w fun e W => ∃ a : Nat, e = .returned (.int .i64 (a : Nat)) ∧ a < l.length ∧ (∀ j, a ≤ j → j < l.length → atOf l j = atOf l (l.length - 1)) ∧ Below w.heap.size w W := by
  have hw1 : IntKind.i64.wrap ((l.length : Int) - 1) = (l.length : Int) - 1 := IntWalk.i64_in _ (by omega)
  obtain ⟨b, off, rfl, hr⟩ := hA (nvals_ne (k := 0) (by omega))
  have HR := Lib.hid hr
  go_enter Try.func42, Try.ntmps42
  go_wp2_with fail
  go_loopw [3] (fun i W => ∃ k : Nat, i = .int .i64 (k : Nat) ∧ k < l.length ∧ Below w.heap.size w W ∧ ∀ j, k ≤ j → j < l.length → atOf l j = atOf l (l.length - 1)) (fun i _ => (intOf i).toNat)
  case atStart => exact ⟨l.length - 1, by congr 1; omega, by omega, Below.refl _ _, fun j hj hj2 => by rw [show j = l.length - 1 by omega]⟩
  case round =>
    clear hr hw1
    obtain ⟨k, rfl, hk, hW, hU⟩ := hrel
    obtain ⟨Wa, rfl⟩ : ∃ X, X = wr := ⟨_, rfl⟩
    have HW := Lib.hid hW
    have HU := Lib.hid hU
    have hr1 := HR.out.keep hW
    clear hW hU
    by_cases h0 : k = 0
    · subst h0
      have d1 : decide ((0 : Int) > 0) = false := rfl
      have hm : max (0 : Int) 0 = 0 := rfl
      clear hr1
      go_wp2_with fail
      go_region
      go_wp2_with fail
      go_ret
      exact ⟨0, by simp, hk, HU.out, HW.out.drew⟩
    · obtain ⟨q, rfl⟩ : ∃ q, k = q + 1 := ⟨k - 1, by omega⟩
      have x0 : Wa.cell? ⟨b, off + q, none⟩ = some (.int .i64 (atOf l q : Nat)) := by have := hr1.c q _ (nvals_get (atOf_get (by omega))) 0 _ rfl; simpa using this
      have x1 : Wa.cell? ⟨b, off + (q + 1), none⟩ = some (.int .i64 (atOf l (q + 1) : Nat)) := by have := hr1.c (q + 1) _ (nvals_get (atOf_get hk)) 0 _ rfl; simpa using this
      have lx := hr1.lt
      have d1 : decide ((q : Int) + 1 > 0) = true := decide_eq_true (by omega)
      have d0 : (0 : Int) < (q : Int) + 1 := by omega
      have hw1 : IntKind.i64.wrap ((q : Int) + 1 - 1) = (q : Int) + 1 - 1 := IntWalk.i64_in _ (by omega)
      have hw2 : IntKind.i64.wrap (q : Int) = (q : Int) := IntWalk.i64_in _ (by omega)
      have i1 : (q : Int) < (l.length : Int) := by omega
      have i2 : (q : Int) + 1 < (l.length : Int) := by omega
      have i3 : (0 : Int) ≤ (q : Int) + 1 := by omega
      have i4 : ((q : Int) + 1).toNat = q + 1 := by omega
      have e0 := int_beq (atOf l q : Int) (atOf l (q + 1) : Int)
      clear hr1
      by_cases he : atOf l q = atOf l (q + 1)
      · rw [decide_eq_true (by omega)] at e0
        have HE := Lib.hid he
        clear he
        go_wp2_with fail
        go_region
        go_wp2_with fail
        go_roundw
        case rel => exact ⟨q, by simp, by omega, HW.out.drew, fun j hj hj2 => by
          by_cases e : j = q
          · subst e; rw [HE.out]; exact HU.out _ (Nat.le_refl _) (by omega)
          · exact HU.out j (by omega) hj2⟩
        case measure => simp [intOf]
      · rw [decide_eq_false (by omega)] at e0
        have hm : max ((q : Int) + 1) 0 = (q : Int) + 1 := by omega
        have HE := Lib.hid he
        clear he
        go_wp2_with fail
        go_region
        go_wp2_with fail
        go_ret
        exact ⟨q + 1, by simp, hk, HU.out, HW.out.drew⟩
end Go.Proofs.Jn
end

section
/-
  Walks of the reference: apart.
-/
namespace Go.Proofs.Jn
open Go.RowKit

/-- A plan of some arms; those that are not planned have empty rows. -/
def PRows (K : Nat) (rows : List (List Nat)) : Prop := ∀ l ∈ rows, l = [] ∨ l.length = K + 1
/-- A move clashes with none of the arms that are planned. -/
def AptM (T : Tm) (rows : List (List Nat)) (m : Mv) (t : Nat) : Prop := ∀ (i : Nat) (l : List Nat), rows[i]? = some l → l ≠ [] → i ≠ m.arm → clashB T.cs m ⟨i, atOf l t, atOf l (t + 1)⟩ = false

set_option maxRecDepth 100000 in
set_option maxHeartbeats 4000000 in
theorem apart_any (om oc op : Option Addr) (cm cc cp : Nat) (T : Tm) (rows : List (List Nat)) (K : Nat) (m : Mv) (t : Nat) (w : World) (hO : TeamOk T) (hT : TeamAt w om oc T) (hR : PRows K rows) (hrn : rows.length ≤ 4) (hK : K ≤ 64) (ht : t < K) (hL : LL w op rows) :
    Calls Try.prog 61 #[.agg #[.slice om T.ms.length cm, .slice oc T.cs.length cc], .slice op rows.length cp, .agg #[.int .i64 (m.arm : Nat), .int .i64 (m.x : Nat), .int .i64 (m.y : Nat)], .int .i64 (t : Nat)] w fun e W => ∃ b : Bool, e = .returned (.bool b) ∧ (b = true ↔ AptM T rows m t) ∧ Below w.heap.size w W := by
  obtain ⟨vs, hSl, hvl, hrow⟩ := hL
  have HVL := Lib.hid hvl
  have HPR := Lib.hid hR
  have hcn := hO.cn
  clear hvl hR
  go_enter Try.func61, Try.ntmps61
  go_upto_region 1 with fail
  have hbx_ := boxes2 w [.slice om T.ms.length cm, .slice oc T.cs.length cc] [.int .i64 (m.arm : Nat), .int .i64 (m.x : Nat), .int .i64 (m.y : Nat)] 26 65
  replace hT := hT.keep hbx_.2.2
  replace hSl := hSl.keep hbx_.2.2
  have HB := Lib.hid (hbx_.2.2)
  generalize (w.alloc (.cells #[.slice om T.ms.length cm, .slice oc T.cs.length cc] 26)).alloc (.cells #[.int .i64 (m.arm : Nat), .int .i64 (m.x : Nat), .int .i64 (m.y : Nat)] 65) = W0 at hbx_ hT hSl HB ⊢
  obtain ⟨r4, r6, hbel_⟩ := hbx_
  generalize w.heap.size + 1 = n6 at r6  ⊢
  obtain ⟨n4, hn_⟩ : ∃ n, n = w.heap.size := ⟨_, rfl⟩
  rw [← hn_] at r4 ⊢
  clear hn_ hbel_
  have hrow2 : ∀ (i : Nat) (v : Value) (l : List Nat), vs[i]? = some v → rows[i]? = some l → ∃ o c, v = .slice o l.length c ∧ Sl W0 o 1 (nvals l) := fun i v l hv hl => by
    obtain ⟨o, c, h1, h2⟩ := hrow i v l hv hl
    exact ⟨o, c, h1, h2.keep HB.out⟩
  have HROW := Lib.hid hrow2
  have HT := Lib.hid hT
  have HSL := Lib.hid hSl
  have HR4 := Lib.hid r4
  have HR6 := Lib.hid r6
  clear hrow hrow2 hT hSl r4 r6
  go_wp2_with fail
  go_loopw [9] (fun i W => ∃ k : Nat, i = .int .i64 (k : Nat) ∧ k ≤ rows.length ∧ Below W0.heap.size W0 W ∧ ∀ (i : Nat) (l : List Nat), i < k → rows[i]? = some l → l ≠ [] → i ≠ m.arm → clashB T.cs m ⟨i, atOf l t, atOf l (t + 1)⟩ = false) (fun i _ => rows.length - (intOf i).toNat)
  case atStart => exact ⟨0, rfl, Nat.zero_le _, Below.refl _ _, fun i l h => absurd h (Nat.not_lt_zero _)⟩
  case round =>
    obtain ⟨k, rfl, hk, hW, hU⟩ := hrel
    obtain ⟨Wa, rfl⟩ : ∃ X, X = wr := ⟨_, rfl⟩
    have HW := Lib.hid hW
    have HU := Lib.hid hU
    clear hU
    by_cases hlt : k < rows.length
    · obtain ⟨v, hv⟩ : ∃ v, vs[k]? = some v := ⟨_, List.getElem?_eq_getElem (by rw [HVL.out]; exact hlt)⟩
      obtain ⟨l, hl⟩ : ∃ l, rows[k]? = some l := ⟨_, List.getElem?_eq_getElem hlt⟩
      obtain ⟨o, c, rfl, hs⟩ := HROW.out k v l hv hl
      obtain ⟨bp, offp, rfl, hPr⟩ := HSL.out (map_ne (k := k) (by rw [HVL.out]; exact hlt))
      have y0 : Wa.cell? ⟨bp, offp + k, none⟩ = some (.slice o l.length c) := by have := (hPr.keep hW).c k _ (map_get hv) 0 _ rfl; simpa using this
      have ly := (hPr.keep hW).lt
      have hki : (k : Int) < (rows.length : Int) := by omega
      have HL := Lib.hid hl
      have HPP := Lib.hid hPr
      have HS := Lib.hid hs
      have R6 := HR6.out.keep hW
      have z0 : Wa.cell? ⟨n6, 0, none⟩ = some (.int .i64 (m.arm : Nat)) := R6.c 0 _ rfl
      have z1 : Wa.cell? ⟨n6, 1, none⟩ = some (.int .i64 (m.x : Nat)) := R6.c 1 _ rfl
      have z2 : Wa.cell? ⟨n6, 2, none⟩ = some (.int .i64 (m.y : Nat)) := R6.c 2 _ rfl
      have l6 := R6.lt
      clear hv hl hs hPr hW R6
      have step : ∀ (X : World), Below W0.heap.size W0 X → (l ≠ [] → k ≠ m.arm → clashB T.cs m ⟨k, atOf l t, atOf l (t + 1)⟩ = false) → ∃ q : Nat, Value.int .i64 ((k : Int) + 1) = .int .i64 (q : Nat) ∧ q ≤ rows.length ∧ Below W0.heap.size W0 X ∧ ∀ (i : Nat) (l : List Nat), i < q → rows[i]? = some l → l ≠ [] → i ≠ m.arm → clashB T.cs m ⟨i, atOf l t, atOf l (t + 1)⟩ = false := fun X hX hc => ⟨k + 1, by simp, by omega, hX, fun i l' hi hl' h1 h2 => by
        by_cases e : i = k
        · subst e
          have := HL.out.symm.trans hl'
          injection this with this
          subst this
          exact hc h1 h2
        · exact HU.out i l' (by omega) hl' h1 h2⟩
      have HST := Lib.hid step
      clear step
      by_cases hz : l.length = 0
      · rw [hz] at y0
        have hnil : l = [] := List.length_eq_zero_iff.1 hz
        have d1 : decide ((0 : Int) > 0) = false := rfl
        have HN := Lib.hid hnil
        clear hz hnil z0 z1 z2 l6
        go_wp2_with fail
        go_region
        go_wp2_with fail
        go_roundw
        case rel => exact HST.out _ HW.out.drew fun h => absurd HN.out h
        case measure => simp [intOf]; omega
      · have hll : l.length = K + 1 := by
          rcases HPR.out l (List.mem_of_getElem? HL.out) with h | h
          · rw [h] at hz; exact absurd rfl hz
          · exact h
        rw [hll] at y0
        have d0 : (0 : Int) < (K : Int) + 1 := by omega
        have d1 : decide ((K : Int) + 1 > 0) = true := decide_eq_true d0
        by_cases hka : k = m.arm
        · have e0 := int_bne (k : Int) (m.arm : Int)
          rw [decide_eq_false (by omega)] at e0
          have HKA := Lib.hid hka
          clear hz hka
          go_wp2_with fail
          go_region
          go_wp2_with fail
          go_roundw
          case rel => exact HST.out _ HW.out.drew fun _ h => absurd HKA.out h
          case measure => simp [intOf]; omega
        · have e0 := int_bne (k : Int) (m.arm : Int)
          rw [decide_eq_true (by omega)] at e0
          have hmv := moveAt_any l o c k t Wa.drew ((HS.out.keep HW.out).keep (Below.refl _ _).drew) (by omega) (by omega)
          have hclash := fun X (hX : Below W0.heap.size W0 X) => clash_any om oc cm cc T m ⟨k, atOf l t, atOf l (t + 1)⟩ X hcn (HT.out.keep hX)
          unfold Tm.val at hclash
          generalize hcb : clashB T.cs m ⟨k, atOf l t, atOf l (t + 1)⟩ = cb at hclash
          rw [hll] at hmv
          have HCB := Lib.hid hcb
          have HNE : Hid (l ≠ [] ∧ k ≠ m.arm) := Lib.hid ⟨fun h => hz (by rw [h]; rfl), hka⟩
          have HMV := Lib.hid hmv
          have HCLA := Lib.hid hclash
          have R4 := HR4.out.keep HW.out
          have a0 : Wa.cell? ⟨n4, 0, none⟩ = some (.slice om T.ms.length cm) := R4.c 0 _ rfl
          have a1 : Wa.cell? ⟨n4, 1, none⟩ = some (.slice oc T.cs.length cc) := R4.c 1 _ rfl
          have l4 := R4.lt
          have hS0 : Wa.cell? ⟨n4, 0, none⟩ = some (.slice om T.ms.length cm) ∧ Wa.cell? ⟨n4, 1, none⟩ = some (.slice oc T.cs.length cc) ∧ Wa.cell? ⟨n6, 0, none⟩ = some (.int .i64 (m.arm : Nat)) ∧ Wa.cell? ⟨n6, 1, none⟩ = some (.int .i64 (m.x : Nat)) ∧ Wa.cell? ⟨n6, 2, none⟩ = some (.int .i64 (m.y : Nat)) ∧ Wa.cell? ⟨bp, offp + k, none⟩ = some (.slice o (K + 1) c) := ⟨a0, a1, z0, z1, z2, y0⟩
          clear hmv hclash R4 hz hka hll hcb
          go_wp2_with fail
          go_region_held3 (fun X => X.cell? ⟨n4, 0, none⟩ = some (.slice om T.ms.length cm) ∧ X.cell? ⟨n4, 1, none⟩ = some (.slice oc T.cs.length cc) ∧ X.cell? ⟨n6, 0, none⟩ = some (.int .i64 (m.arm : Nat)) ∧ X.cell? ⟨n6, 1, none⟩ = some (.int .i64 (m.x : Nat)) ∧ X.cell? ⟨n6, 2, none⟩ = some (.int .i64 (m.y : Nat)) ∧ X.cell? ⟨bp, offp + k, none⟩ = some (.slice o (K + 1) c))
            (first
              | exact hS0
              | assumption)
            (first
              | (go_at_call 37
                 with_reducible refine HMV.out.mono ?_
                 rintro e Xa ⟨rfl, hba⟩
                 have hVa : Below Wa.heap.size Wa Xa := (Below.refl _ _).drew.trans hba
                 have HVa := Lib.hid hVa
                 have hSa : Xa.cell? ⟨n4, 0, none⟩ = some (.slice om T.ms.length cm) ∧ Xa.cell? ⟨n4, 1, none⟩ = some (.slice oc T.cs.length cc) ∧ Xa.cell? ⟨n6, 0, none⟩ = some (.int .i64 (m.arm : Nat)) ∧ Xa.cell? ⟨n6, 1, none⟩ = some (.int .i64 (m.x : Nat)) ∧ Xa.cell? ⟨n6, 2, none⟩ = some (.int .i64 (m.y : Nat)) ∧ Xa.cell? ⟨bp, offp + k, none⟩ = some (.slice o (K + 1) c) :=
                   ⟨(hVa.cell (p := ⟨n4, 0, none⟩) l4).trans a0, (hVa.cell (p := ⟨n4, 1, none⟩) l4).trans a1, (hVa.cell (p := ⟨n6, 0, none⟩) l6).trans z0, (hVa.cell (p := ⟨n6, 1, none⟩) l6).trans z1, (hVa.cell (p := ⟨n6, 2, none⟩) l6).trans z2, (hVa.cell (p := ⟨bp, offp + k, none⟩) ly).trans y0⟩
                 clear hba hVa)
              | (go_at_call 24
                 have hxx := HVa; clear hxx
                 with_reducible refine (HCLA.out Xa (below_call HW.out HVa.out)).mono ?_
                 rintro e Xb ⟨rfl, hbb⟩
                 have hVb := below_call HVa.out hbb
                 have HVb := Lib.hid hVb
                 have hSb : Xb.cell? ⟨n4, 0, none⟩ = some (.slice om T.ms.length cm) ∧ Xb.cell? ⟨n4, 1, none⟩ = some (.slice oc T.cs.length cc) ∧ Xb.cell? ⟨n6, 0, none⟩ = some (.int .i64 (m.arm : Nat)) ∧ Xb.cell? ⟨n6, 1, none⟩ = some (.int .i64 (m.x : Nat)) ∧ Xb.cell? ⟨n6, 2, none⟩ = some (.int .i64 (m.y : Nat)) ∧ Xb.cell? ⟨bp, offp + k, none⟩ = some (.slice o (K + 1) c) :=
                   ⟨(hVb.cell (p := ⟨n4, 0, none⟩) l4).trans a0, (hVb.cell (p := ⟨n4, 1, none⟩) l4).trans a1, (hVb.cell (p := ⟨n6, 0, none⟩) l6).trans z0, (hVb.cell (p := ⟨n6, 1, none⟩) l6).trans z1, (hVb.cell (p := ⟨n6, 2, none⟩) l6).trans z2, (hVb.cell (p := ⟨bp, offp + k, none⟩) ly).trans y0⟩
                 clear hbb hVb))
          all_goals
            have HXX := Lib.hid (below_call HW.out HVb.out)
            clear hS0 hSa hSb a0 a1 z0 z1 z2 y0 l4 l6 ly d0 d1 e0
            cases cb with
            | false =>
              go_wp2_with fail
              go_roundw
              case rel => exact HST.out _ HXX.out fun _ _ => HCB.out
              case measure => simp [intOf]; omega
            | true =>
              go_wp2_with fail
              go_ret
              refine ⟨false, rfl, ⟨fun h => (by cases h), fun h => ?_⟩, below_call HB.out HXX.out⟩
              have := h k l HL.out HNE.out.1 HNE.out.2
              rw [HCB.out] at this
              cases this
    · have HAP : Hid (AptM T rows m t) := Lib.hid fun i l hl h1 h2 => HU.out i l (by have := (List.getElem?_eq_some_iff.1 hl).1; omega) hl h1 h2
      clear hW
      go_wp2
      go_ret
      exact ⟨true, rfl, by simp [HAP.out], below_call HB.out HW.out⟩
end Go.Proofs.Jn
end

section
/-
  The plain law of planning one arm after another.
-/
namespace Go.Proofs.Jn
open Go.RowKit

theorem clash_symm (cs : List Cf) (a b : Mv) : clashB cs a b = clashB cs b a := by
  unfold clashB
  congr 1
  funext c
  rw [Bool.or_comm, Bool.and_comm, Bool.and_comm (decide (c.a = a))]
/-- A plan of those arms whose rows are not empty. -/
structure PlanP (T : Tm) (ps qs : List Nat) (K : Nat) (rows : List (List Nat)) : Prop where
  len : rows.length = T.ms.length
  kk : PRows K rows
  st : ∀ (k : Nat) (l : List Nat), rows[k]? = some l → l ≠ [] → atOf l 0 = atOf ps k ∧ atOf l K = atOf qs k
  lg : ∀ (k : Nat) (l : List Nat), rows[k]? = some l → l ≠ [] → ∀ t, t < K → legB T ⟨k, atOf l t, atOf l (t + 1)⟩ = true
  cl : ∀ (k k' : Nat) (l l' : List Nat), rows[k]? = some l → rows[k']? = some l' → l ≠ [] → l' ≠ [] → k ≠ k' → ∀ t, t < K → clashB T.cs ⟨k, atOf l t, atOf l (t + 1)⟩ ⟨k', atOf l' t, atOf l' (t + 1)⟩ = false
theorem PlanP.nil (T : Tm) (ps qs : List Nat) (K : Nat) : PlanP T ps qs K (List.replicate T.ms.length []) := by
  have h : ∀ (k : Nat) (l : List Nat), (List.replicate T.ms.length ([] : List Nat))[k]? = some l → l = [] := fun k l h => by
    have := List.mem_of_getElem? h
    exact (List.mem_replicate.1 this).2
  exact ⟨by simp, fun l hl => .inl (List.mem_replicate.1 hl).2, fun k l h1 h2 => absurd (h k l h1) h2, fun k l h1 h2 => absurd (h k l h1) h2, fun k k' l l' h1 _ h2 => absurd (h k l h1) h2⟩
theorem PlanP.add {T : Tm} {ps qs : List Nat} {K : Nat} {rows : List (List Nat)} (h : PlanP T ps qs K rows) {k : Nat} (hk : k < T.ms.length) {l : List Nat} (hl : l.length = K + 1) (h0 : atOf l 0 = atOf ps k) (hK : atOf l K = atOf qs k)
    (hs : ∀ i, i < K → legB T ⟨k, atOf l i, atOf l (i + 1)⟩ = true ∧ AptM T rows ⟨k, atOf l i, atOf l (i + 1)⟩ i) : PlanP T ps qs K (rows.set k l) := by
  have hkr : k < rows.length := by rw [h.len]; exact hk
  have get : ∀ (j : Nat) (x : List Nat), (rows.set k l)[j]? = some x → (j = k ∧ x = l) ∨ (j ≠ k ∧ rows[j]? = some x) := fun j x hx => by
    rw [List.getElem?_set] at hx
    by_cases e : k = j
    · rw [if_pos e] at hx
      subst e
      simp [hkr] at hx
      exact .inl ⟨rfl, hx.symm⟩
    · rw [if_neg e] at hx
      exact .inr ⟨fun e2 => e e2.symm, hx⟩
  refine ⟨by rw [List.length_set, h.len], fun x hx => ?_, fun j x hx hn => ?_, fun j x hx hn => ?_, fun j j' x x' hx hx' hn hn' hne t ht => ?_⟩
  · obtain ⟨j, hj⟩ := List.mem_iff_getElem?.1 hx
    rcases get j x hj with ⟨-, rfl⟩ | ⟨-, h2⟩
    · exact .inr hl
    · exact h.kk x (List.mem_of_getElem? h2)
  · rcases get j x hx with ⟨rfl, rfl⟩ | ⟨-, h2⟩
    · exact ⟨h0, hK⟩
    · exact h.st j x h2 hn
  · rcases get j x hx with ⟨rfl, rfl⟩ | ⟨-, h2⟩
    · exact fun t ht => (hs t ht).1
    · exact h.lg j x h2 hn
  · rcases get j x hx with ⟨rfl, rfl⟩ | ⟨h1, h2⟩ <;> rcases get j' x' hx' with ⟨rfl, rfl⟩ | ⟨h3, h4⟩
    · exact absurd rfl hne
    · exact (hs t ht).2 j' x' h4 hn' h3
    · rw [clash_symm]; exact (hs t ht).2 j x h2 hn h1
    · exact h.cl j j' x x' h2 h4 hn hn' hne t ht
/-- The joint configuration of a plan at a tick. -/
def tickR (n : Nat) (rows : List (List Nat)) (t : Nat) : List Nat := (List.range n).map fun k => atOf (rows.getD k []) t
theorem tickR_at {n : Nat} {rows : List (List Nat)} {t k : Nat} {l : List Nat} (hk : k < n) (hl : rows[k]? = some l) : atOf (tickR n rows t) k = atOf l t := by
  simp [atOf, tickR, hk, List.getD, hl]
/-- A whole plan, from its last change on at the goals, is a way of that many moves. -/
theorem prio_reach {T : Tm} (hO : TeamOk T) {ps qs : List Nat} (hp : InR T ps) (hq : InR T qs) {K : Nat} {rows : List (List Nat)} (h : PlanP T ps qs K rows) (hall : ∀ (k : Nat) (l : List Nat), rows[k]? = some l → l ≠ [])
    {last : Nat} (hK : last ≤ K) (hst : ∀ (k : Nat) (l : List Nat), rows[k]? = some l → atOf l last = atOf l K) : LReach T ps last qs := by
  have row : ∀ k, k < T.ms.length → ∃ l, rows[k]? = some l := fun k hk => ⟨_, List.getElem?_eq_getElem (by rw [h.len]; exact hk)⟩
  have ext : ∀ (t : Nat) (xs : List Nat), xs.length = T.ms.length → (∀ (k : Nat) (l : List Nat), rows[k]? = some l → atOf l t = atOf xs k) → tickR T.ms.length rows t = xs := fun t xs hx he => by
    apply List.ext_getElem?
    intro k
    by_cases hk : k < T.ms.length
    · obtain ⟨l, hl⟩ := row k hk
      rw [atOf_get (by simp [tickR]; exact hk), tickR_at hk hl, he k l hl, ← atOf_get (by rw [hx]; exact hk)]
    · rw [List.getElem?_eq_none (by simp [tickR]; omega), List.getElem?_eq_none (by omega)]
  have key : ∀ t, t ≤ K → LReach T ps t (tickR T.ms.length rows t) ∧ InR T (tickR T.ms.length rows t) := by
    intro t
    induction t with
    | zero =>
      intro _
      have := ext 0 ps hp.1 fun k l hl => (h.st k l hl (hall k l hl)).1
      rw [this]
      exact ⟨rfl, hp⟩
    | succ t ih =>
      intro ht
      obtain ⟨h1, h2⟩ := ih (by omega)
      have hm : tickR T.ms.length rows (t + 1) ∈ (movesE T (tickR T.ms.length rows t)).2 := by
        rw [mem_moves (by rw [h2.1]; exact hO.n2) (by simp [tickR])]
        intro j hj
        rw [h2.1] at hj
        obtain ⟨m, hm⟩ : ∃ m, T.ms[j]? = some m := ⟨_, List.getElem?_eq_getElem hj⟩
        obtain ⟨l, hl⟩ := row j hj
        have h4 := h.lg j l hl (hall j l hl) t (by omega)
        obtain ⟨m', hm', hx, hy, -⟩ := legB_of h4
        simp only at hm' hx hy
        rw [hm] at hm'
        injection hm' with hm'
        subst hm'
        rw [tickR_at hj hl, tickR_at hj hl, mem_next (hO.mo m (List.mem_of_getElem? hm)) hm hx hy]
        refine ⟨h4, ?_⟩
        rw [free_clash, List.all_eq_true]
        intro i hi
        have hij := List.mem_range.1 hi
        obtain ⟨l', hl'⟩ := row i (by omega)
        rw [tickR_at hj hl, tickR_at hj hl, tickR_at (by omega) hl', tickR_at (by omega) hl']
        have := h.cl j i l l' hl hl' (hall j l hl) (hall i l' hl') (by omega) t (by omega)
        simp [this]
      exact ⟨⟨_, h1, hm⟩, inr_step hO h2 hm⟩
  have := (key last hK).1
  rw [ext last qs hq.1 fun k l hl => by rw [hst k l hl]; exact (h.st k l hl (hall k l hl)).2] at this
  exact this
end Go.Proofs.Jn
end

section
/-
  The plain law without conflicts: each arm by itself.
-/
namespace Go.Proofs.Jn
open Go.RowKit

/-- One arm goes from x to y in n legal moves (staying counts). -/
def ArmR (T : Tm) (k : Nat) : Nat → Nat → Nat → Prop
  | 0, x, y => x = y
  | n + 1, x, y => ∃ z, ArmR T k n x z ∧ legB T ⟨k, z, y⟩ = true
theorem clash_nil (a b : Mv) : clashB [] a b = false := rfl
theorem mem_free {T : Tm} (hO : TeamOk T) (hc : T.cs = []) {y r : List Nat} (hy : InR T y) (hr : r.length = T.ms.length) (hl : ∀ k, k < T.ms.length → legB T ⟨k, atOf y k, atOf r k⟩ = true) : r ∈ (movesE T y).2 := by
  rw [mem_moves (by rw [hy.1]; exact hO.n2) (by rw [hr, hy.1])]
  intro j hj
  rw [hy.1] at hj
  obtain ⟨m, hm⟩ : ∃ m, T.ms[j]? = some m := ⟨_, List.getElem?_eq_getElem hj⟩
  have h4 := hl j hj
  obtain ⟨m', hm', hx, hy', -⟩ := legB_of h4
  simp only at hm' hx hy'
  rw [hm] at hm'
  injection hm' with hm'
  subst hm'
  rw [mem_next (hO.mo m (List.mem_of_getElem? hm)) hm hx hy']
  refine ⟨h4, ?_⟩
  rw [free_clash, List.all_eq_true, hc]
  intro i hi
  rfl
theorem leg_moves {T : Tm} (hO : TeamOk T) {y r : List Nat} (hy : InR T y) (hr : r ∈ (movesE T y).2) : ∀ k, k < T.ms.length → legB T ⟨k, atOf y k, atOf r k⟩ = true := by
  intro j hj
  have hl : r.length = y.length := LReach.len.moves_len _ hr
  have hin := inr_step hO hy hr
  rw [mem_moves (by rw [hy.1]; exact hO.n2) hl] at hr
  obtain ⟨m, hm⟩ : ∃ m, T.ms[j]? = some m := ⟨_, List.getElem?_eq_getElem hj⟩
  have := (hr j (by rw [hy.1]; exact hj)).1
  rwa [mem_next (hO.mo m (List.mem_of_getElem? hm)) hm (atOf_lt hy hm) (atOf_lt hin hm)] at this
theorem arm_of {T : Tm} (hO : TeamOk T) {ps : List Nat} (hp : InR T ps) : ∀ {n : Nat} {qs : List Nat}, LReach T ps n qs → InR T qs ∧ ∀ k, k < T.ms.length → ArmR T k n (atOf ps k) (atOf qs k)
  | 0, qs, h => by
    have e : qs = ps := h
    subst e
    exact ⟨hp, fun k _ => rfl⟩
  | n + 1, qs, ⟨y, h1, h2⟩ => by
    obtain ⟨h3, h4⟩ := arm_of hO hp h1
    exact ⟨inr_step hO h3 h2, fun k hk => ⟨_, h4 k hk, leg_moves hO h3 h2 k hk⟩⟩
theorem arm_legal {T : Tm} {k n x y : Nat} (h : ArmR T k (n + 1) x y) : ∃ z, ArmR T k n x z ∧ legB T ⟨k, z, y⟩ = true := h
/-- The other way: arms that each get there get there together. -/
theorem of_arm {T : Tm} (hO : TeamOk T) (hc : T.cs = []) {ps : List Nat} (hp : InR T ps) : ∀ {n : Nat} {qs : List Nat}, InR T qs → (∀ k, k < T.ms.length → ArmR T k n (atOf ps k) (atOf qs k)) → LReach T ps n qs
  | 0, qs, hq, h => by
    show qs = ps
    apply List.ext_getElem?
    intro k
    by_cases hk : k < T.ms.length
    · rw [atOf_get (by rw [hq.1]; exact hk), atOf_get (by rw [hp.1]; exact hk)]
      have e : atOf ps k = atOf qs k := h k hk
      rw [e]
    · rw [List.getElem?_eq_none (by rw [hq.1]; omega), List.getElem?_eq_none (by rw [hp.1]; omega)]
  | n + 1, qs, hq, h => by
    have hz : ∀ k, ∃ z, k < T.ms.length → ArmR T k n (atOf ps k) z ∧ legB T ⟨k, z, atOf qs k⟩ = true := fun k => by
      by_cases hk : k < T.ms.length
      · obtain ⟨z, h1, h2⟩ := h k hk
        exact ⟨z, fun _ => ⟨h1, h2⟩⟩
      · exact ⟨0, fun h => absurd h hk⟩
    have hall : ∃ f : Nat → Nat, ∀ k, k < T.ms.length → ArmR T k n (atOf ps k) (f k) ∧ legB T ⟨k, f k, atOf qs k⟩ = true := ⟨fun k => Classical.choose (hz k), fun k => Classical.choose_spec (hz k)⟩
    obtain ⟨f, hf⟩ := hall
    have hat : ∀ k, k < T.ms.length → atOf ((List.range T.ms.length).map f) k = f k := fun k hk => by simp [atOf, hk]
    have hin : InR T ((List.range T.ms.length).map f) := by
      refine ⟨by simp, fun k x m hx hm => ?_⟩
      have hk := (List.getElem?_eq_some_iff.1 hm).1
      simp [hk] at hx
      obtain ⟨m', hm', h1, -, -⟩ := legB_of (hf k hk).2
      simp only at hm' h1
      rw [hm] at hm'
      injection hm' with hm'
      subst hm'
      omega
    refine ⟨_, of_arm hO hc hp hin fun k hk => by rw [hat k hk]; exact (hf k hk).1, mem_free hO hc hin hq.1 fun k hk => by rw [hat k hk]; exact (hf k hk).2⟩
end Go.Proofs.Jn
end

