/-
  Texts put together: Gj Do.
-/
import Derived.Test.YtemchlakoalhcaaZJointLeast24
import Derived.Test.YtemchlakoalhcaaZJointLeast25
import Derived.Test.YtemchlakoalhcaaZJointLeast11
import Derived.Deep.Slices
import Derived.OpenShut
import Derived.ChangeArms
import Derived.ProofKit
import Derived.ChangeSame
import Derived.Carry
import Derived.Below
import Derived.Lib.SmallJoins
set_option linter.unusedVariables false
section
/-
  Walks: JointLeast.
-/
namespace Go.Proofs.Jn
open Go.RowKit Go.Shelf

theorem inr_step {T : Tm} (hO : TeamOk T) {y r : List Nat} (h1 : InR T y) (h2 : r ∈ (movesE T y).2) : InR T r := by
  have hl : r.length = y.length := LReach.len.moves_len _ h2
  refine ⟨by rw [hl, h1.1], fun k x m hx hm => ?_⟩
  have hk := (List.getElem?_eq_some_iff.1 hm).1
  rw [mem_moves (by rw [h1.1]; exact hO.n2) hl] at h2
  have h3 := (h2 k (by rw [h1.1]; exact hk)).1
  have h4 := (next_comp (hO.mo m (List.mem_of_getElem? hm)) hm (atOf_lt h1 hm) h3).1
  have : atOf r k = x := by simp [atOf, hx]
  omega
set_option maxRecDepth 100000 in
set_option maxHeartbeats 4000000 in
theorem least_any (o1 o2 o3 : Option Addr) (c1 c2 c3 : Nat) (xs ys zs : List Int) (tk : Int) (w : World) (h1 : Sl w o1 1 (pvals xs)) (h2 : Sl w o2 1 (pvals ys)) (h3 : Sl w o3 1 (pvals zs)) (lx : xs.length ≤ 9223372036854775807) (ly : ys.length ≤ 9223372036854775807) (lz : zs.length ≤ 9223372036854775807) :
    Calls Try.prog 4 #[.slice o1 xs.length c1, .slice o2 ys.length c2, .slice o3 zs.length c3, .int .i64 tk] w fun e w' => e = .returned (.bool true) ∧ Below w.heap.size w w' := by
  have HTM := Lib.hid (team_any o1 c1 xs w h1 lx)
  obtain ⟨r, hr, hr6⟩ := round_nat tk 6 (by omega) (by omega)
  have hrd : ∀ X, Calls Try.prog 11 #[.int .i64 tk, .int .i64 6] X fun e X' => e = .returned (.int .i64 (r : Nat)) ∧ X' = X := fun X => (round_any tk 6 X (by omega) (by omega)).mono fun _ _ ⟨h, h'⟩ => ⟨by rw [h, show (6 : Int) = ((6 : Nat) : Int) from rfl, hr], h'.symm⟩
  have HRD := Lib.hid hrd
  clear hr hrd
  have hw1 : IntKind.i64.wrap (1 + (r : Int)) = 1 + (r : Int) := IntWalk.i64_in _ (by omega)
  go_enter Try.func4, Try.ntmps4
  go_wp2_with fail
  refine HTM.out.mono ?_
  rintro e W1 ⟨T, om, oc, cm, cc, base, rfl, hO, hmk, hT, -, -, hb⟩
  unfold Tm.val
  replace h2 := h2.keep hb
  replace h3 := h3.keep hb
  have HB1 := Lib.hid hb
  have HO := Lib.hid hO
  have HMK := Lib.hid hmk
  have hn1 := hO.n1
  have hn2 := hO.n2
  clear hb h1 hO hmk HTM
  go_upto_region 2 with fail
  have hbx_ := boxes1 W1 [.slice om T.ms.length cm, .slice oc T.cs.length cc] 26
  replace hT := hT.keep hbx_.2
  replace h2 := h2.keep hbx_.2
  replace h3 := h3.keep hbx_.2
  have HB := Lib.hid (below_call HB1.out (hbx_.2))
  generalize W1.alloc (.cells #[.slice om T.ms.length cm, .slice oc T.cs.length cc] 26) = W2 at hbx_ hT h2 h3 HB ⊢
  obtain ⟨r9, hbel_⟩ := hbx_
  obtain ⟨n9, hn_⟩ : ∃ n, n = W1.heap.size := ⟨_, rfl⟩
  rw [← hn_] at r9 ⊢
  clear hn_ hbel_
  have HT := Lib.hid hT
  have H2 := Lib.hid h2
  have H3 := Lib.hid h3
  have HR9 := Lib.hid r9
  have hva := verts_any om oc o2 cm cc c2 T ys W2 HO.out hT h2 ly
  unfold Tm.val at hva
  have HVA := Lib.hid hva
  have a0 : W2.cell? ⟨n9, 0, none⟩ = some (.slice om T.ms.length cm) := r9.c 0 _ rfl
  have a1 : W2.cell? ⟨n9, 1, none⟩ = some (.slice oc T.cs.length cc) := r9.c 1 _ rfl
  have l9 := r9.lt
  clear hT h2 h3 r9 hva
  go_wp2_with fail
  refine HVA.out.mono ?_
  rintro e W3 ⟨ps, oa, ca, rfl, hla, hra, hsa, hb, -⟩
  have HP : Hid (InR T ps) := Lib.hid ⟨hla, hra⟩
  have HSA := Lib.hid hsa
  have HB3 := Lib.hid hb
  clear a0 a1 l9 hla hra hsa hb HVA
  go_wp2_with fail
  with_reducible refine (HRD.out _).mono ?_
  rintro e X ⟨rfl, rfl⟩
  go_wp2_with fail
  have hci : 1 + (r : Int) = (r : Int) + 1 := by omega
  rw [hci]
  clear hw1 hci
  go_loopw [13, 12] (fun i y W => ∃ (q : Nat) (at' : List Nat) (oat : Option Addr) (cat : Nat), i = .int .i64 (q : Nat) ∧ q ≤ r + 1 ∧ y = .slice oat at'.length cat ∧ InR T at' ∧ LReach T ps q at' ∧ Sl W oat 1 (nvals at') ∧ Below W2.heap.size W2 W ∧ Sl W oa 1 (nvals ps)) (fun i _ _ => r + 1 - (intOf i).toNat)
  case atStart => exact ⟨0, ps, oa, ca, rfl, Nat.zero_le _, rfl, HP.out, rfl, HSA.out, HB3.out, HSA.out⟩
  case round =>
    obtain ⟨q, at', oat, cat, rfl, hq, hy, hin, hre, hsat, hW, hps⟩ := hrel
    subst hy
    obtain ⟨Wa, rfl⟩ : ∃ X, X = wr := ⟨_, rfl⟩
    have r9 := HR9.out.keep hW
    have a0 : Wa.cell? ⟨n9, 0, none⟩ = some (.slice om T.ms.length cm) := r9.c 0 _ rfl
    have a1 : Wa.cell? ⟨n9, 1, none⟩ = some (.slice oc T.cs.length cc) := r9.c 1 _ rfl
    have l9 := r9.lt
    have HIN := Lib.hid hin
    have HRE := Lib.hid hre
    have HW := Lib.hid hW
    have HPS := Lib.hid hps
    by_cases hlt : q < r + 1
    · have hmv := refMoves_any om oc oat cm cc cat T at' Wa HO.out hin (HT.out.keep hW) hsat
      have HMV := Lib.hid hmv
      clear hmv hin hre hsat hW hps r9
      have hqi : decide ((q : Int) < (r : Int) + 1) = true := decide_eq_true (by omega)
      go_wp2_with fail
      refine HMV.out.mono ?_
      rintro e Wb ⟨ol, cl, rfl, hLL, hb⟩
      clear a0 a1 l9 HMV
      have hmem := nextR_moves HO.out HIN.out
      have hRl := nextR_len HO.out (ps := at') T.ms.length []
      have hRb : (nextR T at' T.ms.length []).length ≤ 1000000000000 := by
        have : 1000 ^ T.ms.length ≤ 1000 ^ 4 := Nat.pow_le_pow_right (by omega) hn2
        omega
      generalize nextR T at' T.ms.length [] = R at hLL hmem hRb ⊢
      have HMEM := Lib.hid hmem
      have HLL := Lib.hid hLL
      have HBB := Lib.hid (below_call HW.out hb)
      have HPB := Lib.hid (HPS.out.keep hb)
      clear hmem hLL hb hRl
      by_cases hR : R.length = 0
      · have e0 := int_beq (R.length : Int) 0
        rw [decide_eq_true (by omega)] at e0
        have HBW := Lib.hid (below_call HB.out HBB.out)
        go_wp2_with (go_at_call 13; refine (Try.awake _).mono ?_; rintro e X ⟨rfl, hb⟩)
        go_ret
        exact ⟨rfl, below_call HBW.out hb⟩
      · have e0 := int_beq (R.length : Int) 0
        rw [decide_eq_false (by omega)] at e0
        obtain ⟨p, hpl, hp⟩ : ∃ p : Nat, p < R.length ∧ ∀ X, Below Wb.heap.size Wb X → (if hz : q < zs.length then ∃ zq, zs[q]? = some zq ∧ Calls Try.prog 11 #[.int .i64 zq, .int .i64 R.length] X (fun e X' => e = .returned (.int .i64 (p : Nat)) ∧ X' = X) else p = 0) := by
          by_cases hz : q < zs.length
          · obtain ⟨zq, hzq⟩ : ∃ z, zs[q]? = some z := ⟨_, List.getElem?_eq_getElem hz⟩
            obtain ⟨p, hp, hpl⟩ : ∃ p : Nat, zq % (R.length : Int) = (p : Int) ∧ p < R.length := by
              have h5 := Int.emod_nonneg zq (show (R.length : Int) ≠ 0 by omega)
              have h6 := Int.emod_lt_of_pos zq (show (0 : Int) < (R.length : Int) by omega)
              exact ⟨(zq % (R.length : Int)).toNat, by omega, by omega⟩
            refine ⟨p, hpl, fun X _ => ?_⟩
            rw [dif_pos hz]
            exact ⟨zq, hzq, (round_any zq R.length X (by omega) (by omega)).mono fun _ _ ⟨h, h'⟩ => ⟨by rw [h, hp], h'.symm⟩⟩
          · refine ⟨0, by omega, fun X _ => ?_⟩
            rw [dif_neg hz]
        obtain ⟨vs, hSl, hvl, hvr⟩ := HLL.out
        obtain ⟨vp, hvp⟩ : ∃ v, vs[p]? = some v := ⟨_, List.getElem?_eq_getElem (by rw [hvl]; exact hpl)⟩
        obtain ⟨row, hrow⟩ : ∃ l, R[p]? = some l := ⟨_, List.getElem?_eq_getElem hpl⟩
        obtain ⟨o5, c5, rfl, hs5⟩ := hvr p vp row hvp hrow
        obtain ⟨bl, offl, hol, hlr⟩ := hSl (map_ne (k := p) (by rw [hvl]; exact hpl))
        have x0 : Wb.cell? ⟨bl, offl + p, none⟩ = some (.slice o5 row.length c5) := by have := hlr.c p _ (map_get hvp) 0 _ rfl; simpa using this
        have lx2 := hlr.lt
        have hpi : (p : Int) < (R.length : Int) := by omega
        have hrm := HMEM.out row (List.mem_of_getElem? hrow)
        have HIR := Lib.hid (inr_step HO.out HIN.out hrm)
        have HLR : Hid (LReach T ps (q + 1) row) := Lib.hid ⟨at', HRE.out, hrm⟩
        have HS5 := Lib.hid hs5
        have HPP := Lib.hid hp
        have hq1 : IntKind.i64.wrap ((q : Int) + 1) = (q : Int) + 1 := IntWalk.i64_in _ (by omega)
        clear hSl hvl hvr hvp hrow hs5 hlr hrm hp
        subst hol
        by_cases hz : q < zs.length
        · have hd : decide ((q : Int) < (zs.length : Int)) = true := decide_eq_true (by omega)
          obtain ⟨bz, offz, rfl, hzr⟩ := (H3.out.keep HBB.out) (by simp only [pvals]; exact map_ne hz)
          have hpp := HPP.out
          simp only [dif_pos hz] at hpp
          obtain ⟨zq, hzq, hr2⟩ := hpp Wb (Below.refl _ _)
          have z0 : Wb.cell? ⟨bz, offz + q, none⟩ = some (.int .i64 zq) := by have := hzr.c q [.int .i64 zq] (by simp [pvals, hzq]) 0 _ rfl; simpa using this
          have lz2 := hzr.lt
          have hqz : (q : Int) < (zs.length : Int) := by omega
          have HR2 := Lib.hid hr2
          clear hr2 hzr hzq hpp
          go_wp2_with fail
          with_reducible refine HR2.out.mono ?_
          rintro e X ⟨rfl, hXW⟩
          subst hXW
          go_wp2_with fail
          go_roundw
          case rel => exact ⟨q + 1, row, o5, c5, by simp, by omega, rfl, HIR.out, HLR.out, HS5.out, HBB.out, HPB.out⟩
          case measure => simp [intOf]; omega
        · have hd : decide ((q : Int) < (zs.length : Int)) = false := decide_eq_false (by omega)
          have hpp := HPP.out
          simp only [dif_neg hz] at hpp
          have hp0 := hpp Wb (Below.refl _ _)
          subst hp0
          clear hpp
          rw [Nat.add_zero] at x0
          go_wp2_with fail
          go_roundw
          case rel => exact ⟨q + 1, row, o5, c5, by simp, by omega, rfl, HIR.out, HLR.out, HS5.out, HBB.out, HPB.out⟩
          case measure => simp [intOf]; omega
    · have hqr : q = r + 1 := by omega
      have hd : decide ((q : Int) < (r : Int) + 1) = false := decide_eq_false (by omega)
      have hd2 : decide ((r : Int) + 1 < (r : Int) + 1) = false := decide_eq_false (by omega)
      subst hqr
      have hsol := solve_any om oc oa oat cm cc ca cat T ps at' (r + 1) Wa HO.out HP.out hin (fun m hm => ⟨(HMK.out m hm).n4.2, (HMK.out m hm).n6⟩) (HT.out.keep hW) hps hsat (by omega) (by omega)
      unfold Tm.val at hsol
      have hsol2 : Calls Try.prog 12 #[.agg #[.slice om T.ms.length cm, .slice oc T.cs.length cc], .slice oa ps.length ca, .slice oat at'.length cat, .int .i64 ((r : Int) + 1)] Wa _ := hsol
      have HSOL := Lib.hid hsol2
      have HSAT := Lib.hid hsat
      clear hsol hsol2 hin hre hsat hW hps r9
      go_wp2_with fail
      refine HSOL.out.mono ?_
      rintro e W4 ⟨hb, ⟨rfl, hno⟩ | ⟨gp, rows, rfl, hrl, hLL, hS⟩⟩
      · exact absurd HRE.out (hno (r + 1) (by omega) (Nat.le_refl _))
      · obtain ⟨n', P, hn1', hn2', rfl, hP, -⟩ := hS
        have hvp := vplan_of HO.out HP.out hP
        have hB34 := HW.out
        obtain ⟨row, hrow0⟩ : ∃ row, (rowsP T.ms.length n' P)[0]? = some row := ⟨_, List.getElem?_eq_getElem (by rw [hrl]; exact HO.out.n1)⟩
        have hrl1 := rowsP_len row (List.mem_of_getElem? hrow0)
        obtain ⟨vs, hSl, hvl, hvr⟩ := hLL
        obtain ⟨v0, hv0⟩ : ∃ v, vs[0]? = some v := ⟨_, List.getElem?_eq_getElem (by rw [hvl, hrl]; exact HO.out.n1)⟩
        obtain ⟨o0, c0, rfl, -⟩ := hvr 0 v0 row hv0 hrow0
        obtain ⟨bg, offg, hgp, hGr⟩ := hSl (map_ne (k := 0) (by rw [hvl, hrl]; exact HO.out.n1))
        injection hgp with hgp
        injection hgp with hg1 hg2 _
        subst hg1 hg2
        have hLLk : ∀ X, Below W4.heap.size W4 X → LL X (some ⟨gp, 0, none⟩) (rowsP T.ms.length n' P) := fun X hX => LL.keep ⟨vs, hSl, hvl, hvr⟩ hX
        have hval : ∀ X, Below W4.heap.size W4 X → Calls Try.prog 14 #[.agg #[.slice om T.ms.length cm, .slice oc T.cs.length cc], .slice oa ps.length ca, .slice oat at'.length cat, .slice (some ⟨gp, 0, none⟩) T.ms.length T.ms.length] X (BoolP true X) := fun X hX => by
          have := valid_any om oc oa oat (some ⟨gp, 0, none⟩) cm cc ca cat T.ms.length T ps at' n' (rowsP T.ms.length n' P) X HO.out HP.out HIN.out (HT.out.keep (below_call hB34 (below_call hb hX))) (HPS.out.keep (below_call hb hX)) (HSAT.out.keep (below_call hb hX)) hvp hn1' (by omega) (hLLk X hX)
          rw [hrl] at this
          exact this
        have HVAL := Lib.hid hval
        have HB4 := Lib.hid (below_call HB.out (below_call hB34 hb))
        have hx0 : ∀ X, Below W4.heap.size W4 X → X.cell? ⟨gp, 0, none⟩ = some (.slice o0 (n' + 1) c0) ∧ gp < X.heap.size := fun X hX => by
          have := (hGr.keep hX).c 0 _ (map_get hv0) 0 _ rfl
          rw [hrl1] at this
          exact ⟨by simpa using this, (hGr.keep hX).lt⟩
        have hbx : ∀ X, Below W4.heap.size W4 X → X.cell? ⟨n9, 0, none⟩ = some (.slice om T.ms.length cm) ∧ X.cell? ⟨n9, 1, none⟩ = some (.slice oc T.cs.length cc) ∧ n9 < X.heap.size := fun X hX => by
          have r9 := HR9.out.keep (below_call hB34 (below_call hb hX))
          exact ⟨r9.c 0 _ rfl, r9.c 1 _ rfl, r9.lt⟩
        have HX0 := Lib.hid hx0
        have HBX := Lib.hid hbx
        have hN0 : (0 : Int) < (T.ms.length : Int) := by have := HO.out.n1; omega
        have hpl : ps.length = T.ms.length := HP.out.1
        have e0 := int_beq (T.ms.length : Int) (ps.length : Int)
        rw [decide_eq_true (by omega)] at e0
        have e1 : decide (T.ms.length = ps.length) = true := decide_eq_true hpl.symm
        have e2 : (T.ms.length == ps.length) = true := by simp [hpl]
        clear hval hx0 hbx hLLk hvr hv0 hrow0 hrl1 hSl hvl hGr hvp hrl hP hB34 hb a0 a1 l9 hpl HSOL
        go_wp2_with fail
        refine (Try.awake _).mono ?_
        rintro e X ⟨rfl, hb⟩
        obtain ⟨a0, a1, l9c⟩ := HBX.out X hb
        obtain ⟨x0, lg⟩ := HX0.out X hb
        have HB5 := Lib.hid hb
        have d1 : decide ((n' : Int) + 1 ≥ 2) = true := decide_eq_true (by omega)
        have hw3 : IntKind.i64.wrap ((n' : Int) + 1 - 1) = (n' : Int) + 1 - 1 := IntWalk.i64_in _ (by omega)
        have hw4 : IntKind.i64.wrap (n' : Int) = (n' : Int) := IntWalk.i64_in _ (by omega)
        have d2 : decide ((n' : Int) + 1 - 1 ≤ (r : Int) + 1) = true := decide_eq_true (by omega)
        have d3 : decide ((n' : Int) ≤ (r : Int) + 1) = true := decide_eq_true (by omega)
        clear hb
        go_wp2_with fail
        with_reducible refine (HVAL.out X HB5.out).mono ?_
        rintro e Y ⟨rfl, hb⟩
        have HB6 := Lib.hid (below_call HB4.out (below_call HB5.out hb))
        clear hb a0 a1 l9c x0
        go_wp2
        go_ret
        exact ⟨by simp, HB6.out⟩
end Go.Proofs.Jn
end

section
/-
  What the readings of the arguments say of memory.
-/
namespace Go.Proofs.Jn
open Go.RowKit
theorem list_of {A : Type} (P : Nat → A → Prop) : ∀ n : Nat, (∀ i, i < n → ∃ r, P i r) → ∃ rs : List A, rs.length = n ∧ ∀ (i : Nat) (r : A), rs[i]? = some r → P i r
  | 0, _ => ⟨[], rfl, fun i r h => by simp at h⟩
  | n + 1, h => by
    obtain ⟨rs, hl, hr⟩ := list_of P n fun i hi => h i (by omega)
    obtain ⟨r, hp⟩ := h n (by omega)
    refine ⟨rs ++ [r], by simp [hl], fun i r' hi => ?_⟩
    rcases Nat.lt_or_ge i rs.length with hlt | hge
    · rw [List.getElem?_append_left hlt] at hi
      exact hr i r' hi
    · rw [List.getElem?_append_right hge] at hi
      have : i = n := by
        rcases Nat.eq_or_lt_of_le hge with h | h
        · omega
        · rw [List.getElem?_eq_none (by simp; omega)] at hi; cases hi
      subst this
      have e : i - rs.length = 0 := by omega
      rw [e] at hi
      simp at hi
      subst hi
      exact hp

/-- A slice that is read lies in memory, row for row. -/
theorem open_rows {H : Type} {enc : TypeId × Value → H} {P : Program} {w : World} {base : Nat} {spare : Nat → Bool} {held : Bool} {A : Type} (f : A → List Value) {t e : TypeId} {n fuel : Nat} {v : Value} {x : DataW H × List MemPlace} (ht : P.underlying t = some (.slice e)) (hc : P.cellsOf e = n) (hn : 0 < n)
    (hrow : ∀ (m : Nat) (cs : List Value) (y : DataW H × List MemPlace), DataW.trod enc P w base spare held m e cs = some y → ∃ r : A, cs = f r)
    (h : DataW.trod enc P w base spare held fuel t [v] = some x) : ∃ (oa : Option Addr) (cap : Nat) (rs : List A), v = .slice oa rs.length cap ∧ rs.length ≤ 9223372036854775807 ∧ Sl w oa n (rs.map f) := by
  rcases Go.Deep.open_slice ht h with ⟨h0, _⟩ | ⟨a, len, cap, m, k, D, Pl, h1, hb, hl, hm, hmm, _, hx⟩
  · injection h0 with h0 _
    subst h0
    exact ⟨none, 0, [], rfl, by simp, fun h => absurd rfl h⟩
  · injection h1 with h1 _
    subst h1
    have hlm : len ≤ m := by rw [hmm]; split <;> omega
    obtain ⟨rs, hrl, hr⟩ := list_of (fun i r => w.cells? base (a.add (i * n)) n = some (f r)) len (fun i hi => by
      obtain ⟨cs, c1, c2⟩ := hx i (by omega)
      rw [hc] at c1
      obtain ⟨r, rfl⟩ := hrow _ _ _ c2
      exact ⟨r, c1⟩)
    subst hrl
    refine ⟨some a, cap, rs, rfl, by unfold maxLen at hm; omega, fun hne => ?_⟩
    have hne' : rs ≠ [] := fun h => hne (by simp [h])
    have cell : ∀ (i : Nat) (r : A), rs[i]? = some r → ∀ q u, (f r)[q]? = some u → w.cell? ((a.add (i * n)).add q) = some u := by
      intro i r hi q u hq
      obtain ⟨_, c2, c3⟩ := World.cells?_some (hr i r hi)
      have hqn : q < n := by
        rcases Nat.lt_or_ge q (f r).length with h' | h'
        · omega
        · rw [List.getElem?_eq_none h'] at hq; cases hq
      rw [c3 q hqn, hq]
    -- the slice's address has no spot
    have sp : a.spot = none := by
      cases rs with
      | nil => exact absurd rfl hne'
      | cons r0 rt =>
        obtain ⟨_, c2, c3⟩ := World.cells?_some (hr 0 r0 rfl)
        have c4 := c3 0 hn
        have : (f r0)[0]? = some ((f r0)[0]'(by omega)) := List.getElem?_eq_getElem _
        rw [this] at c4
        cases hs : a.spot with
        | none => rfl
        | some s =>
          exfalso
          have e0 : ((a.add (0 * n)).add 0) = a := by simp [Addr.add]
          rw [e0] at c4
          unfold World.cell? at c4
          rw [hs] at c4
          revert c4
          cases w.heap[a.block]? with
          | none => simp
          | some o => cases o <;> simp
    obtain ⟨b, off, sp'⟩ := a
    simp at sp
    subst sp
    refine ⟨b, off, rfl, ?_, fun i r hi q u hq => ?_⟩
    · cases rs with
      | nil => exact absurd rfl hne'
      | cons r0 rt =>
        obtain ⟨_, c2, c3⟩ := World.cells?_some (hr 0 r0 rfl)
        have c4 := c3 0 hn
        have : (f r0)[0]? = some ((f r0)[0]'(by omega)) := List.getElem?_eq_getElem _
        rw [this] at c4
        rcases Nat.lt_or_ge b w.heap.size with h' | h'
        · exact h'
        · exfalso
          have e0 : (((⟨b, off, none⟩ : Addr).add (0 * n)).add 0) = ⟨b, off, none⟩ := by simp [Addr.add]
          rw [e0] at c4
          simp [World.cell?, Array.getElem?_eq_none h'] at c4
    · rw [List.getElem?_map] at hi
      cases hri : rs[i]? with
      | none => rw [hri] at hi; cases hi
      | some r' =>
        rw [hri] at hi
        simp at hi
        subst hi
        rw [← cell i r' hri q u hq]
        congr 1
        simp only [Addr.add]
        split <;> split <;> simp_all <;> omega

theorem row_int {H : Type} {enc : TypeId × Value → H} {w : World} {base : Nat} {spare : Nat → Bool} {held : Bool} (e : TypeId) (hu : Try.prog.underlying e = some (.int .i64)) (m : Nat) (cs : List Value) (y : DataW H × List MemPlace) (h : DataW.trod enc Try.prog w base spare held m e cs = some y) : ∃ r : Int, cs = [.int .i64 r] := by
  obtain ⟨n, rfl, _⟩ := DataW.trod_int hu h
  exact ⟨n, rfl⟩
theorem clo3 : Try.prog.cellsOf 3 = 1 := by kernel_rfl
theorem open_nums {H : Type} {enc : TypeId × Value → H} {w : World} {base : Nat} {spare : Nat → Bool} {held : Bool} {t e : TypeId} {fuel : Nat} {v : Value} {x : DataW H × List MemPlace} (ht : Try.prog.underlying t = some (.slice e)) (hu : Try.prog.underlying e = some (.int .i64)) (hc : Try.prog.cellsOf e = 1)
    (h : DataW.trod enc Try.prog w base spare held fuel t [v] = some x) : ∃ (oa : Option Addr) (cap : Nat) (rs : List Int), v = .slice oa rs.length cap ∧ rs.length ≤ 9223372036854775807 ∧ Sl w oa 1 (pvals rs) :=
  open_rows (fun p : Int => [.int .i64 p]) ht hc (by omega) (row_int e hu) h
theorem laidOut : laidOutB Try.prog = true := by kernel_rfl
open Go.ChangeShapes Go.WideShapes Go.ChangeAt
set_option linter.unusedVariables false
/-- The post, of a world of which it is known that nothing that stood before has changed. -/
theorem post_below {H : Type} {enc : TypeId × Value → H} {P : Program} {f : Func} {s : ChangeSpec} {apart fresh handsOn again : Bool} {W W' : World} {args : Array Value} {v : Value} {ds gs : List (DataW H)} {before pa pv : List MemPlace}
    (hW : DataW.Whole enc P f.params.toList s.vars apart W args.toList ds gs before)
    (hres : ∀ (b : Nat) (sp : Nat → Bool) (hd : Bool), DataW.TrodAll enc P W' b sp hd f.resultTypes.toList (v.resultList f.resultTypes.size) (s.fn H (ds ++ gs)).results [])
    (hargs : ∀ sp : Nat → Bool, (∀ p ∈ before, sp p.block = true) → DataW.TrodAll enc P W' 0 sp true f.params.toList args.toList (s.fn H (ds ++ gs)).args pa)
    (hvars : ∀ sp : Nat → Bool, (∀ p ∈ before, sp p.block = true) → DataW.TrodVars enc P W' sp s.vars (s.fn H (ds ++ gs)).vars pv)
    (hps : before = pa ++ pv) (hb : Below W.heap.size W W')
    (hok : ∀ (j : Nat) (t : TypeId) (r : Value), f.resultTypes[j]? = some t → (v.resultList f.resultTypes.size)[j]? = some r → Value.okWide P W' .any 0 t r) :
    s.post enc P f apart fresh handsOn again W args v W' := by
  have hlt : ∀ p ∈ before, p.block < W.heap.size := fun p hp => hW.lt p hp
  have hold : ∀ p ∈ before, (fun b => decide (b < W.heap.size)) p.block = true := fun p hp => by simpa using hlt p hp
  refine ⟨ds, gs, before, [], pa, pv, hW, hres _ _ _, hargs _ hold, hvars _ hold, World.keptBut_mono (fun p hp => ⟨hp, ?_⟩) (hb.frame (· ∈ before)), fun _ => ?_⟩
  · rw [hps, List.mem_append] at hp
    exact Or.inr hp
  · obtain ⟨_, _, _, _, _, hz, hn⟩ := hW
    refine ⟨hok, _, _, ([] ++ pa) ++ pv, ⟨[] ++ pa, pv, trodAll_append (hargs _ (fun _ _ => rfl)) (hres _ _ _), hvars _ (fun _ _ => rfl), rfl, ?_, ?_⟩, ?_⟩
    · intro b off hp
      have hin : MemPlace.cell b off ∈ before := by rw [hps]; simpa using hp
      rw [hb.frozen (hlt _ hin)]
      exact hz b off hin
    · intro ha
      have := hn ha
      rw [hps] at this
      simpa using this
    · intro p hp _
      rw [hps]
      simpa using hp


/-- What was read reads as it did. -/
theorem stays {H : Type} {enc : TypeId × Value → H} {P : Program} (hl : laidOutB P = true) {W W' : World} {sp' : Nat → Bool} : ∀ (ts : List TypeId) (vs : List Value) (ds : List (DataW H)) (ps : List MemPlace), (∀ t ∈ ts, P.readableRec t = true ∧ t < P.types.size) →
    DataW.TrodAll enc P W 0 (fun _ => true) true ts vs ds ps → (∀ p ∈ ps, W.sameAt W' p) → (∀ p ∈ ps, sp' p.block = true) → DataW.TrodAll enc P W' 0 sp' true ts vs ds ps
  | [], [], [], ps, _, h, _, _ => h
  | t :: ts, v :: vs, d :: ds, ps, ht, h, h1, h2 => by
    obtain ⟨p, q, a, b, rfl⟩ := h
    exact ⟨p, q, WideElems.Trod_stays hl (ht t (by simp)).1 (ht t (by simp)).2 a (fun x hx => h1 x (by simp [hx])) (fun x hx => h2 x (by simp [hx])), stays hl ts vs ds q (fun t h => ht t (by simp [h])) b (fun x hx => h1 x (by simp [hx])) (fun x hx => h2 x (by simp [hx])), rfl⟩
  | [], _ :: _, _, _, _, h, _, _ => by simp [DataW.TrodAll] at h
  | [], [], _ :: _, _, _, h, _, _ => by simp [DataW.TrodAll] at h
  | _ :: _, [], _, _, _, h, _, _ => by simp [DataW.TrodAll] at h
  | _ :: _, _ :: _, [], _, _, h, _, _ => by simp [DataW.TrodAll] at h

theorem own37 : ownKnob Try.prog.godebug = none := by kernel_rfl
theorem read22 : Try.prog.readableRec 22 = true ∧ 22 < Try.prog.types.size := ⟨by kernel_rfl, of_decide_eq_true (by kernel_rfl)⟩
theorem read3 : Try.prog.readableRec 3 = true ∧ 3 < Try.prog.types.size := ⟨by kernel_rfl, of_decide_eq_true (by kernel_rfl)⟩
end Go.Proofs.Jn
end

