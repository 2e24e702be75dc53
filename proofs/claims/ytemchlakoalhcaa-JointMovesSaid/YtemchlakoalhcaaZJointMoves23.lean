/-
  Texts put together: Gc Gf Kd.
-/
import Derived.Test.YtemchlakoalhcaaZJointMoves22
import Derived.Deep.RegionLawGrows
import Derived.Test.YtemchlakoalhcaaZJointMoves12
set_option linter.unusedVariables false
section
/-
  Walks of the reference: ValidPlan accepts a plan.
-/
namespace Go.Proofs.Jn
open Go.RowKit Go.Shelf

/-- Rows that are a plan. -/
structure VPlan (T : Tm) (ps qs : List Nat) (n : Nat) (rows : List (List Nat)) : Prop where
  len : rows.length = T.ms.length
  rl : ∀ r ∈ rows, r.length = n + 1
  st : ∀ (k : Nat) (r : List Nat), rows[k]? = some r → atOf r 0 = atOf ps k ∧ atOf r n = atOf qs k
  lg : ∀ (t k : Nat) (r : List Nat), t < n → rows[k]? = some r → legB T ⟨k, atOf r t, atOf r (t + 1)⟩ = true
  cl : ∀ (t k i : Nat) (r r' : List Nat), t < n → i < k → rows[k]? = some r → rows[i]? = some r' → clashB T.cs ⟨k, atOf r t, atOf r (t + 1)⟩ ⟨i, atOf r' t, atOf r' (t + 1)⟩ = false
theorem plan_inr {T : Tm} (hO : TeamOk T) {ps qs : List Nat} (hp : InR T ps) {n : Nat} {P : Nat → List Nat} (h : IsPlan T ps qs n P) : ∀ i, i ≤ n → InR T (P i) := by
  intro i
  induction i with
  | zero => intro _; rw [h.1]; exact hp
  | succ i ih =>
    intro hi
    have h1 := ih (by omega)
    have h2 := h.2.2 i (by omega)
    have hl : (P (i + 1)).length = (P i).length := LReach.len.moves_len _ h2
    refine ⟨by rw [hl, h1.1], fun k x m hx hm => ?_⟩
    have hk := (List.getElem?_eq_some_iff.1 hm).1
    rw [mem_moves (by rw [h1.1]; exact hO.n2) hl] at h2
    have h3 := (h2 k (by rw [h1.1]; exact hk)).1
    have h4 := (next_comp (hO.mo m (List.mem_of_getElem? hm)) hm (atOf_lt h1 hm) h3).1
    have : atOf (P (i + 1)) k = x := by simp [atOf, hx]
    omega
theorem vplan_of {T : Tm} (hO : TeamOk T) {ps qs : List Nat} (hp : InR T ps) {n : Nat} {P : Nat → List Nat} (h : IsPlan T ps qs n P) : VPlan T ps qs n (rowsP T.ms.length n P) := by
  have hget : ∀ (k : Nat) (r : List Nat), (rowsP T.ms.length n P)[k]? = some r → k < T.ms.length ∧ ∀ i, i ≤ n → atOf r i = atOf (P i) k := fun k r hr => by
    simp only [rowsP, List.getElem?_map, Option.map_eq_some_iff] at hr
    obtain ⟨j, hj, rfl⟩ := hr
    obtain ⟨hj1, hj2⟩ := List.getElem?_eq_some_iff.1 hj
    simp at hj1 hj2
    subst hj2
    refine ⟨hj1, fun i hi => ?_⟩
    simp only [atOf, List.getElem?_map]
    rw [List.getElem?_range (by omega)]
    simp
  have hstep : ∀ t k, t < n → k < T.ms.length → legB T ⟨k, atOf (P t) k, atOf (P (t + 1)) k⟩ = true ∧ ∀ i, i < k → clashB T.cs ⟨k, atOf (P t) k, atOf (P (t + 1)) k⟩ ⟨i, atOf (P t) i, atOf (P (t + 1)) i⟩ = false := fun t k ht hk => by
    have h1 := plan_inr hO hp h t (by omega)
    have h2 := plan_inr hO hp h (t + 1) (by omega)
    have h3 := h.2.2 t ht
    rw [mem_moves (by rw [h1.1]; exact hO.n2) (by rw [h2.1, h1.1])] at h3
    obtain ⟨h4, h5⟩ := h3 k (by rw [h1.1]; exact hk)
    obtain ⟨m, hm⟩ : ∃ m, T.ms[k]? = some m := ⟨_, List.getElem?_eq_getElem hk⟩
    rw [mem_next (hO.mo m (List.mem_of_getElem? hm)) hm (atOf_lt h1 hm) (atOf_lt h2 hm)] at h4
    rw [free_clash, List.all_eq_true] at h5
    exact ⟨h4, fun i hi => by have := h5 i (List.mem_range.2 hi); simpa using this⟩
  refine ⟨by simp [rowsP], rowsP_len, fun k r hr => ?_, fun t k r ht hr => ?_, fun t k i r r' ht hi hr hr' => ?_⟩
  · obtain ⟨h1, h2⟩ := hget k r hr
    rw [h2 0 (by omega), h2 n (by omega), h.1, h.2.1]
    exact ⟨rfl, rfl⟩
  · obtain ⟨h1, h2⟩ := hget k r hr
    rw [h2 t (by omega), h2 (t + 1) (by omega)]
    exact (hstep t k ht h1).1
  · obtain ⟨h1, h2⟩ := hget k r hr
    obtain ⟨h3, h4⟩ := hget i r' hr'
    rw [h2 t (by omega), h2 (t + 1) (by omega), h4 t (by omega), h4 (t + 1) (by omega)]
    exact (hstep t k ht h1).2 i hi
set_option maxRecDepth 100000 in
set_option maxHeartbeats 4000000 in
theorem valid_any (om oc oa ob op : Option Addr) (cm cc ca cb cp : Nat) (T : Tm) (ps qs : List Nat) (n : Nat) (rows : List (List Nat)) (w : World) (hO : TeamOk T) (hps : InR T ps) (hqs : InR T qs) (hT : TeamAt w om oc T) (hA : Sl w oa 1 (nvals ps)) (hB : Sl w ob 1 (nvals qs)) (hV : VPlan T ps qs n rows) (h1 : 1 ≤ n) (h64 : n ≤ 64) (hL : LL w op rows) :
    Calls Try.prog 14 #[.agg #[.slice om T.ms.length cm, .slice oc T.cs.length cc], .slice oa ps.length ca, .slice ob qs.length cb, .slice op rows.length cp] w (BoolP true w) := by
  have hn1 := hO.n1
  have hn2 := hO.n2
  have hcn := hO.cn
  have HO := Lib.hid hO
  have HPS := Lib.hid hps
  have HQS := Lib.hid hqs
  have HV := Lib.hid hV
  obtain ⟨vs, hSl, hvl, hrow⟩ := hL
  have hrl := hV.len
  have hb1 := int_bne (ps.length : Int) (T.ms.length : Int)
  rw [decide_eq_false (by rw [hps.1]; simp)] at hb1
  have hb2 := int_bne (qs.length : Int) (T.ms.length : Int)
  rw [decide_eq_false (by rw [hqs.1]; simp)] at hb2
  have hb3 := int_bne (rows.length : Int) (T.ms.length : Int)
  rw [decide_eq_false (by rw [hrl]; simp)] at hb3
  have hvp : vs.length = rows.length := hvl
  have HRL := Lib.hid hrl
  have HVL := Lib.hid hvl
  have hrp : 0 < rows.length := by omega
  have hrn : rows.length ≤ 4 := by omega
  clear hO hps hqs hV hrl hvl hvp
  have hck := fun X hX => checkT_any om oc cm cc T X HO.out hX
  have HCK := Lib.hid hck
  clear hck
  go_enter Try.func14, Try.ntmps14
  go_upto_region 1 with fail
  have hbx_ := boxes1 w [.slice om T.ms.length cm, .slice oc T.cs.length cc] 26
  replace hT := hT.keep hbx_.2
  replace hA := hA.keep hbx_.2
  replace hB := hB.keep hbx_.2
  replace hSl := hSl.keep hbx_.2
  have HB := Lib.hid (hbx_.2)
  generalize w.alloc (.cells #[.slice om T.ms.length cm, .slice oc T.cs.length cc] 26) = W0 at hbx_ hT hA hB hSl HB ⊢
  obtain ⟨r4, hbel_⟩ := hbx_
  obtain ⟨n4, hn_⟩ : ∃ n, n = w.heap.size := ⟨_, rfl⟩
  rw [← hn_] at r4 ⊢
  clear hn_ hbel_
  have hrow2 : ∀ (i : Nat) (v : Value) (l : List Nat), vs[i]? = some v → rows[i]? = some l → ∃ o c, v = .slice o l.length c ∧ Sl W0 o 1 (nvals l) := fun i v l hv hl => by
    obtain ⟨o, c, h1, h2⟩ := hrow i v l hv hl
    exact ⟨o, c, h1, h2.keep HB.out⟩
  have HROW := Lib.hid hrow2
  have HCK0 := Lib.hid (HCK.out W0 hT)
  have HT := Lib.hid hT
  have HA := Lib.hid hA
  have HBB := Lib.hid hB
  have HSL := Lib.hid hSl
  clear hrow hrow2 hT hA hB hSl HCK
  have a0 : W0.cell? ⟨n4, 0, none⟩ = some (.slice om T.ms.length cm) := r4.c 0 _ rfl
  have a1 : W0.cell? ⟨n4, 1, none⟩ = some (.slice oc T.cs.length cc) := r4.c 1 _ rfl
  have l4 := r4.lt
  have HR4 := Lib.hid r4
  clear r4
  go_wp2_with fail
  refine HCK0.out.mono ?_
  rintro e W1 ⟨rfl, hb⟩
  have HB1 := Lib.hid hb
  clear a0 a1 l4 HCK0 hb
  have r4 := HR4.out.keep HB1.out
  have a0 : W1.cell? ⟨n4, 0, none⟩ = some (.slice om T.ms.length cm) := r4.c 0 _ rfl
  have l4 := r4.lt
  clear r4
  obtain ⟨bp, offp, rfl, hPr⟩ := HSL.out (map_ne (k := 0) (by rw [HVL.out]; omega))
  have HPR := Lib.hid hPr
  obtain ⟨v0, hv0⟩ : ∃ v, vs[0]? = some v := ⟨_, List.getElem?_eq_getElem (by rw [HVL.out]; exact hrp)⟩
  obtain ⟨l0, hl0⟩ : ∃ l, rows[0]? = some l := ⟨_, List.getElem?_eq_getElem hrp⟩
  obtain ⟨o0, c0, rfl, hs0⟩ := HROW.out 0 v0 l0 hv0 hl0
  have hll0 := HV.out.rl l0 (List.mem_of_getElem? hl0)
  have x0 : W1.cell? ⟨bp, offp, none⟩ = some (.slice o0 (n + 1) c0) := by have := (hPr.keep HB1.out).c 0 _ (map_get hv0) 0 _ rfl; rw [← hll0]; simpa using this
  have lp := (hPr.keep HB1.out).lt
  have hc1 : ((n + 1 : Nat) : Int) = (n : Int) + 1 := by simp
  have hri : (0 : Int) < (rows.length : Int) := by omega
  have d1 : decide ((n : Int) + 1 < 1) = false := decide_eq_false (by omega)
  have d2 : decide ((n : Int) + 1 > 65) = false := decide_eq_false (by omega)
  clear hPr hv0 hl0 hs0 hll0
  go_wp2_with fail
  clear a0 l4 x0 lp d1 d2 hb1 hb2 hb3
  go_loopw [10] (fun i W => ∃ k : Nat, i = .int .i64 (k : Nat) ∧ k ≤ rows.length ∧ Below W0.heap.size W0 W) (fun i _ => rows.length - (intOf i).toNat)
  case atStart => exact ⟨0, rfl, Nat.zero_le _, HB1.out⟩
  case round =>
    obtain ⟨k, rfl, hk, hW⟩ := hrel
    obtain ⟨Wa, rfl⟩ : ∃ X, X = wr := ⟨_, rfl⟩
    by_cases hlt : k < rows.length
    · obtain ⟨v, hv⟩ : ∃ v, vs[k]? = some v := ⟨_, List.getElem?_eq_getElem (by rw [HVL.out]; exact hlt)⟩
      obtain ⟨l, hl⟩ : ∃ l, rows[k]? = some l := ⟨_, List.getElem?_eq_getElem hlt⟩
      obtain ⟨o, c, rfl, hs⟩ := HROW.out k v l hv hl
      have hll := HV.out.rl l (List.mem_of_getElem? hl)
      obtain ⟨hst, hgo⟩ := HV.out.st k l hl
      obtain ⟨bl, offl, rfl, hlr⟩ := (hs.keep hW) (nvals_ne (k := 0) (by omega))
      obtain ⟨ba, offa, rfl, hAr⟩ := (HA.out.keep hW) (nvals_ne (k := k) (by rw [HPS.out.1, ← HRL.out]; exact hlt))
      obtain ⟨bb, offb, rfl, hBr⟩ := (HBB.out.keep hW) (nvals_ne (k := k) (by rw [HQS.out.1, ← HRL.out]; exact hlt))
      have y0 : Wa.cell? ⟨bp, offp + k, none⟩ = some (.slice (some ⟨bl, offl, none⟩) (n + 1) c) := by have := (HPR.out.keep hW).c k _ (map_get hv) 0 _ rfl; rw [← hll]; simpa using this
      have ly := (HPR.out.keep hW).lt
      have z0 : Wa.cell? ⟨bl, offl, none⟩ = some (.int .i64 (atOf ps k : Nat)) := by have := hlr.c 0 _ (nvals_get (atOf_get (by omega))) 0 _ rfl; rw [hst] at this; simpa using this
      have z1 : Wa.cell? ⟨bl, offl + n, none⟩ = some (.int .i64 (atOf qs k : Nat)) := by have := hlr.c n _ (nvals_get (atOf_get (by omega))) 0 _ rfl; rw [hgo] at this; simpa using this
      have lz := hlr.lt
      have p0 : Wa.cell? ⟨ba, offa + k, none⟩ = some (.int .i64 (atOf ps k : Nat)) := by have := hAr.c k _ (nvals_get (atOf_get (by rw [HPS.out.1, ← HRL.out]; exact hlt))) 0 _ rfl; simpa using this
      have q0 : Wa.cell? ⟨bb, offb + k, none⟩ = some (.int .i64 (atOf qs k : Nat)) := by have := hBr.c k _ (nvals_get (atOf_get (by rw [HQS.out.1, ← HRL.out]; exact hlt))) 0 _ rfl; simpa using this
      have lp := hAr.lt
      have lq := hBr.lt
      have hki : (k : Int) < (rows.length : Int) := by omega
      have hkp : (k : Int) < (ps.length : Int) := by rw [HPS.out.1, ← HRL.out]; omega
      have hkq : (k : Int) < (qs.length : Int) := by rw [HQS.out.1, ← HRL.out]; omega
      have hni0 : (0 : Int) < (n : Int) + 1 := by omega
      have hni1 : (n : Int) < (n : Int) + 1 := by omega
      have hw1 : IntKind.i64.wrap ((n : Int) + 1 - 1) = (n : Int) := by rw [IntWalk.i64_in _ (by omega)]; omega
      have hw2 : IntKind.i64.wrap (n : Int) = (n : Int) := IntWalk.i64_in _ (by omega)
      have e1 := int_bne ((n : Int) + 1) ((n : Int) + 1)
      have e2 := int_bne (atOf ps k : Int) (atOf ps k : Int)
      have e3 := int_bne (atOf qs k : Int) (atOf qs k : Int)
      rw [decide_eq_false (by simp)] at e1 e2 e3
      have HW := Lib.hid hW
      clear hv hl hs hst hgo hlr hAr hBr hW
      go_upto_region 9 with fail
      go_quiet (fail)
      have HW2 := Lib.hid (below_call HW.out (below_drew Wa nq))
      clear y0 ly z0 z1 lz p0 q0 lp lq hki hkp hkq hni0 hni1 hw1 hw2 e1 e2 e3
      generalize Wa.drewN nq = V at HW2 ⊢
      go_wp2_with fail
      go_roundw
      case rel => exact ⟨k + 1, by simp, by omega, HW2.out⟩
      case measure => simp [intOf]; omega
    · have HW := Lib.hid hW
      clear hW
      have hmx : max (1 : Int) (n : Int) = (n : Int) := by omega
      have hw1 : IntKind.i64.wrap ((n : Int) + 1 - 1) = (n : Int) := by rw [IntWalk.i64_in _ (by omega)]; omega
      have hw2 : IntKind.i64.wrap (n : Int) = (n : Int) := IntWalk.i64_in _ (by omega)
      go_wp2_with fail
      go_loopw [11] (fun i W => ∃ t : Nat, i = .int .i64 (t : Nat) ∧ t ≤ n ∧ Below W0.heap.size W0 W) (fun i _ => n - (intOf i).toNat)
      case atStart => exact ⟨0, rfl, Nat.zero_le _, HW.out⟩
      case round =>
        clear hk hlt
        obtain ⟨t, rfl, ht, hW2⟩ := hrel
        obtain ⟨Wb, rfl⟩ : ∃ X, X = wr := ⟨_, rfl⟩
        by_cases htn : t < n
        · have HT2 := Lib.hid hW2
          clear hW2
          go_wp2_with fail
          go_loopw [12] (fun i W => ∃ k : Nat, i = .int .i64 (k : Nat) ∧ k ≤ rows.length ∧ Below W0.heap.size W0 W) (fun i _ => rows.length - (intOf i).toNat)
          case atStart => exact ⟨0, rfl, Nat.zero_le _, HT2.out⟩
          case round =>
            obtain ⟨k, rfl, hk, hW3⟩ := hrel
            obtain ⟨Wc, rfl⟩ : ∃ X, X = wr := ⟨_, rfl⟩
            by_cases hlt : k < rows.length
            · obtain ⟨v, hv⟩ : ∃ v, vs[k]? = some v := ⟨_, List.getElem?_eq_getElem (by rw [HVL.out]; exact hlt)⟩
              obtain ⟨l, hl⟩ : ∃ l, rows[k]? = some l := ⟨_, List.getElem?_eq_getElem hlt⟩
              obtain ⟨o, c, rfl, hs⟩ := HROW.out k v l hv hl
              have hll := HV.out.rl l (List.mem_of_getElem? hl)
              have y0 : Wc.cell? ⟨bp, offp + k, none⟩ = some (.slice o l.length c) := by have := (HPR.out.keep hW3).c k _ (map_get hv) 0 _ rfl; simpa using this
              have ly := (HPR.out.keep hW3).lt
              have hki : (k : Int) < (rows.length : Int) := by omega
              have hmv := moveAt_any l o c k t Wc (hs.keep hW3) (by omega) (by omega)
              rw [hll] at hmv y0
              have HLL := Lib.hid hll
              have HMV := Lib.hid hmv
              have HL := Lib.hid hl
              have HW3 := Lib.hid hW3
              clear hmv hv hl hs hW3 hll
              go_wp2_with fail
              with_reducible refine HMV.out.mono ?_
              rintro e X ⟨rfl, hb⟩
              have HX := Lib.hid (below_call HW3.out hb)
              clear y0 ly hb HMV
              go_upto_region 18 with fail
              have hbx_ := boxes1 X [.int .i64 (k : Nat), .int .i64 (atOf l t : Nat), .int .i64 (atOf l (t + 1) : Nat)] 65
              have HY := Lib.hid (below_call HX.out (hbx_.2))
              generalize X.alloc (.cells #[.int .i64 (k : Nat), .int .i64 (atOf l t : Nat), .int .i64 (atOf l (t + 1) : Nat)] 65) = Y at hbx_ HY ⊢
              obtain ⟨r13, hbel_⟩ := hbx_
              obtain ⟨n13, hn_⟩ : ∃ n, n = X.heap.size := ⟨_, rfl⟩
              rw [← hn_] at r13 ⊢
              clear hn_ hbel_
              have hlg := refLegal_ok om oc cm cc T ⟨k, atOf l t, atOf l (t + 1)⟩ Y HO.out (HV.out.lg t k l htn HL.out) (HT.out.keep HY.out)
              have HLG := Lib.hid hlg
              have R4 := HR4.out.keep HY.out
              have a0 : Y.cell? ⟨n4, 0, none⟩ = some (.slice om T.ms.length cm) := R4.c 0 _ rfl
              have a1 : Y.cell? ⟨n4, 1, none⟩ = some (.slice oc T.cs.length cc) := R4.c 1 _ rfl
              have m0 : Y.cell? ⟨n13, 0, none⟩ = some (.int .i64 (k : Nat)) := r13.c 0 _ rfl
              have m1 : Y.cell? ⟨n13, 1, none⟩ = some (.int .i64 (atOf l t : Nat)) := r13.c 1 _ rfl
              have m2 : Y.cell? ⟨n13, 2, none⟩ = some (.int .i64 (atOf l (t + 1) : Nat)) := r13.c 2 _ rfl
              have l4 := R4.lt
              have l13 := r13.lt
              clear hlg R4
              go_wp2_with fail
              with_reducible refine HLG.out.mono ?_
              rintro e Z ⟨rfl, hb⟩
              clear a0 a1 m0 m1 m2 l4 l13 HLG
              have HZ := Lib.hid (below_call HY.out hb)
              have HR13 := Lib.hid (r13.keep hb)
              clear hb r13
              go_wp2_with fail
              go_loopw [14] (fun i W => ∃ q : Nat, i = .int .i64 (q : Nat) ∧ q ≤ k ∧ Below Z.heap.size Z W) (fun i _ => k - (intOf i).toNat)
              case atStart => exact ⟨0, rfl, Nat.zero_le _, Below.refl _ _⟩
              case round =>
                obtain ⟨q, rfl, hq, hW4⟩ := hrel
                obtain ⟨Wd, rfl⟩ : ∃ X, X = wr := ⟨_, rfl⟩
                by_cases hqk : q < k
                · have hW5 := below_call HZ.out hW4
                  obtain ⟨v, hv⟩ : ∃ v, vs[q]? = some v := ⟨_, List.getElem?_eq_getElem (by rw [HVL.out]; omega)⟩
                  obtain ⟨l', hl'⟩ : ∃ l', rows[q]? = some l' := ⟨_, List.getElem?_eq_getElem (by omega)⟩
                  obtain ⟨o', c', rfl, hs⟩ := HROW.out q v l' hv hl'
                  have hll := HV.out.rl l' (List.mem_of_getElem? hl')
                  have y0 : Wd.cell? ⟨bp, offp + q, none⟩ = some (.slice o' l'.length c') := by have := (HPR.out.keep hW5).c q _ (map_get hv) 0 _ rfl; simpa using this
                  have ly := (HPR.out.keep hW5).lt
                  have hqi : (q : Int) < (rows.length : Int) := by omega
                  have hmv := moveAt_any l' o' c' q t Wd.drew ((hs.keep hW5).keep (Below.refl _ _).drew) (by omega) (by omega)
                  have hcl := HV.out.cl t k q l l' htn hqk HL.out hl'
                  have hclash := fun X (hX : Below W0.heap.size W0 X) => clash_any om oc cm cc T ⟨k, atOf l t, atOf l (t + 1)⟩ ⟨q, atOf l' t, atOf l' (t + 1)⟩ X hcn (HT.out.keep hX)
                  rw [hcl] at hclash
                  unfold Tm.val at hclash
                  rw [hll] at hmv y0
                  have HMV := Lib.hid hmv
                  have HCLA := Lib.hid hclash
                  have R4 := HR4.out.keep hW5
                  have R13 := HR13.out.keep hW4
                  have a0 : Wd.cell? ⟨n4, 0, none⟩ = some (.slice om T.ms.length cm) := R4.c 0 _ rfl
                  have a1 : Wd.cell? ⟨n4, 1, none⟩ = some (.slice oc T.cs.length cc) := R4.c 1 _ rfl
                  have m0 : Wd.cell? ⟨n13, 0, none⟩ = some (.int .i64 (k : Nat)) := R13.c 0 _ rfl
                  have m1 : Wd.cell? ⟨n13, 1, none⟩ = some (.int .i64 (atOf l t : Nat)) := R13.c 1 _ rfl
                  have m2 : Wd.cell? ⟨n13, 2, none⟩ = some (.int .i64 (atOf l (t + 1) : Nat)) := R13.c 2 _ rfl
                  have l4 := R4.lt
                  have l13 := R13.lt
                  have HW4 := Lib.hid hW4
                  have HW5 := Lib.hid hW5
                  have hS0 : Wd.cell? ⟨n4, 0, none⟩ = some (.slice om T.ms.length cm) ∧ Wd.cell? ⟨n4, 1, none⟩ = some (.slice oc T.cs.length cc) ∧ Wd.cell? ⟨n13, 0, none⟩ = some (.int .i64 (k : Nat)) ∧ Wd.cell? ⟨n13, 1, none⟩ = some (.int .i64 (atOf l t : Nat)) ∧ Wd.cell? ⟨n13, 2, none⟩ = some (.int .i64 (atOf l (t + 1) : Nat)) ∧ Wd.cell? ⟨bp, offp + q, none⟩ = some (.slice o' (n + 1) c') := ⟨a0, a1, m0, m1, m2, y0⟩
                  clear hmv hv hl' hs hll hcl hclash hW4 hW5 R4 R13
                  go_upto_region 23 with fail
                  go_region_held3 (fun X => X.cell? ⟨n4, 0, none⟩ = some (.slice om T.ms.length cm) ∧ X.cell? ⟨n4, 1, none⟩ = some (.slice oc T.cs.length cc) ∧ X.cell? ⟨n13, 0, none⟩ = some (.int .i64 (k : Nat)) ∧ X.cell? ⟨n13, 1, none⟩ = some (.int .i64 (atOf l t : Nat)) ∧ X.cell? ⟨n13, 2, none⟩ = some (.int .i64 (atOf l (t + 1) : Nat)) ∧ X.cell? ⟨bp, offp + q, none⟩ = some (.slice o' (n + 1) c'))
                    (first
                      | exact hS0
                      | assumption)
                    (first
                      | (go_at_call 37
                         with_reducible refine HMV.out.mono ?_
                         rintro e Xa ⟨rfl, hba⟩
                         have hVa : Below Wd.heap.size Wd Xa := (Below.refl _ _).drew.trans hba
                         have HVa := Lib.hid hVa
                         have hSa : Xa.cell? ⟨n4, 0, none⟩ = some (.slice om T.ms.length cm) ∧ Xa.cell? ⟨n4, 1, none⟩ = some (.slice oc T.cs.length cc) ∧ Xa.cell? ⟨n13, 0, none⟩ = some (.int .i64 (k : Nat)) ∧ Xa.cell? ⟨n13, 1, none⟩ = some (.int .i64 (atOf l t : Nat)) ∧ Xa.cell? ⟨n13, 2, none⟩ = some (.int .i64 (atOf l (t + 1) : Nat)) ∧ Xa.cell? ⟨bp, offp + q, none⟩ = some (.slice o' (n + 1) c') :=
                           ⟨(hVa.cell (p := ⟨n4, 0, none⟩) l4).trans a0, (hVa.cell (p := ⟨n4, 1, none⟩) l4).trans a1, (hVa.cell (p := ⟨n13, 0, none⟩) l13).trans m0, (hVa.cell (p := ⟨n13, 1, none⟩) l13).trans m1, (hVa.cell (p := ⟨n13, 2, none⟩) l13).trans m2, (hVa.cell (p := ⟨bp, offp + q, none⟩) ly).trans y0⟩
                         clear hba hVa)
                      | (go_at_call 24
                         have hxx := HVa; clear hxx
                         with_reducible refine (HCLA.out Xa (below_call HW5.out HVa.out)).mono ?_
                         rintro e Xb ⟨rfl, hbb⟩
                         have hVb := below_call HVa.out hbb
                         have HVb := Lib.hid hVb
                         have hSb : Xb.cell? ⟨n4, 0, none⟩ = some (.slice om T.ms.length cm) ∧ Xb.cell? ⟨n4, 1, none⟩ = some (.slice oc T.cs.length cc) ∧ Xb.cell? ⟨n13, 0, none⟩ = some (.int .i64 (k : Nat)) ∧ Xb.cell? ⟨n13, 1, none⟩ = some (.int .i64 (atOf l t : Nat)) ∧ Xb.cell? ⟨n13, 2, none⟩ = some (.int .i64 (atOf l (t + 1) : Nat)) ∧ Xb.cell? ⟨bp, offp + q, none⟩ = some (.slice o' (n + 1) c') :=
                           ⟨(hVb.cell (p := ⟨n4, 0, none⟩) l4).trans a0, (hVb.cell (p := ⟨n4, 1, none⟩) l4).trans a1, (hVb.cell (p := ⟨n13, 0, none⟩) l13).trans m0, (hVb.cell (p := ⟨n13, 1, none⟩) l13).trans m1, (hVb.cell (p := ⟨n13, 2, none⟩) l13).trans m2, (hVb.cell (p := ⟨bp, offp + q, none⟩) ly).trans y0⟩
                         clear hbb hVb))
                  all_goals
                    have HXX := Lib.hid (below_call HW4.out HVb.out)
                    clear hS0 hSa hSb a0 a1 m0 m1 m2 y0 l4 l13 ly
                    go_wp2_with fail
                    go_roundw
                    case rel => exact ⟨q + 1, by simp, by omega, HXX.out⟩
                    case measure => simp [intOf]; omega
                · have HW6 := Lib.hid (below_call HZ.out hW4)
                  clear hW4
                  go_wp2_with fail
                  go_roundw
                  case rel => exact ⟨k + 1, by simp, by omega, HW6.out⟩
                  case measure => simp [intOf]; omega
            · have HW4 := Lib.hid hW3
              clear hW3
              go_wp2_with fail
              go_roundw
              case rel => exact ⟨t + 1, by simp, by omega, HW4.out⟩
              case measure => simp [intOf]; omega
        · have HEND := Lib.hid (below_call HB.out hW2)
          have htn2 : t = n := by omega
          subst htn2
          clear hW2
          go_wp2
          go_ret
          exact boolP_mk rfl HEND.out
end Go.Proofs.Jn
end

section
/-
  Walks of the reference: placed; lists that next makes.
-/
namespace Go.Proofs.Jn
open Go.RowKit Go.Shelf

set_option maxRecDepth 100000 in
set_option maxHeartbeats 4000000 in
theorem placed_any (om oc oa : Option Addr) (cm cc ca : Nat) (T : Tm) (ps : List Nat) (w : World) (hO : TeamOk T) (hp : InR T ps) (hT : TeamAt w om oc T) (hA : Sl w oa 1 (nvals ps)) :
    Calls Try.prog 38 #[.agg #[.slice om T.ms.length cm, .slice oc T.cs.length cc], .slice oa ps.length ca] w (BoolP true w) := by
  have hn2 := hO.n2
  have HO := Lib.hid hO
  have HP := Lib.hid hp
  have hpl := hp.1
  have hb1 := int_bne (ps.length : Int) (T.ms.length : Int)
  rw [decide_eq_false (by rw [hpl]; simp)] at hb1
  have hpn : ps.length ≤ 4 := by omega
  have HPL := Lib.hid hpl
  clear hO hp hpl
  go_enter Try.func38, Try.ntmps38
  go_upto_region 1 with fail
  have hbx_ := boxes1 w [.slice om T.ms.length cm, .slice oc T.cs.length cc] 26
  replace hT := hT.keep hbx_.2
  replace hA := hA.keep hbx_.2
  have HB := Lib.hid (hbx_.2)
  generalize w.alloc (.cells #[.slice om T.ms.length cm, .slice oc T.cs.length cc] 26) = W0 at hbx_ hT hA HB ⊢
  obtain ⟨r2, hbel_⟩ := hbx_
  obtain ⟨n2', hn_⟩ : ∃ n, n = w.heap.size := ⟨_, rfl⟩
  rw [← hn_] at r2 ⊢
  clear hn_ hbel_
  have HT := Lib.hid hT
  have HA := Lib.hid hA
  have HR2 := Lib.hid r2
  have a0 : W0.cell? ⟨n2', 0, none⟩ = some (.slice om T.ms.length cm) := r2.c 0 _ rfl
  have l2 := r2.lt
  clear hT hA r2
  go_wp2_with fail
  clear a0 l2 hb1
  go_loopw [5] (fun i W => ∃ k : Nat, i = .int .i64 (k : Nat) ∧ k ≤ ps.length ∧ Below W0.heap.size W0 W) (fun i _ => ps.length - (intOf i).toNat)
  case atStart => exact ⟨0, rfl, Nat.zero_le _, Below.refl _ _⟩
  case round =>
    obtain ⟨k, rfl, hk, hW⟩ := hrel
    obtain ⟨Wa, rfl⟩ : ∃ X, X = wr := ⟨_, rfl⟩
    by_cases hlt : k < ps.length
    · obtain ⟨m, hm⟩ : ∃ m, T.ms[k]? = some m := ⟨_, List.getElem?_eq_getElem (by rw [← HPL.out]; exact hlt)⟩
      obtain ⟨bm, offm, rfl, hMr⟩ := (HT.out.keep hW).ms (map_ne (show k < T.ms.length by rw [← HPL.out]; exact hlt))
      obtain ⟨ba, offa, rfl, hAr⟩ := (HA.out.keep hW) (nvals_ne hlt)
      have x0 : Wa.cell? ⟨bm, offm + k * 2, none⟩ = some (.slice m.op m.n m.cp) := hMr.c k _ (map_get hm) 0 _ rfl
      have lm := hMr.lt
      have y0 : Wa.cell? ⟨ba, offa + k, none⟩ = some (.int .i64 (atOf ps k : Nat)) := by have := hAr.c k _ (nvals_get (atOf_get hlt)) 0 _ rfl; simpa using this
      have ly := hAr.lt
      have r2 := HR2.out.keep hW
      have a0 := r2.c 0 _ rfl
      have l2 := r2.lt
      have hpm := atOf_lt HP.out hm
      have hki : (k : Int) < (ps.length : Int) := by omega
      have hkm : (k : Int) < (T.ms.length : Int) := by rw [← HPL.out]; exact hki
      have d1 : decide ((atOf ps k : Int) < 0) = false := decide_eq_false (by omega)
      have d2 : decide ((atOf ps k : Int) ≥ (m.n : Int)) = false := decide_eq_false (by omega)
      have d3 : decide (m.n ≤ atOf ps k) = false := decide_eq_false (by omega)
      have HW := Lib.hid hW
      clear hMr hAr hm hW r2
      go_upto_region 6 with fail
      go_quiet (fail)
      have HW2 := Lib.hid (below_call HW.out (below_drew Wa nq))
      clear x0 lm y0 ly a0 l2 hki hkm d1 d2 d3
      generalize Wa.drewN nq = V at HW2 ⊢
      go_wp2_with fail
      go_roundw
      case rel => exact ⟨k + 1, by simp, by omega, HW2.out⟩
      case measure => simp [intOf]; omega
    · have HW := Lib.hid (below_call HB.out hW)
      clear hW
      go_wp2
      go_ret
      exact boolP_mk rfl HW.out

/-- Lists of lists that a call makes. -/
structure OB (W : World) (base : Nat) (ls : List (List Nat)) (vs : List Value) (vl : Value) : Prop where
  own : W.ownsRow base 22 1 vl vs.length vs
  len : vs.length = ls.length
  row : ∀ (i : Nat) (v : Value) (l : List Nat), vs[i]? = some v → ls[i]? = some l → W.ownsRow base 3 1 v l.length (nflat l)
  ap : ∀ v ∈ vs, ∀ b, v.ownBlock = some b → vl.ownBlock ≠ some b
theorem OB.keep {W W' : World} {base : Nat} {ls : List (List Nat)} {vs : List Value} {vl : Value} (h : OB W base ls vs vl) (hb : Below W.heap.size W W') : OB W' base ls vs vl :=
  ⟨own_keep h.own hb, h.len, fun i v l h1 h2 => own_keep (h.row i v l h1 h2) hb, h.ap⟩
theorem OB.nil (W : World) (base : Nat) : OB W base [] [] (.slice none 0 0) := ⟨World.ownsRow_nil _ _ _ _, rfl, by simp, by simp⟩
theorem OB.app {W W' : World} {base : Nat} {ls : List (List Nat)} {vs : List Value} {vl : Value} (h : OB W base ls vs vl) (v : Value) (l : List Nat) (g c : Nat)
    (ho : W'.ownsRow base 22 1 (.slice (some ⟨g, 0, none⟩) (vs.length + 1) c) (vs.length + 1) (vs ++ [v])) (hg : W.grownBy W' vl.ownBlock) (hat : vl.ownBlock = some g ∨ W.heap.size ≤ g)
    (hv : W.ownsRow base 3 1 v l.length (nflat l)) (hap : ∀ b, v.ownBlock = some b → vl.ownBlock ≠ some b) :
    OB W' base (ls ++ [l]) (vs ++ [v]) (.slice (some ⟨g, 0, none⟩) (vs.length + 1) c) := by
  have hold : ∀ (u : Value) (x : List Nat), W.ownsRow base 3 1 u x.length (nflat x) → (∀ b, u.ownBlock = some b → vl.ownBlock ≠ some b) → W'.ownsRow base 3 1 u x.length (nflat x) := fun u x hu hne =>
    own_blk hu fun b hub hbl hbb => hg.block b hbl (fun e => hne b hub e.symm)
  have hnew : ∀ (u : Value) (x : List Nat), W.ownsRow base 3 1 u x.length (nflat x) → (∀ b, u.ownBlock = some b → vl.ownBlock ≠ some b) → ∀ b, u.ownBlock = some b → (Value.slice (some ⟨g, 0, none⟩) (vs.length + 1) c).ownBlock ≠ some b := fun u x hu hne b hub e => by
    simp [Value.ownBlock] at e
    subst e
    rcases hat with h3 | h3
    · exact hne _ hub h3
    · have := (own_lt hu _ hub).1; omega
  have hrow : ∀ u ∈ vs, ∃ x, W.ownsRow base 3 1 u x.length (nflat x) := fun u hu => by
    obtain ⟨i, hi⟩ := List.getElem?_of_mem hu
    have hj : i < ls.length := by rw [← h.len]; exact (List.getElem?_eq_some_iff.1 hi).1
    exact ⟨ls[i], h.row i u _ hi (List.getElem?_eq_getElem hj)⟩
  refine ⟨by rw [List.length_append]; exact ho, by simp [h.len], fun i u x hu hx => ?_, fun u hu b hub => ?_⟩
  · rcases Nat.lt_trichotomy i vs.length with hi | hi | hi
    · rw [List.getElem?_append_left hi] at hu
      rw [List.getElem?_append_left (by rw [← h.len]; exact hi)] at hx
      exact hold u x (h.row i u x hu hx) (h.ap u (List.mem_of_getElem? hu))
    · rw [hi, List.getElem?_append_right (Nat.le_refl _)] at hu
      rw [hi, h.len, List.getElem?_append_right (Nat.le_refl _)] at hx
      simp at hu hx
      subst hu hx
      exact hold _ _ hv hap
    · rw [List.getElem?_eq_none (by simp; omega)] at hu; cases hu
  · rcases List.mem_append.1 hu with hu | hu
    · obtain ⟨x, hx⟩ := hrow u hu
      exact hnew u x hx (h.ap u hu) b hub
    · simp at hu; subst hu
      exact hnew _ l hv hap b hub
/-- What next lists. -/
def okN' (T : Tm) (ps bs : List Nat) (v : Nat) : Bool := legB T ⟨bs.length, atOf ps bs.length, v⟩ && (List.range bs.length).all fun i => !clashB T.cs ⟨bs.length, atOf ps bs.length, v⟩ ⟨i, atOf ps i, atOf bs i⟩
def nextR (T : Tm) (ps : List Nat) : Nat → List Nat → List (List Nat)
  | 0, bs => [bs]
  | d + 1, bs => (List.range (((T.ms[bs.length]?).map Mp.n).getD 0)).flatMap fun v => if okN' T ps bs v = true then nextR T ps d (bs ++ [v]) else []
theorem mem_nextR {T : Tm} (hO : TeamOk T) {ps : List Nat} (hp : InR T ps) : ∀ (d : Nat) (bs : List Nat), bs.length + d = T.ms.length → ∀ r ∈ nextR T ps d bs, r.length = T.ms.length ∧ (∀ i, i < bs.length → atOf r i = atOf bs i) ∧ ∀ j, bs.length ≤ j → j < T.ms.length → legB T ⟨j, atOf ps j, atOf r j⟩ = true ∧ ∀ i, i < j → clashB T.cs ⟨j, atOf ps j, atOf r j⟩ ⟨i, atOf ps i, atOf r i⟩ = false
  | 0, bs, h, r, hr => by
    simp only [nextR, List.mem_singleton] at hr
    subst hr
    exact ⟨by omega, fun _ _ => rfl, fun j h1 h2 => by omega⟩
  | d + 1, bs, h, r, hr => by
    simp only [nextR, List.mem_flatMap] at hr
    obtain ⟨v, hv, hr⟩ := hr
    split at hr
    · rename_i hok
      obtain ⟨h1, h2, h3⟩ := mem_nextR hO hp d (bs ++ [v]) (by simp; omega) r hr
      have hb : ∀ i, i < bs.length → atOf r i = atOf bs i := fun i hi => by
        rw [h2 i (by simp; omega)]
        simp [atOf, List.getElem?_append_left hi]
      have hk : atOf r bs.length = v := by
        rw [h2 bs.length (by simp)]
        simp [atOf]
      refine ⟨h1, hb, fun j hj1 hj2 => ?_⟩
      rcases Nat.eq_or_lt_of_le hj1 with rfl | hj
      · unfold okN' at hok
        rw [Bool.and_eq_true, List.all_eq_true] at hok
        rw [hk]
        refine ⟨hok.1, fun i hi => ?_⟩
        have := hok.2 i (List.mem_range.2 hi)
        rw [hb i hi]
        simpa using this
      · exact h3 j (by simp; omega) hj2
    · cases hr
/-- What next lists from nothing on are moves. -/
theorem nextR_moves {T : Tm} (hO : TeamOk T) {ps : List Nat} (hp : InR T ps) : ∀ r ∈ nextR T ps T.ms.length [], r ∈ (movesE T ps).2 := by
  intro r hr
  obtain ⟨h1, _, h3⟩ := mem_nextR hO hp T.ms.length [] (by simp) r hr
  rw [mem_moves (by rw [hp.1]; exact hO.n2) (by rw [h1, hp.1])]
  intro j hj
  rw [hp.1] at hj
  obtain ⟨m, hm⟩ : ∃ m, T.ms[j]? = some m := ⟨_, List.getElem?_eq_getElem hj⟩
  obtain ⟨h4, h5⟩ := h3 j (by simp) hj
  have h4' := h4
  obtain ⟨m', hm', hx, hy, _⟩ := legB_of h4'
  simp only at hm' hx hy
  rw [hm] at hm'
  injection hm' with hm'
  subst hm'
  rw [mem_next (hO.mo m (List.mem_of_getElem? hm)) hm hx hy]
  refine ⟨h4, ?_⟩
  rw [free_clash, List.all_eq_true]
  intro i hi
  have := h5 i (List.mem_range.1 hi)
  simpa using this
end Go.Proofs.Jn
end

section
/-
  Arbitrary places: located, placed.
-/
namespace Go.Proofs.Jn
open Go.RowKit Go.Shelf

/-- There is an index of points for each arm. -/
structure LocI (ms : List Rm) (xs : List Int) : Prop where
  len : xs.length = ms.length
  at_ : ∀ (k : Nat) (x : Int) (m : Rm), xs[k]? = some x → ms[k]? = some m → 0 ≤ x ∧ x < (m.n : Int)
theorem pval_at {W : World} {o : Option Addr} {xs : List Int} {k : Nat} {x : Int} (h : Sl W o 1 (pvals xs)) (hx : xs[k]? = some x) : ∃ b off, o = some ⟨b, off, none⟩ ∧ b < W.heap.size ∧ W.cell? ⟨b, off + k, none⟩ = some (.int .i64 x) := by
  obtain ⟨b, off, e, hr⟩ := h (pvals_ne (List.getElem?_eq_some_iff.1 hx).1)
  refine ⟨b, off, e, hr.lt, ?_⟩
  have := hr.c k _ (pvals_get hx) 0 _ rfl
  simpa using this
set_option maxRecDepth 100000 in
set_option maxHeartbeats 4000000 in
theorem located_raw (om oc oa : Option Addr) (cm cc ca lc : Nat) (ms : List Rm) (xs : List Int) (w : World) (hl : ms.length ≤ 100) (hxl : xs.length ≤ 100) (hms : Sl w om 2 (ms.map Rm.vals)) (hA : Sl w oa 1 (pvals xs)) :
    Calls Try.prog 30 #[.agg #[.slice om ms.length cm, .slice oc lc cc], .slice oa xs.length ca] w (VerP (LocI ms xs) w) := by
  go_enter Try.func30, Try.ntmps30
  go_upto_region 1 with fail
  have hbx_ := boxes1 w [.slice om ms.length cm, .slice oc lc cc] 26
  replace hms := hms.keep hbx_.2
  replace hA := hA.keep hbx_.2
  have HB := Lib.hid (hbx_.2)
  generalize w.alloc (.cells #[.slice om ms.length cm, .slice oc lc cc] 26) = W0 at hbx_ hms hA HB ⊢
  obtain ⟨r2, hbel_⟩ := hbx_
  obtain ⟨n2, hn_⟩ : ∃ n, n = w.heap.size := ⟨_, rfl⟩
  rw [← hn_] at r2 ⊢
  clear hn_ hbel_
  have HMS := Lib.hid hms
  have HA := Lib.hid hA
  have HR2 := Lib.hid r2
  have a0 : W0.cell? ⟨n2, 0, none⟩ = some (.slice om ms.length cm) := r2.c 0 _ rfl
  have l2 := r2.lt
  clear hms hA r2
  by_cases hle : xs.length = ms.length
  · have d0 := int_bne (xs.length : Int) (ms.length : Int)
    rw [decide_eq_false (by omega)] at d0
    have HLE := Lib.hid hle
    clear hle
    go_wp2_with fail
    clear a0 l2 d0
    go_loopw [5, 6, 15] (fun _ _ i W => ∃ k : Nat, k ≤ xs.length ∧ i = .int .i64 (k : Nat) ∧ Below W0.heap.size W0 W ∧ ∀ (j : Nat) (x : Int) (m : Rm), j < k → xs[j]? = some x → ms[j]? = some m → 0 ≤ x ∧ x < (m.n : Int)) (fun _ _ i _ => xs.length - (intOf i).toNat)
    case atStart => exact ⟨0, Nat.zero_le _, rfl, Below.refl _ _, fun j x m h => absurd h (Nat.not_lt_zero _)⟩
    case round =>
      obtain ⟨k, hk, rfl, hW, hto⟩ := hrel
      obtain ⟨Wa, rfl⟩ : ∃ X, X = wr := ⟨_, rfl⟩
      have HTO := Lib.hid hto
      have HW := Lib.hid hW
      have r2 := HR2.out.keep hW
      have a0 : Wa.cell? ⟨n2, 0, none⟩ = some (.slice om ms.length cm) := r2.c 0 _ rfl
      have l2 := r2.lt
      clear hto hW r2
      by_cases hlt : k < xs.length
      · obtain ⟨x, hx⟩ : ∃ x, xs[k]? = some x := ⟨_, List.getElem?_eq_getElem hlt⟩
        obtain ⟨m, hm⟩ : ∃ m, ms[k]? = some m := ⟨_, List.getElem?_eq_getElem (by have := HLE.out; omega)⟩
        obtain ⟨ba, offa, rfl, lba, x0⟩ := pval_at (HA.out.keep HW.out) hx
        obtain ⟨bm, offm, hom, hMr⟩ := (HMS.out.keep HW.out) (map_ne (k := k) (by have := HLE.out; omega))
        rw [hom] at a0
        have m0 : Wa.cell? ⟨bm, offm + k * 2, none⟩ = some (.slice m.op m.n m.cp) := hMr.c k _ (map_get hm) 0 _ rfl
        have lbm := hMr.lt
        have hkm : k < ms.length := by have := HLE.out; omega
        have hkm2 : (k : Int) < (ms.length : Int) := by omega
        have HX := Lib.hid hx
        have HM := Lib.hid hm
        clear hx hm hMr hom
        by_cases q0 : x < 0
        · have d0 : decide (x < 0) = true := decide_eq_true q0
          have HNO : Hid (¬ LocI ms xs) := Lib.hid fun h => by have := (h.at_ k x m HX.out HM.out).1; omega
          clear q0
          go_wp2_with fail
          go_ret
          exact verP_no HNO.out (below_call HB.out HW.out)
        · have d0 : decide (x < 0) = false := decide_eq_false q0
          by_cases q1 : x ≥ (m.n : Int)
          · have d1 : decide (x ≥ (m.n : Int)) = true := decide_eq_true q1
            have HNO : Hid (¬ LocI ms xs) := Lib.hid fun h => by have := (h.at_ k x m HX.out HM.out).2; omega
            clear q0 q1
            go_wp2_with fail
            go_ret
            exact verP_no HNO.out (below_call HB.out HW.out)
          · have d1 : decide (x ≥ (m.n : Int)) = false := decide_eq_false q1
            have HTN : Hid (∀ (j : Nat) (x : Int) (m : Rm), j < k + 1 → xs[j]? = some x → ms[j]? = some m → 0 ≤ x ∧ x < (m.n : Int)) := Lib.hid fun j x' m' hj hx' hm' => by
              rcases Nat.lt_or_ge j k with h1 | h1
              · exact HTO.out j x' m' h1 hx' hm'
              · have : j = k := by omega
                subst this
                rw [HX.out] at hx'; injection hx' with hx'; subst hx'
                rw [HM.out] at hm'; injection hm' with hm'; subst hm'
                exact ⟨by omega, by omega⟩
            clear q0 q1
            go_wp2_with fail
            go_roundw
            case rel => exact ⟨k + 1, by omega, by simp, HW.out, HTN.out⟩
            case measure => simp [intOf]; omega
      · have HOK : Hid (LocI ms xs) := Lib.hid ⟨HLE.out, fun j x m hx hm => HTO.out j x m (by have := (List.getElem?_eq_some_iff.1 hx).1; omega) hx hm⟩
        have HEND := Lib.hid (below_call HB.out HW.out)
        go_wp2_with fail
        go_ret
        exact verP_yes HOK.out HEND.out
  · have d0 := int_bne (xs.length : Int) (ms.length : Int)
    rw [decide_eq_true (by omega)] at d0
    have HNO : Hid (¬ LocI ms xs) := Lib.hid fun h => hle h.len
    clear hle
    go_wp2_with fail
    go_ret
    exact verP_no HNO.out HB.out
set_option maxRecDepth 100000 in
set_option maxHeartbeats 4000000 in
theorem placed_raw (om oc oa : Option Addr) (cm cc ca lc : Nat) (ms : List Rm) (xs : List Int) (w : World) (hl : ms.length ≤ 100) (hxl : xs.length ≤ 100) (hms : Sl w om 2 (ms.map Rm.vals)) (hA : Sl w oa 1 (pvals xs)) :
    Calls Try.prog 38 #[.agg #[.slice om ms.length cm, .slice oc lc cc], .slice oa xs.length ca] w (VerP (LocI ms xs) w) := by
  go_enter Try.func38, Try.ntmps38
  go_upto_region 1 with fail
  have hbx_ := boxes1 w [.slice om ms.length cm, .slice oc lc cc] 26
  replace hms := hms.keep hbx_.2
  replace hA := hA.keep hbx_.2
  have HB := Lib.hid (hbx_.2)
  generalize w.alloc (.cells #[.slice om ms.length cm, .slice oc lc cc] 26) = W0 at hbx_ hms hA HB ⊢
  obtain ⟨r2, hbel_⟩ := hbx_
  obtain ⟨n2, hn_⟩ : ∃ n, n = w.heap.size := ⟨_, rfl⟩
  rw [← hn_] at r2 ⊢
  clear hn_ hbel_
  have HMS := Lib.hid hms
  have HA := Lib.hid hA
  have HR2 := Lib.hid r2
  have a0 : W0.cell? ⟨n2, 0, none⟩ = some (.slice om ms.length cm) := r2.c 0 _ rfl
  have l2 := r2.lt
  clear hms hA r2
  by_cases hle : xs.length = ms.length
  · have d0 := int_bne (xs.length : Int) (ms.length : Int)
    rw [decide_eq_false (by omega)] at d0
    have HLE := Lib.hid hle
    clear hle
    go_wp2_with fail
    clear a0 l2 d0
    go_loopw [5] (fun i W => ∃ k : Nat, k ≤ xs.length ∧ i = .int .i64 (k : Nat) ∧ Below W0.heap.size W0 W ∧ ∀ (j : Nat) (x : Int) (m : Rm), j < k → xs[j]? = some x → ms[j]? = some m → 0 ≤ x ∧ x < (m.n : Int)) (fun i _ => xs.length - (intOf i).toNat)
    case atStart => exact ⟨0, Nat.zero_le _, rfl, Below.refl _ _, fun j x m h => absurd h (Nat.not_lt_zero _)⟩
    case round =>
      obtain ⟨k, hk, rfl, hW, hto⟩ := hrel
      obtain ⟨Wa, rfl⟩ : ∃ X, X = wr := ⟨_, rfl⟩
      have HTO := Lib.hid hto
      have HW := Lib.hid hW
      have r2 := HR2.out.keep hW
      have a0 : Wa.cell? ⟨n2, 0, none⟩ = some (.slice om ms.length cm) := r2.c 0 _ rfl
      have l2 := r2.lt
      clear hto hW r2
      by_cases hlt : k < xs.length
      · obtain ⟨x, hx⟩ : ∃ x, xs[k]? = some x := ⟨_, List.getElem?_eq_getElem hlt⟩
        obtain ⟨m, hm⟩ : ∃ m, ms[k]? = some m := ⟨_, List.getElem?_eq_getElem (by have := HLE.out; omega)⟩
        obtain ⟨ba, offa, rfl, lba, x0⟩ := pval_at (HA.out.keep HW.out) hx
        obtain ⟨bm, offm, hom, hMr⟩ := (HMS.out.keep HW.out) (map_ne (k := k) (by have := HLE.out; omega))
        rw [hom] at a0
        have m0 : Wa.cell? ⟨bm, offm + k * 2, none⟩ = some (.slice m.op m.n m.cp) := hMr.c k _ (map_get hm) 0 _ rfl
        have lbm := hMr.lt
        have hkm : k < ms.length := by have := HLE.out; omega
        have hkm2 : (k : Int) < (ms.length : Int) := by omega
        have hki : (k : Int) < (xs.length : Int) := by omega
        have HX := Lib.hid hx
        have HM := Lib.hid hm
        clear hx hm hMr hom
        go_upto_region 6 with fail
        by_cases q0 : x < 0
        · have d0 : decide (x < 0) = true := decide_eq_true q0
          have HNO : Hid (¬ LocI ms xs) := Lib.hid fun h => by have := (h.at_ k x m HX.out HM.out).1; omega
          clear q0
          go_quiet (fail)
          have HQQ := Lib.hid (below_call HB.out (below_call HW.out (below_drew Wa nq)))
          clear a0 x0 m0 d0
          generalize Wa.drewN nq = V at HQQ ⊢
          go_wp2_with fail
          go_ret
          exact verP_no HNO.out HQQ.out
        · have d0 : decide (x < 0) = false := decide_eq_false q0
          by_cases q1 : x ≥ (m.n : Int)
          · have d1 : decide (x ≥ (m.n : Int)) = true := decide_eq_true q1
            have HNO : Hid (¬ LocI ms xs) := Lib.hid fun h => by have := (h.at_ k x m HX.out HM.out).2; omega
            clear q0 q1
            go_quiet (fail)
            have HQQ := Lib.hid (below_call HB.out (below_call HW.out (below_drew Wa nq)))
            clear a0 x0 m0 d0 d1
            generalize Wa.drewN nq = V at HQQ ⊢
            go_wp2_with fail
            go_ret
            exact verP_no HNO.out HQQ.out
          · have d1 : decide (x ≥ (m.n : Int)) = false := decide_eq_false q1
            have HTN : Hid (∀ (j : Nat) (x : Int) (m : Rm), j < k + 1 → xs[j]? = some x → ms[j]? = some m → 0 ≤ x ∧ x < (m.n : Int)) := Lib.hid fun j x' m' hj hx' hm' => by
              rcases Nat.lt_or_ge j k with h1 | h1
              · exact HTO.out j x' m' h1 hx' hm'
              · have : j = k := by omega
                subst this
                rw [HX.out] at hx'; injection hx' with hx'; subst hx'
                rw [HM.out] at hm'; injection hm' with hm'; subst hm'
                exact ⟨by omega, by omega⟩
            clear q0 q1
            go_quiet (fail)
            have HQQ := Lib.hid (below_call HW.out (below_drew Wa nq))
            clear a0 x0 m0 d0 d1
            generalize Wa.drewN nq = V at HQQ ⊢
            go_wp2
            go_roundw
            case rel => exact ⟨k + 1, by omega, by simp, HQQ.out, HTN.out⟩
            case measure => simp [intOf]; omega
      · have HOK : Hid (LocI ms xs) := Lib.hid ⟨HLE.out, fun j x m hx hm => HTO.out j x m (by have := (List.getElem?_eq_some_iff.1 hx).1; omega) hx hm⟩
        have HEND := Lib.hid (below_call HB.out HW.out)
        go_wp2_with fail
        go_ret
        exact verP_yes HOK.out HEND.out
  · have d0 := int_bne (xs.length : Int) (ms.length : Int)
    rw [decide_eq_true (by omega)] at d0
    have HNO : Hid (¬ LocI ms xs) := Lib.hid fun h => hle h.len
    clear hle
    go_wp2_with fail
    go_ret
    exact verP_no HNO.out HB.out
end Go.Proofs.Jn
end

