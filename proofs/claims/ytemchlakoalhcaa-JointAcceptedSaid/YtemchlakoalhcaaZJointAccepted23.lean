/-
  Texts put together: Gc Ce.
-/
import Derived.Test.YtemchlakoalhcaaZJointAccepted22
import Derived.Test.YtemchlakoalhcaaZJointAccepted13
set_option linter.unusedVariables false
section
/-
  Walks of the reference: ValidPlan accepts a plan.
-/
namespace Go.Proofs.Jn
open Go.RowKit Go.Shelf

/-- Rows that are a plan. -/
structure VPlan (T : Tm) (ps qs : List Nat) (n : Nat) (rows : List (List Nat)) : Prop where
  len : rows.length = T.ms.length
  rl : ∀ r ∈ rows, r.length = n + 1
  st : ∀ (k : Nat) (r : List Nat), rows[k]? = some r → atOf r 0 = atOf ps k ∧ atOf r n = atOf qs k
  lg : ∀ (t k : Nat) (r : List Nat), t < n → rows[k]? = some r → legB T ⟨k, atOf r t, atOf r (t + 1)⟩ = true
  cl : ∀ (t k i : Nat) (r r' : List Nat), t < n → i < k → rows[k]? = some r → rows[i]? = some r' → clashB T.cs ⟨k, atOf r t, atOf r (t + 1)⟩ ⟨i, atOf r' t, atOf r' (t + 1)⟩ = false
theorem plan_inr {T : Tm} (hO : TeamOk T) {ps qs : List Nat} (hp : InR T ps) {n : Nat} {P : Nat → List Nat} (h : IsPlan T ps qs n P) : ∀ i, i ≤ n → InR T (P i) := by
  intro i
  induction i with
  | zero => intro _; rw [h.1]; exact hp
  | succ i ih =>
    intro hi
    have h1 := ih (by omega)
    have h2 := h.2.2 i (by omega)
    have hl : (P (i + 1)).length = (P i).length := LReach.len.moves_len _ h2
    refine ⟨by rw [hl, h1.1], fun k x m hx hm => ?_⟩
    have hk := (List.getElem?_eq_some_iff.1 hm).1
    rw [mem_moves (by rw [h1.1]; exact hO.n2) hl] at h2
    have h3 := (h2 k (by rw [h1.1]; exact hk)).1
    have h4 := (next_comp (hO.mo m (List.mem_of_getElem? hm)) hm (atOf_lt h1 hm) h3).1
    have : atOf (P (i + 1)) k = x := by simp [atOf, hx]
    omega
theorem vplan_of {T : Tm} (hO : TeamOk T) {ps qs : List Nat} (hp : InR T ps) {n : Nat} {P : Nat → List Nat} (h : IsPlan T ps qs n P) : VPlan T ps qs n (rowsP T.ms.length n P) := by
  have hget : ∀ (k : Nat) (r : List Nat), (rowsP T.ms.length n P)[k]? = some r → k < T.ms.length ∧ ∀ i, i ≤ n → atOf r i = atOf (P i) k := fun k r hr => by
    simp only [rowsP, List.getElem?_map, Option.map_eq_some_iff] at hr
    obtain ⟨j, hj, rfl⟩ := hr
    obtain ⟨hj1, hj2⟩ := List.getElem?_eq_some_iff.1 hj
    simp at hj1 hj2
    subst hj2
    refine ⟨hj1, fun i hi => ?_⟩
    simp only [atOf, List.getElem?_map]
    rw [List.getElem?_range (by omega)]
    simp
  have hstep : ∀ t k, t < n → k < T.ms.length → legB T ⟨k, atOf (P t) k, atOf (P (t + 1)) k⟩ = true ∧ ∀ i, i < k → clashB T.cs ⟨k, atOf (P t) k, atOf (P (t + 1)) k⟩ ⟨i, atOf (P t) i, atOf (P (t + 1)) i⟩ = false := fun t k ht hk => by
    have h1 := plan_inr hO hp h t (by omega)
    have h2 := plan_inr hO hp h (t + 1) (by omega)
    have h3 := h.2.2 t ht
    rw [mem_moves (by rw [h1.1]; exact hO.n2) (by rw [h2.1, h1.1])] at h3
    obtain ⟨h4, h5⟩ := h3 k (by rw [h1.1]; exact hk)
    obtain ⟨m, hm⟩ : ∃ m, T.ms[k]? = some m := ⟨_, List.getElem?_eq_getElem hk⟩
    rw [mem_next (hO.mo m (List.mem_of_getElem? hm)) hm (atOf_lt h1 hm) (atOf_lt h2 hm)] at h4
    rw [free_clash, List.all_eq_true] at h5
    exact ⟨h4, fun i hi => by have := h5 i (List.mem_range.2 hi); simpa using this⟩
  refine ⟨by simp [rowsP], rowsP_len, fun k r hr => ?_, fun t k r ht hr => ?_, fun t k i r r' ht hi hr hr' => ?_⟩
  · obtain ⟨h1, h2⟩ := hget k r hr
    rw [h2 0 (by omega), h2 n (by omega), h.1, h.2.1]
    exact ⟨rfl, rfl⟩
  · obtain ⟨h1, h2⟩ := hget k r hr
    rw [h2 t (by omega), h2 (t + 1) (by omega)]
    exact (hstep t k ht h1).1
  · obtain ⟨h1, h2⟩ := hget k r hr
    obtain ⟨h3, h4⟩ := hget i r' hr'
    rw [h2 t (by omega), h2 (t + 1) (by omega), h4 t (by omega), h4 (t + 1) (by omega)]
    exact (hstep t k ht h1).2 i hi
set_option maxRecDepth 100000 in
set_option maxHeartbeats 4000000 in
theorem valid_any (om oc oa ob op : Option Addr) (cm cc ca cb cp : Nat) (T : Tm) (ps qs : List Nat) (n : Nat) (rows : List (List Nat)) (w : World) (hO : TeamOk T) (hps : InR T ps) (hqs : InR T qs) (hT : TeamAt w om oc T) (hA : Sl w oa 1 (nvals ps)) (hB : Sl w ob 1 (nvals qs)) (hV : VPlan T ps qs n rows) (h1 : 1 ≤ n) (h64 : n ≤ 64) (hL : LL w op rows) :
    Calls Try.prog 14 #[.agg #[.slice om T.ms.length cm, .slice oc T.cs.length cc], .slice oa ps.length ca, .slice ob qs.length cb, .slice op rows.length cp] w (BoolP true w) := by
  have hn1 := hO.n1
  have hn2 := hO.n2
  have hcn := hO.cn
  have HO := Lib.hid hO
  have HPS := Lib.hid hps
  have HQS := Lib.hid hqs
  have HV := Lib.hid hV
  obtain ⟨vs, hSl, hvl, hrow⟩ := hL
  have hrl := hV.len
  have hb1 := int_bne (ps.length : Int) (T.ms.length : Int)
  rw [decide_eq_false (by rw [hps.1]; simp)] at hb1
  have hb2 := int_bne (qs.length : Int) (T.ms.length : Int)
  rw [decide_eq_false (by rw [hqs.1]; simp)] at hb2
  have hb3 := int_bne (rows.length : Int) (T.ms.length : Int)
  rw [decide_eq_false (by rw [hrl]; simp)] at hb3
  have hvp : vs.length = rows.length := hvl
  have HRL := Lib.hid hrl
  have HVL := Lib.hid hvl
  have hrp : 0 < rows.length := by omega
  have hrn : rows.length ≤ 4 := by omega
  clear hO hps hqs hV hrl hvl hvp
  have hck := fun X hX => checkT_any om oc cm cc T X HO.out hX
  have HCK := Lib.hid hck
  clear hck
  go_enter Try.func14, Try.ntmps14
  go_upto_region 1 with fail
  have hbx_ := boxes1 w [.slice om T.ms.length cm, .slice oc T.cs.length cc] 26
  replace hT := hT.keep hbx_.2
  replace hA := hA.keep hbx_.2
  replace hB := hB.keep hbx_.2
  replace hSl := hSl.keep hbx_.2
  have HB := Lib.hid (hbx_.2)
  generalize w.alloc (.cells #[.slice om T.ms.length cm, .slice oc T.cs.length cc] 26) = W0 at hbx_ hT hA hB hSl HB ⊢
  obtain ⟨r4, hbel_⟩ := hbx_
  obtain ⟨n4, hn_⟩ : ∃ n, n = w.heap.size := ⟨_, rfl⟩
  rw [← hn_] at r4 ⊢
  clear hn_ hbel_
  have hrow2 : ∀ (i : Nat) (v : Value) (l : List Nat), vs[i]? = some v → rows[i]? = some l → ∃ o c, v = .slice o l.length c ∧ Sl W0 o 1 (nvals l) := fun i v l hv hl => by
    obtain ⟨o, c, h1, h2⟩ := hrow i v l hv hl
    exact ⟨o, c, h1, h2.keep HB.out⟩
  have HROW := Lib.hid hrow2
  have HCK0 := Lib.hid (HCK.out W0 hT)
  have HT := Lib.hid hT
  have HA := Lib.hid hA
  have HBB := Lib.hid hB
  have HSL := Lib.hid hSl
  clear hrow hrow2 hT hA hB hSl HCK
  have a0 : W0.cell? ⟨n4, 0, none⟩ = some (.slice om T.ms.length cm) := r4.c 0 _ rfl
  have a1 : W0.cell? ⟨n4, 1, none⟩ = some (.slice oc T.cs.length cc) := r4.c 1 _ rfl
  have l4 := r4.lt
  have HR4 := Lib.hid r4
  clear r4
  go_wp2_with fail
  refine HCK0.out.mono ?_
  rintro e W1 ⟨rfl, hb⟩
  have HB1 := Lib.hid hb
  clear a0 a1 l4 HCK0 hb
  have r4 := HR4.out.keep HB1.out
  have a0 : W1.cell? ⟨n4, 0, none⟩ = some (.slice om T.ms.length cm) := r4.c 0 _ rfl
  have l4 := r4.lt
  clear r4
  obtain ⟨bp, offp, rfl, hPr⟩ := HSL.out (map_ne (k := 0) (by rw [HVL.out]; omega))
  have HPR := Lib.hid hPr
  obtain ⟨v0, hv0⟩ : ∃ v, vs[0]? = some v := ⟨_, List.getElem?_eq_getElem (by rw [HVL.out]; exact hrp)⟩
  obtain ⟨l0, hl0⟩ : ∃ l, rows[0]? = some l := ⟨_, List.getElem?_eq_getElem hrp⟩
  obtain ⟨o0, c0, rfl, hs0⟩ := HROW.out 0 v0 l0 hv0 hl0
  have hll0 := HV.out.rl l0 (List.mem_of_getElem? hl0)
  have x0 : W1.cell? ⟨bp, offp, none⟩ = some (.slice o0 (n + 1) c0) := by have := (hPr.keep HB1.out).c 0 _ (map_get hv0) 0 _ rfl; rw [← hll0]; simpa using this
  have lp := (hPr.keep HB1.out).lt
  have hc1 : ((n + 1 : Nat) : Int) = (n : Int) + 1 := by simp
  have hri : (0 : Int) < (rows.length : Int) := by omega
  have d1 : decide ((n : Int) + 1 < 1) = false := decide_eq_false (by omega)
  have d2 : decide ((n : Int) + 1 > 65) = false := decide_eq_false (by omega)
  clear hPr hv0 hl0 hs0 hll0
  go_wp2_with fail
  clear a0 l4 x0 lp d1 d2 hb1 hb2 hb3
  go_loopw [10] (fun i W => ∃ k : Nat, i = .int .i64 (k : Nat) ∧ k ≤ rows.length ∧ Below W0.heap.size W0 W) (fun i _ => rows.length - (intOf i).toNat)
  case atStart => exact ⟨0, rfl, Nat.zero_le _, HB1.out⟩
  case round =>
    obtain ⟨k, rfl, hk, hW⟩ := hrel
    obtain ⟨Wa, rfl⟩ : ∃ X, X = wr := ⟨_, rfl⟩
    by_cases hlt : k < rows.length
    · obtain ⟨v, hv⟩ : ∃ v, vs[k]? = some v := ⟨_, List.getElem?_eq_getElem (by rw [HVL.out]; exact hlt)⟩
      obtain ⟨l, hl⟩ : ∃ l, rows[k]? = some l := ⟨_, List.getElem?_eq_getElem hlt⟩
      obtain ⟨o, c, rfl, hs⟩ := HROW.out k v l hv hl
      have hll := HV.out.rl l (List.mem_of_getElem? hl)
      obtain ⟨hst, hgo⟩ := HV.out.st k l hl
      obtain ⟨bl, offl, rfl, hlr⟩ := (hs.keep hW) (nvals_ne (k := 0) (by omega))
      obtain ⟨ba, offa, rfl, hAr⟩ := (HA.out.keep hW) (nvals_ne (k := k) (by rw [HPS.out.1, ← HRL.out]; exact hlt))
      obtain ⟨bb, offb, rfl, hBr⟩ := (HBB.out.keep hW) (nvals_ne (k := k) (by rw [HQS.out.1, ← HRL.out]; exact hlt))
      have y0 : Wa.cell? ⟨bp, offp + k, none⟩ = some (.slice (some ⟨bl, offl, none⟩) (n + 1) c) := by have := (HPR.out.keep hW).c k _ (map_get hv) 0 _ rfl; rw [← hll]; simpa using this
      have ly := (HPR.out.keep hW).lt
      have z0 : Wa.cell? ⟨bl, offl, none⟩ = some (.int .i64 (atOf ps k : Nat)) := by have := hlr.c 0 _ (nvals_get (atOf_get (by omega))) 0 _ rfl; rw [hst] at this; simpa using this
      have z1 : Wa.cell? ⟨bl, offl + n, none⟩ = some (.int .i64 (atOf qs k : Nat)) := by have := hlr.c n _ (nvals_get (atOf_get (by omega))) 0 _ rfl; rw [hgo] at this; simpa using this
      have lz := hlr.lt
      have p0 : Wa.cell? ⟨ba, offa + k, none⟩ = some (.int .i64 (atOf ps k : Nat)) := by have := hAr.c k _ (nvals_get (atOf_get (by rw [HPS.out.1, ← HRL.out]; exact hlt))) 0 _ rfl; simpa using this
      have q0 : Wa.cell? ⟨bb, offb + k, none⟩ = some (.int .i64 (atOf qs k : Nat)) := by have := hBr.c k _ (nvals_get (atOf_get (by rw [HQS.out.1, ← HRL.out]; exact hlt))) 0 _ rfl; simpa using this
      have lp := hAr.lt
      have lq := hBr.lt
      have hki : (k : Int) < (rows.length : Int) := by omega
      have hkp : (k : Int) < (ps.length : Int) := by rw [HPS.out.1, ← HRL.out]; omega
      have hkq : (k : Int) < (qs.length : Int) := by rw [HQS.out.1, ← HRL.out]; omega
      have hni0 : (0 : Int) < (n : Int) + 1 := by omega
      have hni1 : (n : Int) < (n : Int) + 1 := by omega
      have hw1 : IntKind.i64.wrap ((n : Int) + 1 - 1) = (n : Int) := by rw [IntWalk.i64_in _ (by omega)]; omega
      have hw2 : IntKind.i64.wrap (n : Int) = (n : Int) := IntWalk.i64_in _ (by omega)
      have e1 := int_bne ((n : Int) + 1) ((n : Int) + 1)
      have e2 := int_bne (atOf ps k : Int) (atOf ps k : Int)
      have e3 := int_bne (atOf qs k : Int) (atOf qs k : Int)
      rw [decide_eq_false (by simp)] at e1 e2 e3
      have HW := Lib.hid hW
      clear hv hl hs hst hgo hlr hAr hBr hW
      go_upto_region 9 with fail
      go_quiet (fail)
      have HW2 := Lib.hid (below_call HW.out (below_drew Wa nq))
      clear y0 ly z0 z1 lz p0 q0 lp lq hki hkp hkq hni0 hni1 hw1 hw2 e1 e2 e3
      generalize Wa.drewN nq = V at HW2 ⊢
      go_wp2_with fail
      go_roundw
      case rel => exact ⟨k + 1, by simp, by omega, HW2.out⟩
      case measure => simp [intOf]; omega
    · have HW := Lib.hid hW
      clear hW
      have hmx : max (1 : Int) (n : Int) = (n : Int) := by omega
      have hw1 : IntKind.i64.wrap ((n : Int) + 1 - 1) = (n : Int) := by rw [IntWalk.i64_in _ (by omega)]; omega
      have hw2 : IntKind.i64.wrap (n : Int) = (n : Int) := IntWalk.i64_in _ (by omega)
      go_wp2_with fail
      go_loopw [11] (fun i W => ∃ t : Nat, i = .int .i64 (t : Nat) ∧ t ≤ n ∧ Below W0.heap.size W0 W) (fun i _ => n - (intOf i).toNat)
      case atStart => exact ⟨0, rfl, Nat.zero_le _, HW.out⟩
      case round =>
        clear hk hlt
        obtain ⟨t, rfl, ht, hW2⟩ := hrel
        obtain ⟨Wb, rfl⟩ : ∃ X, X = wr := ⟨_, rfl⟩
        by_cases htn : t < n
        · have HT2 := Lib.hid hW2
          clear hW2
          go_wp2_with fail
          go_loopw [12] (fun i W => ∃ k : Nat, i = .int .i64 (k : Nat) ∧ k ≤ rows.length ∧ Below W0.heap.size W0 W) (fun i _ => rows.length - (intOf i).toNat)
          case atStart => exact ⟨0, rfl, Nat.zero_le _, HT2.out⟩
          case round =>
            obtain ⟨k, rfl, hk, hW3⟩ := hrel
            obtain ⟨Wc, rfl⟩ : ∃ X, X = wr := ⟨_, rfl⟩
            by_cases hlt : k < rows.length
            · obtain ⟨v, hv⟩ : ∃ v, vs[k]? = some v := ⟨_, List.getElem?_eq_getElem (by rw [HVL.out]; exact hlt)⟩
              obtain ⟨l, hl⟩ : ∃ l, rows[k]? = some l := ⟨_, List.getElem?_eq_getElem hlt⟩
              obtain ⟨o, c, rfl, hs⟩ := HROW.out k v l hv hl
              have hll := HV.out.rl l (List.mem_of_getElem? hl)
              have y0 : Wc.cell? ⟨bp, offp + k, none⟩ = some (.slice o l.length c) := by have := (HPR.out.keep hW3).c k _ (map_get hv) 0 _ rfl; simpa using this
              have ly := (HPR.out.keep hW3).lt
              have hki : (k : Int) < (rows.length : Int) := by omega
              have hmv := moveAt_any l o c k t Wc (hs.keep hW3) (by omega) (by omega)
              rw [hll] at hmv y0
              have HLL := Lib.hid hll
              have HMV := Lib.hid hmv
              have HL := Lib.hid hl
              have HW3 := Lib.hid hW3
              clear hmv hv hl hs hW3 hll
              go_wp2_with fail
              with_reducible refine HMV.out.mono ?_
              rintro e X ⟨rfl, hb⟩
              have HX := Lib.hid (below_call HW3.out hb)
              clear y0 ly hb HMV
              go_upto_region 18 with fail
              have hbx_ := boxes1 X [.int .i64 (k : Nat), .int .i64 (atOf l t : Nat), .int .i64 (atOf l (t + 1) : Nat)] 65
              have HY := Lib.hid (below_call HX.out (hbx_.2))
              generalize X.alloc (.cells #[.int .i64 (k : Nat), .int .i64 (atOf l t : Nat), .int .i64 (atOf l (t + 1) : Nat)] 65) = Y at hbx_ HY ⊢
              obtain ⟨r13, hbel_⟩ := hbx_
              obtain ⟨n13, hn_⟩ : ∃ n, n = X.heap.size := ⟨_, rfl⟩
              rw [← hn_] at r13 ⊢
              clear hn_ hbel_
              have hlg := refLegal_ok om oc cm cc T ⟨k, atOf l t, atOf l (t + 1)⟩ Y HO.out (HV.out.lg t k l htn HL.out) (HT.out.keep HY.out)
              have HLG := Lib.hid hlg
              have R4 := HR4.out.keep HY.out
              have a0 : Y.cell? ⟨n4, 0, none⟩ = some (.slice om T.ms.length cm) := R4.c 0 _ rfl
              have a1 : Y.cell? ⟨n4, 1, none⟩ = some (.slice oc T.cs.length cc) := R4.c 1 _ rfl
              have m0 : Y.cell? ⟨n13, 0, none⟩ = some (.int .i64 (k : Nat)) := r13.c 0 _ rfl
              have m1 : Y.cell? ⟨n13, 1, none⟩ = some (.int .i64 (atOf l t : Nat)) := r13.c 1 _ rfl
              have m2 : Y.cell? ⟨n13, 2, none⟩ = some (.int .i64 (atOf l (t + 1) : Nat)) := r13.c 2 _ rfl
              have l4 := R4.lt
              have l13 := r13.lt
              clear hlg R4
              go_wp2_with fail
              with_reducible refine HLG.out.mono ?_
              rintro e Z ⟨rfl, hb⟩
              clear a0 a1 m0 m1 m2 l4 l13 HLG
              have HZ := Lib.hid (below_call HY.out hb)
              have HR13 := Lib.hid (r13.keep hb)
              clear hb r13
              go_wp2_with fail
              go_loopw [14] (fun i W => ∃ q : Nat, i = .int .i64 (q : Nat) ∧ q ≤ k ∧ Below Z.heap.size Z W) (fun i _ => k - (intOf i).toNat)
              case atStart => exact ⟨0, rfl, Nat.zero_le _, Below.refl _ _⟩
              case round =>
                obtain ⟨q, rfl, hq, hW4⟩ := hrel
                obtain ⟨Wd, rfl⟩ : ∃ X, X = wr := ⟨_, rfl⟩
                by_cases hqk : q < k
                · have hW5 := below_call HZ.out hW4
                  obtain ⟨v, hv⟩ : ∃ v, vs[q]? = some v := ⟨_, List.getElem?_eq_getElem (by rw [HVL.out]; omega)⟩
                  obtain ⟨l', hl'⟩ : ∃ l', rows[q]? = some l' := ⟨_, List.getElem?_eq_getElem (by omega)⟩
                  obtain ⟨o', c', rfl, hs⟩ := HROW.out q v l' hv hl'
                  have hll := HV.out.rl l' (List.mem_of_getElem? hl')
                  have y0 : Wd.cell? ⟨bp, offp + q, none⟩ = some (.slice o' l'.length c') := by have := (HPR.out.keep hW5).c q _ (map_get hv) 0 _ rfl; simpa using this
                  have ly := (HPR.out.keep hW5).lt
                  have hqi : (q : Int) < (rows.length : Int) := by omega
                  have hmv := moveAt_any l' o' c' q t Wd.drew ((hs.keep hW5).keep (Below.refl _ _).drew) (by omega) (by omega)
                  have hcl := HV.out.cl t k q l l' htn hqk HL.out hl'
                  have hclash := fun X (hX : Below W0.heap.size W0 X) => clash_any om oc cm cc T ⟨k, atOf l t, atOf l (t + 1)⟩ ⟨q, atOf l' t, atOf l' (t + 1)⟩ X hcn (HT.out.keep hX)
                  rw [hcl] at hclash
                  unfold Tm.val at hclash
                  rw [hll] at hmv y0
                  have HMV := Lib.hid hmv
                  have HCLA := Lib.hid hclash
                  have R4 := HR4.out.keep hW5
                  have R13 := HR13.out.keep hW4
                  have a0 : Wd.cell? ⟨n4, 0, none⟩ = some (.slice om T.ms.length cm) := R4.c 0 _ rfl
                  have a1 : Wd.cell? ⟨n4, 1, none⟩ = some (.slice oc T.cs.length cc) := R4.c 1 _ rfl
                  have m0 : Wd.cell? ⟨n13, 0, none⟩ = some (.int .i64 (k : Nat)) := R13.c 0 _ rfl
                  have m1 : Wd.cell? ⟨n13, 1, none⟩ = some (.int .i64 (atOf l t : Nat)) := R13.c 1 _ rfl
                  have m2 : Wd.cell? ⟨n13, 2, none⟩ = some (.int .i64 (atOf l (t + 1) : Nat)) := R13.c 2 _ rfl
                  have l4 := R4.lt
                  have l13 := R13.lt
                  have HW4 := Lib.hid hW4
                  have HW5 := Lib.hid hW5
                  have hS0 : Wd.cell? ⟨n4, 0, none⟩ = some (.slice om T.ms.length cm) ∧ Wd.cell? ⟨n4, 1, none⟩ = some (.slice oc T.cs.length cc) ∧ Wd.cell? ⟨n13, 0, none⟩ = some (.int .i64 (k : Nat)) ∧ Wd.cell? ⟨n13, 1, none⟩ = some (.int .i64 (atOf l t : Nat)) ∧ Wd.cell? ⟨n13, 2, none⟩ = some (.int .i64 (atOf l (t + 1) : Nat)) ∧ Wd.cell? ⟨bp, offp + q, none⟩ = some (.slice o' (n + 1) c') := ⟨a0, a1, m0, m1, m2, y0⟩
                  clear hmv hv hl' hs hll hcl hclash hW4 hW5 R4 R13
                  go_upto_region 23 with fail
                  go_region_held3 (fun X => X.cell? ⟨n4, 0, none⟩ = some (.slice om T.ms.length cm) ∧ X.cell? ⟨n4, 1, none⟩ = some (.slice oc T.cs.length cc) ∧ X.cell? ⟨n13, 0, none⟩ = some (.int .i64 (k : Nat)) ∧ X.cell? ⟨n13, 1, none⟩ = some (.int .i64 (atOf l t : Nat)) ∧ X.cell? ⟨n13, 2, none⟩ = some (.int .i64 (atOf l (t + 1) : Nat)) ∧ X.cell? ⟨bp, offp + q, none⟩ = some (.slice o' (n + 1) c'))
                    (first
                      | exact hS0
                      | assumption)
                    (first
                      | (go_at_call 37
                         with_reducible refine HMV.out.mono ?_
                         rintro e Xa ⟨rfl, hba⟩
                         have hVa : Below Wd.heap.size Wd Xa := (Below.refl _ _).drew.trans hba
                         have HVa := Lib.hid hVa
                         have hSa : Xa.cell? ⟨n4, 0, none⟩ = some (.slice om T.ms.length cm) ∧ Xa.cell? ⟨n4, 1, none⟩ = some (.slice oc T.cs.length cc) ∧ Xa.cell? ⟨n13, 0, none⟩ = some (.int .i64 (k : Nat)) ∧ Xa.cell? ⟨n13, 1, none⟩ = some (.int .i64 (atOf l t : Nat)) ∧ Xa.cell? ⟨n13, 2, none⟩ = some (.int .i64 (atOf l (t + 1) : Nat)) ∧ Xa.cell? ⟨bp, offp + q, none⟩ = some (.slice o' (n + 1) c') :=
                           ⟨(hVa.cell (p := ⟨n4, 0, none⟩) l4).trans a0, (hVa.cell (p := ⟨n4, 1, none⟩) l4).trans a1, (hVa.cell (p := ⟨n13, 0, none⟩) l13).trans m0, (hVa.cell (p := ⟨n13, 1, none⟩) l13).trans m1, (hVa.cell (p := ⟨n13, 2, none⟩) l13).trans m2, (hVa.cell (p := ⟨bp, offp + q, none⟩) ly).trans y0⟩
                         clear hba hVa)
                      | (go_at_call 24
                         have hxx := HVa; clear hxx
                         with_reducible refine (HCLA.out Xa (below_call HW5.out HVa.out)).mono ?_
                         rintro e Xb ⟨rfl, hbb⟩
                         have hVb := below_call HVa.out hbb
                         have HVb := Lib.hid hVb
                         have hSb : Xb.cell? ⟨n4, 0, none⟩ = some (.slice om T.ms.length cm) ∧ Xb.cell? ⟨n4, 1, none⟩ = some (.slice oc T.cs.length cc) ∧ Xb.cell? ⟨n13, 0, none⟩ = some (.int .i64 (k : Nat)) ∧ Xb.cell? ⟨n13, 1, none⟩ = some (.int .i64 (atOf l t : Nat)) ∧ Xb.cell? ⟨n13, 2, none⟩ = some (.int .i64 (atOf l (t + 1) : Nat)) ∧ Xb.cell? ⟨bp, offp + q, none⟩ = some (.slice o' (n + 1) c') :=
                           ⟨(hVb.cell (p := ⟨n4, 0, none⟩) l4).trans a0, (hVb.cell (p := ⟨n4, 1, none⟩) l4).trans a1, (hVb.cell (p := ⟨n13, 0, none⟩) l13).trans m0, (hVb.cell (p := ⟨n13, 1, none⟩) l13).trans m1, (hVb.cell (p := ⟨n13, 2, none⟩) l13).trans m2, (hVb.cell (p := ⟨bp, offp + q, none⟩) ly).trans y0⟩
                         clear hbb hVb))
                  all_goals
                    have HXX := Lib.hid (below_call HW4.out HVb.out)
                    clear hS0 hSa hSb a0 a1 m0 m1 m2 y0 l4 l13 ly
                    go_wp2_with fail
                    go_roundw
                    case rel => exact ⟨q + 1, by simp, by omega, HXX.out⟩
                    case measure => simp [intOf]; omega
                · have HW6 := Lib.hid (below_call HZ.out hW4)
                  clear hW4
                  go_wp2_with fail
                  go_roundw
                  case rel => exact ⟨k + 1, by simp, by omega, HW6.out⟩
                  case measure => simp [intOf]; omega
            · have HW4 := Lib.hid hW3
              clear hW3
              go_wp2_with fail
              go_roundw
              case rel => exact ⟨t + 1, by simp, by omega, HW4.out⟩
              case measure => simp [intOf]; omega
        · have HEND := Lib.hid (below_call HB.out hW2)
          have htn2 : t = n := by omega
          subst htn2
          clear hW2
          go_wp2
          go_ret
          exact boolP_mk rfl HEND.out
end Go.Proofs.Jn
end

section
/-
  Walks: the maker's Team.
-/
namespace Go.Proofs.Jn
open Go.RowKit

/-- What Team answers. -/
def TeamE (w : World) (e : Ending) (W : World) : Prop := ∃ (T : Tm) (om oc : Option Addr) (cm cc base : Nat), e = .returned (T.val om oc cm cc) ∧ TeamOk T ∧ (∀ m ∈ T.ms, MadeM m) ∧ TeamAt W om oc T ∧ DoneM W base T.ms (.slice om T.ms.length cm) (.slice oc T.cs.length cc) ∧ w.heap.size ≤ base ∧ Below w.heap.size w W

theorem appE {w W W1 : World} {nS n3 : Nat} {os : Option Addr} {cap : Nat} {xs : List Int} {e1 s1 e2 s2 : Nat} {r1 : List (List Value)} {es : List Ed} {d : Ed} {v u : Value} (h : Bx2 w nS n3 os cap xs e1 s1 e2 s2 r1 (es.map Ed.vals) v u W) (g c : Nat)
    (ho : W1.ownsRow (n3 + 1) e2 s2 (.slice (some ⟨g, 0, none⟩) (es.length + 1) c) (es.length + 1) ((es.map Ed.vals).flatten ++ d.vals)) (hg : W.grownBy W1 u.ownBlock) (ha : u.ownBlock = some g ∨ g = W.heap.size) :
    Bx2 w nS n3 os cap xs e1 s1 e2 s2 r1 ((es ++ [d]).map Ed.vals) v (.slice (some ⟨g, 0, none⟩) (es.length + 1) c) (W1.setCell ⟨n3, 1, none⟩ (.slice (some ⟨g, 0, none⟩) (es.length + 1) c)) := by
  have := h.app2 d.vals g c (by rw [List.length_map]; exact ho) hg ha
  rw [List.length_map] at this
  rw [List.map_append]
  exact this
theorem appC {w W W1 : World} {nS n3 : Nat} {os : Option Addr} {cap : Nat} {xs : List Int} {e1 s1 e2 s2 : Nat} {r1 : List (List Value)} {es : List Cf} {d : Cf} {v u : Value} (h : Bx2 w nS n3 os cap xs e1 s1 e2 s2 r1 (es.map Cf.vals) v u W) (g c : Nat)
    (ho : W1.ownsRow (n3 + 1) e2 s2 (.slice (some ⟨g, 0, none⟩) (es.length + 1) c) (es.length + 1) ((es.map Cf.vals).flatten ++ d.vals)) (hg : W.grownBy W1 u.ownBlock) (ha : u.ownBlock = some g ∨ g = W.heap.size) :
    Bx2 w nS n3 os cap xs e1 s1 e2 s2 r1 ((es ++ [d]).map Cf.vals) v (.slice (some ⟨g, 0, none⟩) (es.length + 1) c) (W1.setCell ⟨n3, 1, none⟩ (.slice (some ⟨g, 0, none⟩) (es.length + 1) c)) := by
  have := h.app2 d.vals g c (by rw [List.length_map]; exact ho) hg ha
  rw [List.length_map] at this
  rw [List.map_append]
  exact this
theorem other_arm (a q L : Nat) (ha : a < L) (hq : q + 1 < L) : ((a : Int) + 1 + q).tmod L = (((a + 1 + q) % L : Nat) : Int) ∧ (a + 1 + q) % L < L ∧ a ≠ (a + 1 + q) % L := by
  refine ⟨?_, Nat.mod_lt _ (by omega), ?_⟩
  · rw [Int.tmod_eq_emod_of_nonneg (by omega), Int.natCast_emod]; congr 1
  · rcases Nat.lt_or_ge (a + 1 + q) L with h | h
    · rw [Nat.mod_eq_of_lt h]; omega
    · rw [Nat.mod_eq_sub_mod h, Nat.mod_eq_of_lt (by omega)]; omega
theorem own_ne {W : World} {base size n cap nS m : Nat} {e : TypeId} {oa : Option Addr} {xs : List Value} (h : W.ownsRow base e size (.slice oa n cap) m xs) (hn : nS < base) : ∀ b o s, oa = some ⟨b, o, s⟩ → b ≠ nS := fun b o s he => by
  have := own_fresh h _ he
  simp at this; omega
theorem own_sl {W : World} {base : Nat} {e : TypeId} {n cap : Nat} {oa : Option Addr} {rows : List (List Value)} (hn : ∀ r ∈ rows, r.length = n) (h : W.ownsRow base e n (.slice oa rows.length cap) rows.length rows.flatten) : Sl W oa n rows := by
  obtain ⟨oa', cap', hv, hs⟩ := own_rows hn h
  injection hv with h1
  rw [h1]; exact hs
theorem mp_len (ms : List Mp) : ∀ r ∈ ms.map Mp.vals, r.length = 2 := by
  intro r hr; simp at hr; obtain ⟨a, _, rfl⟩ := hr; rfl
theorem cf_len (cs : List Cf) : ∀ r ∈ cs.map Cf.vals, r.length = 6 := by
  intro r hr; simp at hr; obtain ⟨a, _, rfl⟩ := hr; rfl
theorem ed_len (es : List Ed) : ∀ r ∈ es.map Ed.vals, r.length = 12 := by
  intro r hr; simp at hr; obtain ⟨a, _, rfl⟩ := hr; rfl
theorem team_own {W : World} {b1 b2 b : Nat} {om oc : Option Addr} {cm cc : Nat} {ms : List Mp} {cs : List Cf} {v u : Value} (h1 : W.ownsRow b1 43 2 (.slice om ms.length cm) (ms.map Mp.vals).length (ms.map Mp.vals).flatten) (h2 : W.ownsRow b2 74 6 (.slice oc cs.length cc) (cs.map Cf.vals).length (cs.map Cf.vals).flatten) (hD : DoneM W b ms v u) : TeamAt W om oc ⟨ms, cs⟩ :=
  ⟨own_sl (mp_len ms) (by rw [List.length_map] at h1 ⊢; exact h1), own_sl (cf_len cs) (by rw [List.length_map] at h2 ⊢; exact h2), fun m hm => own_sl (ed_len m.es) (by have := hD.own m hm; rw [List.length_map]; exact this)⟩
theorem bx_team {w W : World} {nS n4 b : Nat} {os om oc : Option Addr} {cap cm cc : Nat} {xs : List Int} {ms : List Mp} {cs : List Cf} {v u : Value} (h : Bx2 w nS n4 os cap xs 43 2 74 6 (ms.map Mp.vals) (cs.map Cf.vals) (.slice om ms.length cm) (.slice oc cs.length cc) W) (hD : DoneM W b ms v u) : TeamAt W om oc ⟨ms, cs⟩ :=
  team_own h.o1 h.o2 hD
theorem move_x (om oc : Option Addr) (cm cc : Nat) (ms : List Mp) (cs : List Cf) (k : Nat) (m : Mp) (W : World) (nS : Nat) (os : Option Addr) (cap : Nat) (xs : List Int) (hl : ms.length ≤ 100) (hm : ms[k]? = some m) (ho : MadeM m) (hS : Src W nS os cap xs) (hT : TeamAt W om oc ⟨ms, cs⟩) (hne : ∀ b o s, m.oe = some ⟨b, o, s⟩ → b ≠ nS) :
    Calls Try.prog 28 #[.pointer (some ⟨nS, 0, none⟩), .agg #[.slice om ms.length cm, .slice oc cs.length cc], .int .i64 (k : Nat)] W (MoveE ⟨ms, cs⟩ k W nS os cap xs) :=
  move_any om oc cm cc ⟨ms, cs⟩ k m W nS os cap xs hl hm ho.ok ho.st hS hT hS.ints hne
theorem set2_heap (W : World) (n : Nat) (x y : Value) (q : Nat) (h : q ≠ n) : ((W.setCell ⟨n, 0, none⟩ x).setCell ⟨n, 1, none⟩ y).heap[q]? = W.heap[q]? :=
  (Below.heap_setCell _ ⟨n, 1, none⟩ _ q h).trans (Below.heap_setCell W ⟨n, 0, none⟩ _ q h)
set_option maxRecDepth 100000 in
set_option maxHeartbeats 4000000 in
theorem team_any (os : Option Addr) (cap : Nat) (xs : List Int) (w : World) (hX : Sl w os 1 (pvals xs)) (hxl : xs.length ≤ 9223372036854775807) :
    Calls Try.prog 9 #[.slice os xs.length cap] w (TeamE w) := by
  go_enter Try.func9, Try.ntmps9
  go_upto_region 1 with fail
  have hbx_ := blks1 w [.slice none 0 0, .slice none 0 0] 26
  replace hX := hX.keep hbx_.2
  have HB := Lib.hid (hbx_.2)
  have hod : w.heap.size ≤ w.heap.size := by omega
  generalize w.alloc (.cells #[.slice none 0 0, .slice none 0 0] 26) = W0 at hbx_ hX HB ⊢
  obtain ⟨r2, hbel_⟩ := hbx_
  obtain ⟨n2', hn_⟩ : ∃ n, n = w.heap.size := ⟨_, rfl⟩
  rw [← hn_] at r2 ⊢
  replace hod := Nat.le_of_eq hn_.symm
  clear hn_ hbel_
  go_wp2_with (refine (from_any os cap xs.length W0).mono ?_)
  rintro e W1 ⟨rfl, rfl⟩
  have hbA : Below W0.heap.size W0 (W0.alloc (.cells #[.slice os xs.length cap, .int .i64 0] 116)) := (Below.refl _ _).alloc (Nat.le_refl _) _
  have hC2 := Cells2.new W0 (.slice os xs.length cap) (.int .i64 0) 116
  have hl2 := r2.lt
  replace r2 := r2.keep hbA
  have hX1 := hX.keep hbA
  have hoff : pvals xs ≠ [] → ∀ b o s, os = some ⟨b, o, s⟩ → b ≠ W0.heap.size := fun h b o s he => by
    obtain ⟨b', off', e1, hr⟩ := hX h
    rw [he] at e1; injection e1 with e1; injection e1 with e1 _ _
    have := hr.lt; omega
  have hS : Src (W0.alloc (.cells #[.slice os xs.length cap, .int .i64 0] 116)) W0.heap.size os cap xs := ⟨⟨0, by omega, hC2⟩, hX1, fun h => hoff (fun h0 => h (by simpa [pvals] using h0)), hxl⟩
  have HB1 := Lib.hid (below_call HB.out hbA)
  have hnS : w.heap.size ≤ W0.heap.size := HB.out.size
  clear hbA hC2 hX HB hoff
  have hsz : (W0.alloc (.cells #[.slice os xs.length cap, .int .i64 0] 116)).heap.size = W0.heap.size + 1 := by simp
  generalize W0.alloc (.cells #[.slice os xs.length cap, .int .i64 0] 116) = W1 at *
  generalize W0.heap.size = nS at *
  have hr2 : n2' ≠ nS := by omega
  have HSZ := Lib.hid hsz
  have HR21 := Lib.hid r2
  clear hX1 hsz
  go_upto_region 3 with fail
  have hR := Bx2.new W1 nS os cap xs 43 2 74 6 26 hS
  have hbA : Below W1.heap.size W1 (W1.alloc (.cells #[.slice none 0 0, .slice none 0 0] 26)) := (Below.refl _ _).alloc (Nat.le_refl _) _
  replace r2 := r2.keep hbA
  clear hS hbA
  generalize W1.alloc (.cells #[.slice none 0 0, .slice none 0 0] 26) = W2 at hR r2 ⊢
  generalize hn4 : W1.heap.size = n4 at hR ⊢
  have HN4 := Lib.hid hn4
  go_wp2_with fail
  refine (next_any _ nS os cap xs 3 hR.src (by omega) (by omega)).mono ?_
  rintro e W3 ⟨r, r0, r1, rfl, hg, hS, -⟩
  obtain ⟨r, rfl, hr3⟩ := nat_int (n := 3) r0 r1
  replace hR := hR.call hg hS
  replace r2 := r2.keepG hg hr2
  clear hg hS r0 r1 hn4
  have HR2 := Lib.hid r2
  go_wp2_with fail
  go_loopw [5] (fun i W => ∃ (ms : List Mp) (j : Nat) (v : Value), i = .int .i64 (j : Nat) ∧ ms.length + j = 1 + r ∧ (∀ m ∈ ms, MadeM m) ∧ Bx2 W1 nS n4 os cap xs 43 2 74 6 (ms.map Mp.vals) [] v (.slice none 0 0) W ∧ DoneM W (n4 + 1) ms v (.slice none 0 0)) (fun i _ => (intOf i).toNat)
  case atStart => exact ⟨[], 1 + r, .slice none 0 0, by simp, by simp, by simp, hR, ⟨by simp, by simp, by simp⟩⟩
  case round =>
    clear hR
    obtain ⟨ms, j, v, rfl, hj, hmk, hR, hD⟩ := hrel
    have HMK := Lib.hid hmk
    clear hmk
    by_cases hj0 : 0 < j
    · obtain ⟨Wb, rfl⟩ : ∃ X, X = wr := ⟨_, rfl⟩
      go_wp2_with fail
      have hM := Bx2.new Wb nS os cap xs 48 1 54 12 43 hR.src
      have HR := Lib.hid hR
      have HD := Lib.hid hD
      clear hR hD
      generalize Wb.alloc (.cells #[.slice none 0 0, .slice none 0 0] 43) = V1 at hM ⊢
      generalize hn6 : Wb.heap.size = n6 at hM ⊢
      have HN6 := Lib.hid hn6
      refine (next_any _ nS os cap xs 3 hM.src (by omega) (by omega)).mono ?_
      rintro e V2 ⟨q, q0, q1, rfl, hg, hS, -⟩
      obtain ⟨q, rfl, hq3⟩ := nat_int (n := 3) q0 q1
      replace hM := hM.call hg hS
      clear hg hS q0 q1 hn6
      go_wp2_with fail
      obtain ⟨kk, hkk⟩ : ∃ kk : Nat, kk = 2 + q := ⟨_, rfl⟩
      have hkk' : (2 : Int) + (q : Int) = (kk : Int) := by omega
      have hk2 : 2 ≤ kk ∧ kk ≤ 4 := by omega
      rw [hkk']
      clear hkk hkk' hq3
      go_loopw [8] (fun i W => ∃ (r1 : List (List Value)) (vP : Value), i = .int .i64 (r1.length : Nat) ∧ r1.length ≤ kk ∧ Bx2 Wb nS n6 os cap xs 48 1 54 12 r1 [] vP (.slice none 0 0) W) (fun i _ => kk - (intOf i).toNat)
      case atStart => exact ⟨[], _, rfl, by simp, hM⟩
      case round =>
        clear hM
        obtain ⟨r1, vP, rfl, hkl, hM⟩ := hrel
        by_cases hlt : r1.length < kk
        · have c0 := hM.b3.c 0 _ rfl
          have f0 := hM.b3.f 0
          have l6 := hM.b3.lt
          obtain ⟨i0, hi, hz0, hz1, hz2⟩ := info_parts info48
          have hB := ((Below.refl wr.heap.size wr).alloc (Nat.le_refl _) (.cells #[.int .i64 (r1.length : Nat)] 2)).alloc (by simp) (.cells #[.slice (some ⟨wr.heap.size, 0, none⟩) 1 1] 48)
          have HC := Lib.hid (hM.bel hB)
          have hcc := new_cells (wr.alloc (.cells #[.int .i64 (r1.length : Nat)] 2)) [.slice (some ⟨wr.heap.size, 0, none⟩) 1 1] 48
          have HCC := Lib.hid hcc
          clear hcc hB
          go_wp2_with (at_builtin; go_loud (refine wpList_append_lies _ rfl _ _ 40 rfl (n6 + 1) 48 i0 (.slice none 0 0) 1 24 under40 hi hz0 hz1 hz2 rfl (by decide) _ _ _ rfl HC.out.o1 ⟨wr.heap.size + 1, 0, none⟩ 1 1 [.slice (some ⟨wr.heap.size, 0, none⟩) 1 1] rfl rfl ?c1 ?c2 (by decide) ?c3 ?c4 ?c5 _ rfl ?_))
          case c1 => simpa using HCC.out
          case c2 => intro u hu; simp at hu; subst hu; rfl
          case c3 => unfold maxLen; omega
          case c4 => omega
          case c5 => exact HC.out.hb
          intro g c W1' hown hgrow hat hlt3
          have HA := Lib.hid (HC.out.app1 _ g c hown hgrow (by simpa using hat))
          have hB3 := HC.out.b3.low (Nat.lt_succ_self _) (grown_below HC.out.o1 hgrow HC.out.hb)
          have c04 := hB3.c 0 _ rfl
          have f04 := hB3.f 0
          clear hown hgrow hat HC hM hi hz0 hz1 hz2 c0 f0 hB3
          go_wp2
          go_roundw
          case rel => exact ⟨_, _, by simp, by simp; omega, HA.out⟩
          case measure => simp [intOf]; omega
        · have hke : kk = r1.length := by omega
          have HKE := Lib.hid hke
          clear hke
          go_wp2_with fail
          go_loopw [9, 10] (fun i _ W => ∃ (u : Nat) (es : List Ed) (vE : Value), i = .int .i64 (u : Nat) ∧ u ≤ kk ∧ EdsTo kk es u 0 ∧ Bx2 Wb nS n6 os cap xs 48 1 54 12 r1 (es.map Ed.vals) vP vE W) (fun i _ _ => kk - (intOf i).toNat)
          case atStart => exact ⟨0, [], _, rfl, by omega, EdsTo.nil _ _ _, hM⟩
          case round =>
            clear hM
            obtain ⟨u, es, vE, rfl, hu, hE, hM⟩ := hrel
            by_cases hlt : u < kk
            · go_wp2_with fail
              go_loopw [10] (fun i W => ∃ (v : Nat) (es : List Ed) (vE : Value), i = .int .i64 (v : Nat) ∧ u + 1 ≤ v ∧ v ≤ kk ∧ EdsTo kk es u v ∧ Bx2 Wb nS n6 os cap xs 48 1 54 12 r1 (es.map Ed.vals) vP vE W) (fun i _ => kk - (intOf i).toNat)
              case atStart => exact ⟨u + 1, es, vE, by simp, by omega, by omega, hE.mono (by omega) (by omega), hM⟩
              case round =>
                clear hM hE
                obtain ⟨y, es, vE, rfl, hy1, hy2, hE, hM⟩ := hrel
                have HE := Lib.hid hE
                clear hE
                by_cases hlt2 : y < kk
                · go_upto_block 7 with fail
                  go_cut [] (fun W => ∃ (es' : List Ed) (vE' : Value), EdsTo kk es' u (y + 1) ∧ Bx2 Wb nS n6 os cap xs 48 1 54 12 r1 (es'.map Ed.vals) vP vE' W)
                  case first =>
                    go_wp2_with fail
                    refine (next_any _ nS os cap xs 3 hM.src (by omega) (by omega)).mono ?_
                    rintro e V3 ⟨q, q0, q1, rfl, hg, hS, -⟩
                    obtain ⟨q, rfl, hq3⟩ := nat_int (n := 3) q0 q1
                    replace hM := hM.call hg hS
                    clear hg hS q0 q1
                    by_cases hq0 : 0 < q
                    · go_upto_region 19 with fail
                      obtain ⟨i0, hi, hz0, hz1, hz2⟩ := info_parts info54
                      have c1 : V3.cell? ⟨n6, 1, none⟩ = some vE := hM.b3.c 1 _ rfl
                      have f1 := hM.b3.f 1
                      have l6 := hM.b3.lt
                      have HEL := Lib.hid HE.out.len
                      have HM := Lib.hid (hM.bel (Below.refl _ _).drew)
                      clear hM
                      go_region_law (first
                        | (go_simp
                           go_at_call 27
                           refine (claim_any _).mono ?_
                           rintro e V5 ⟨b, rfl, hb⟩
                           have HM := Lib.hid (HM.out.bel hb)
                           have c1 := HM.out.b3.c 1 _ rfl
                           have f1 := HM.out.b3.f 1
                           have l6 := HM.out.b3.lt
                           clear hb
                           try (
                             have hcc := HC.out.1
                             have HA := Lib.hid (HM.out.bel (W' := V5.alloc (.cells #[.int .i64 u, .int .i64 y, .int .i64 (IntKind.i64.wrap (1 + c)), .int .i64 1, .int .i64 1, .slice (some ⟨b, 0, none⟩) 1 1, .int .i64 0, .int .i64 0, .slice none 0 0, .int .i64 0, .slice none 0 0, .slice none 0 0] 54)) ((Below.refl _ _).alloc (Nat.le_refl _) _))
                             have HO2 : Hid (World.ownsRow _ _ _ _ _ es.length _) := Lib.hid (by have := HA.out.o2; rwa [List.length_map] at this)))
                        | (go_simp
                           go_at_call 26
                           refine (next_any _ nS os cap xs 4 HM.out.src (by omega) (by omega)).mono ?_
                           rintro e V5 ⟨c, c0, c4, rfl, hg, hS, -⟩
                           have HM := Lib.hid (HM.out.call hg hS)
                           have c1 := HM.out.b3.c 1 _ rfl
                           have f1 := HM.out.b3.f 1
                           have l6 := HM.out.b3.lt
                           have HC : Hid (0 ≤ IntKind.i64.wrap (1 + c) ∧ IntKind.i64.wrap (1 + c) ≤ 1099511627776) := Lib.hid (by rw [IntWalk.i64_in _ (by omega)]; omega)
                           clear hg hS
                           try (
                             have hbb := b
                             have HA := Lib.hid (HM.out.bel (W' := V5.alloc (.cells #[.int .i64 u, .int .i64 y, .int .i64 (IntKind.i64.wrap (1 + c)), .int .i64 1, .int .i64 1, .slice (some ⟨b, 0, none⟩) 1 1, .int .i64 0, .int .i64 0, .slice none 0 0, .int .i64 0, .slice none 0 0, .slice none 0 0] 54)) ((Below.refl _ _).alloc (Nat.le_refl _) _))
                             have HO2 : Hid (World.ownsRow _ _ _ _ _ es.length _) := Lib.hid (by have := HA.out.o2; rwa [List.length_map] at this)))
                        | (have hxx := HA; clear hxx
                           refine step_append_lies _ rfl (.tmp 54) (.tmp 62) 41 rfl (n6 + 1) 54 i0 _ 12 160 under41 hi hz0 hz1 hz2 rfl (by decide) vE es.length _ (by simp [Act.eval]) HO2.out ⟨V5.heap.size, 0, none⟩ 1 1 (Ed.vals ⟨u, y, IntKind.i64.wrap (1 + c), 1, 1, ⟨some ⟨b, 0, none⟩, 1, 1⟩, 0, 0, ⟨none, 0, 0⟩, 0, ⟨none, 0, 0⟩, ⟨none, 0, 0⟩⟩) (by simp [Act.eval]) rfl (new_cells _ _ _) (Ed.one _) (by decide) (by unfold maxLen; have := HEL.out; omega) (by have := HEL.out; omega) HA.out.hb _ rfl ?_
                           intro g c' W9 hown hgrow hat hlt9
                           have hB3 := HA.out.b3.low (Nat.lt_succ_self _) (grown_below HA.out.o2 hgrow HA.out.hb)
                           have c19 := hB3.c 1 _ rfl
                           have f19 := hB3.f 1
                           have HO := Lib.hid hown
                           clear hown))
                      all_goals
                        go_wp2_with fail
                        go_meet
                        exact ⟨_, _, HE.out.snoc _ rfl rfl (by omega) (by omega) HC.out rfl, appE HA.out g c' HO.out hgrow hat⟩
                    · go_wp2_with fail
                      go_meet
                      exact ⟨es, vE, HE.out.mono (by omega) (by omega), hM⟩
                  case rest =>
                    clear hM
                    obtain ⟨es', vE', hE', hM⟩ := hcut
                    have HE' := Lib.hid hE'
                    clear hE'
                    go_wp2
                    go_roundw
                    case rel => exact ⟨y + 1, es', vE', by simp, by omega, by omega, HE'.out, hM⟩
                    case measure => simp [intOf]; omega
                · have hye : y = kk := by omega
                  have HYE := Lib.hid hye
                  clear hye
                  go_wp2
                  go_roundw
                  case rel => exact ⟨u + 1, es, vE, by simp, by omega, HE.out.mono (by omega) (by omega), hM⟩
                  case measure => simp [intOf]; omega
            · have hue : u = kk := by omega
              have HUE := Lib.hid hue
              clear hue
              obtain ⟨op, cp, rfl⟩ := own_slice hM.o1
              obtain ⟨oe, ce, rfl⟩ := own_slice hM.o2
              have hn6 := HN6.out
              have hR := HR.out.call hM.gr hM.src
              have hb4 := HR.out.hb
              have hs1 := HR.out.hs
              have hD := HD.out.keepG hM.gr (by have := hR.h3; omega)
              have hmade : MadeM ⟨kk, op, cp, oe, ce, es⟩ := hE.made (by rw [HUE.out]; omega) hk2.1 hk2.2 op oe cp ce
              have hown : wr.ownsRow (n4 + 1) 54 12 (Mp.ev ⟨kk, op, cp, oe, ce, es⟩) es.length (es.map Ed.vals).flatten := by
                have := own_base hM.o2 (base' := n4 + 1) (by omega)
                rw [List.length_map] at this
                exact this
              have hD1 : DoneM wr (n4 + 1) (ms ++ [⟨kk, op, cp, oe, ce, es⟩]) v (.slice none 0 0) := hD.snoc _ hown fun g hg => by
                have hg' : (Value.slice oe (es.map Ed.vals).length ce).ownBlock = some g := by rw [List.length_map]; exact hg
                have h1 := own_lt hM.o2 g hg'
                refine ⟨fun a ha hc => ?_, fun hc => ?_, fun hc => by cases hc⟩
                · have := own_lt (HD.out.own a ha) g hc; omega
                · have := own_lt HR.out.o1 g hc; omega
              have c0 := hM.b3.c 0 _ rfl
              have c1 := hM.b3.c 1 _ rfl
              have l6 := hM.b3.lt
              have d0 := hR.b3.c 0 _ rfl
              have g0 := hR.b3.f 0
              have l4 := hR.b3.lt
              rw [HKE.out.symm] at c0 ⊢
              rw [List.length_map] at c1
              obtain ⟨i0, hi, hz0, hz1, hz2⟩ := info_parts info43
              have hB := (Below.refl wr.heap.size wr).alloc (Nat.le_refl _) (.cells #[.slice op kk cp, .slice oe es.length ce] 43)
              have HC := Lib.hid (hR.bel hB)
              have HD1 := Lib.hid (hD1.keep hB)
              have HMM := Lib.hid hmade
              have HO1 : Hid (World.ownsRow _ _ _ _ v ms.length _) := Lib.hid (by have := HC.out.o1; rwa [List.length_map] at this)
              have HML := Lib.hid (show ms.length ≤ 3 by omega)
              clear hR hD hmade hown hD1 hB hM hE hb4 hs1 hn6
              go_wp2_with (at_builtin; go_loud (refine wpList_append_lies _ rfl _ _ 23 rfl (n4 + 1) 43 i0 (.agg #[.slice none 0 0, .slice none 0 0]) 2 48 under23 hi hz0 hz1 hz2 rfl (by decide) _ _ _ rfl HO1.out ⟨wr.heap.size, 0, none⟩ 1 1 [.slice op kk cp, .slice oe es.length ce] rfl rfl ?c1 ?c2 (by decide) ?c3 ?c4 ?c5 _ rfl ?_))
              case c1 => exact new_cells _ _ _
              case c2 => intro u hu; simp at hu; rcases hu with rfl | rfl <;> rfl
              case c3 => unfold maxLen; have := HML.out; omega
              case c4 => have := HML.out; omega
              case c5 => exact HC.out.hb
              intro g c W1' hown hgrow hat hlt3
              have HA := Lib.hid (HC.out.app1 (Mp.vals ⟨kk, op, cp, oe, ce, es⟩) g c (by rw [List.length_map]; exact hown) hgrow (by simpa using hat))
              have HDA := Lib.hid (HD1.out.keepQ (v' := .slice (some ⟨g, 0, none⟩) (ms.length + 1) c) (u' := .slice none 0 0) (fun q hq hl h1 _ => HC.out.far1 hgrow (.slice (some ⟨g, 0, none⟩) (ms.length + 1) c) q hl h1 (by omega)) (fun q hq => by
                simp [Value.ownBlock] at hq
                subst hq
                rcases hat with h | h
                · exact .inl h
                · exact .inr (by simp; omega)) (fun q hq => by cases hq))
              have hB3 := HC.out.b3.low (Nat.lt_succ_self _) (grown_below HC.out.o1 hgrow HC.out.hb)
              have c04 := hB3.c 0 _ rfl
              have f04 := hB3.f 0
              clear hown hgrow hat HC HD1 hi hz0 hz1 hz2 c0 c1 d0 g0 hB3 hlt3
              go_wp2
              go_roundw
              case rel =>
                refine ⟨ms ++ [⟨kk, op, cp, oe, ce, es⟩], j - 1, .slice (some ⟨g, 0, none⟩) (ms.length + 1) c, by simp; omega, by simp; omega, fun m hm => ?_, ?_, HDA.out⟩
                · rcases List.mem_append.1 hm with hm | hm
                  · exact HMK.out m hm
                  · simp at hm; subst hm; exact HMM.out
                · have := HA.out
                  rw [List.length_map] at this
                  rw [List.map_append]
                  exact this
              case measure => simp [intOf]; omega
    · have hj00 : j = 0 := by omega
      have HML := Lib.hid (show 1 ≤ ms.length ∧ ms.length ≤ 3 by omega)
      obtain ⟨om, cm, rfl⟩ := own_slice hR.o1
      rw [List.length_map] at hR hD
      clear hj hr3
      go_wp2_with fail
      refine (next_any _ nS os cap xs 12 hR.src (by omega) (by omega)).mono ?_
      rintro e V1 ⟨nc, q0, q1, rfl, hg, hS, -⟩
      obtain ⟨nc, rfl, hnc⟩ := nat_int (n := 12) q0 q1
      have hR1 := hR.call hg hS
      have hD1 := hD.keepG hg (by have := hR.hs; have := hR.h3; omega)
      clear hg hS q0 q1 hR hD
      go_wp2_with fail
      go_loopw [11] (fun i W => ∃ (cs : List Cf) (k : Nat) (u : Value), i = .int .i64 (k : Nat) ∧ cs.length + k ≤ 11 ∧ (∀ c ∈ cs, c.a.arm ≠ c.b.arm ∧ legB ⟨ms, cs⟩ c.a = true ∧ legB ⟨ms, cs⟩ c.b = true) ∧ Bx2 W1 nS n4 os cap xs 43 2 74 6 (ms.map Mp.vals) (cs.map Cf.vals) (.slice om ms.length cm) u W ∧ DoneM W (n4 + 1) ms (.slice om ms.length cm) u) (fun i _ => (intOf i).toNat)
      case atStart => exact ⟨[], nc, _, rfl, by simp; omega, by simp, hR1, hD1⟩
      case round =>
        clear hR1 hD1
        obtain ⟨cs, k, u, rfl, hk, hcf, hR, hD⟩ := hrel
        have HCF := Lib.hid hcf
        clear hcf
        have d0 := hR.b3.c 0 _ rfl
        have d1 := hR.b3.c 1 _ rfl
        have l4 := hR.b3.lt
        by_cases hk0 : 0 < k
        · by_cases hm1 : 1 < ms.length
          · have hml := HML.out
            have HK := Lib.hid hk
            go_upto_block 9 with fail
            go_cut [] (fun W => ∃ (c : Cf) (u' : Value), (c.a.arm ≠ c.b.arm ∧ legB ⟨ms, cs⟩ c.a = true ∧ legB ⟨ms, cs⟩ c.b = true) ∧ Bx2 W1 nS n4 os cap xs 43 2 74 6 (ms.map Mp.vals) ((cs ++ [c]).map Cf.vals) (.slice om ms.length cm) u' W ∧ DoneM W (n4 + 1) ms (.slice om ms.length cm) u')
            case first =>
              go_wp2_with fail
              refine (next_any _ nS os cap xs ms.length hR.src (by omega) (by omega)).mono ?_
              rintro e V2 ⟨a, a0, a1, rfl, hg, hS, -⟩
              obtain ⟨a, rfl, ha⟩ := nat_int a0 a1
              replace hR := hR.call hg hS
              replace hD := hD.keepG hg (by have := hR.hs; have := hR.h3; omega)
              clear hg hS a0 a1 d0 d1 l4
              go_upto_region 25 with fail
              have d0 := hR.b3.c 0 _ rfl
              have l4 := hR.b3.lt
              have hw1 : IntKind.i64.wrap ((a : Int) + 1) = (a : Int) + 1 := IntWalk.i64_in _ (by omega)
              have hw2 : IntKind.i64.wrap ((ms.length : Int) - 1) = (ms.length : Int) - 1 := IntWalk.i64_in _ (by omega)
              have hz0 : ((ms.length : Int) == 0) = false := nat_bne (b := 0) (by omega)
              have hz1 : ¬ ms = [] := fun h => by rw [h] at hm1; simp at hm1
              have hz2 : ¬ ms.length = 0 := by omega
              go_cut [13] (fun s W => ∃ b : Nat, s = .int .i64 (b : Nat) ∧ b < ms.length ∧ a ≠ b ∧ Bx2 W1 nS n4 os cap xs 43 2 74 6 (ms.map Mp.vals) (cs.map Cf.vals) (.slice om ms.length cm) u W ∧ DoneM W (n4 + 1) ms (.slice om ms.length cm) u)
              case first =>
                go_region_held3 (fun X => X.cell? ⟨n4, 0, none⟩ = some (.slice om ms.length cm))
                  (first | exact d0 | exact HR2.out.b3.c 0 _ rfl | fail)
                  (first
                    | (go_at_call 26
                       refine (next_any _ nS os cap xs ((ms.length : Int) - 1) (hR.src.keep (Below.refl _ _).drew) (by omega) (by omega)).mono ?_
                       rintro e V4 ⟨q, q0, q1, rfl, hg, hS, -⟩
                       have HR2 := Lib.hid ((hR.bel (Below.refl _ _).drew).call hg hS)
                       have HD2 := Lib.hid ((hD.keep (Below.refl _ _).drew).keepG hg (by have := hR.hs; have := hR.h3; omega))
                       have hw3 : IntKind.i64.wrap ((a : Int) + 1 + q) = (a : Int) + 1 + q := IntWalk.i64_in _ (by omega)
                       clear hg hS))
                go_wp2_with fail
                go_meet
                obtain ⟨qn, rfl, hqn⟩ : ∃ k : Nat, q = k ∧ k + 1 < ms.length := ⟨q.toNat, by omega, by omega⟩
                obtain ⟨h1, h2, h3⟩ := other_arm a qn ms.length ha hqn
                exact ⟨_, by rw [h1], h2, h3, HR2.out, HD2.out⟩
              case rest =>
                clear hR hD d0 l4 hw1 hw2 hz0 hz1 hz2
                obtain ⟨b, rfl, hb, hab, hR, hD⟩ := hcut
                obtain ⟨oc, cc, rfl⟩ := own_slice hR.o2
                rw [List.length_map] at hR hD
                obtain ⟨ma, hma⟩ : ∃ m, ms[a]? = some m := ⟨_, List.getElem?_eq_getElem ha⟩
                obtain ⟨mb, hmb⟩ : ∃ m, ms[b]? = some m := ⟨_, List.getElem?_eq_getElem hb⟩
                have HMA := Lib.hid (HMK.out ma (List.mem_of_getElem? hma))
                have HMB := Lib.hid (HMK.out mb (List.mem_of_getElem? hmb))
                have hns : nS < n4 + 1 := by have := hR.hs; have := hR.h3; omega
                have HNA := Lib.hid (own_ne (hD.own ma (List.mem_of_getElem? hma)) hns)
                have HNB := Lib.hid (own_ne (hD.own mb (List.mem_of_getElem? hmb)) hns)
                have HHA := Lib.hid hma
                have HHB := Lib.hid hmb
                have HAB := Lib.hid hab
                clear hma hmb hab
                obtain ⟨i0, hi, hz0, hz1, hz2⟩ := info_parts info74
                go_upto_region 26 with fail
                have d0 : wc.cell? ⟨n4, 0, none⟩ = some (.slice om ms.length cm) := hR.b3.c 0 _ rfl
                have d1 : wc.cell? ⟨n4, 1, none⟩ = some (.slice oc cs.length cc) := hR.b3.c 1 _ rfl
                have f1 := hR.b3.f 1
                have l4 := hR.b3.lt
                have HR := Lib.hid (hR.bel (Below.refl _ _).drew)
                have HD := Lib.hid (hD.keep (Below.refl _ _).drew)
                clear hR hD
                go_region_law (first
                  | (go_simp
                     go_at_call 28
                     with_reducible refine (move_x om oc cm cc ms cs a ma _ nS os cap xs (by omega) HHA.out HMA.out HR.out.src (bx_team HR.out HD.out) HNA.out).mono ?_
                     rintro e V5 ⟨A, hA, hlA, rfl, hg, hS⟩
                     have HA1 := Lib.hid hA
                     have HA2 := Lib.hid hlA
                     have HR := Lib.hid (HR.out.call hg hS)
                     have HD := Lib.hid (HD.out.keepG hg hns)
                     have d0 : V5.cell? ⟨n4, 0, none⟩ = some (.slice om ms.length cm) := HR.out.b3.c 0 _ rfl
                     have d1 : V5.cell? ⟨n4, 1, none⟩ = some (.slice oc cs.length cc) := HR.out.b3.c 1 _ rfl
                     have f1 := HR.out.b3.f 1
                     have l4 := HR.out.b3.lt
                     clear hg hS hA hlA
                     try (
                       have hbb := HB1.out
                       have hqq := (Below.refl V5.heap.size V5).alloc (Nat.le_refl _) (.cells #[.int .i64 (A.arm : Nat), .int .i64 (A.x : Nat), .int .i64 (A.y : Nat), .int .i64 (B.arm : Nat), .int .i64 (B.x : Nat), .int .i64 (B.y : Nat)] 74)
                       have HQ := Lib.hid (HR.out.bel hqq)
                       have HDQ := Lib.hid (HD.out.keep hqq)
                       have HO2 : Hid (World.ownsRow _ _ _ _ _ cs.length _) := Lib.hid (by have := HQ.out.o2; rwa [List.length_map] at this)
                       clear hqq hbb
                      ))
                  | (go_simp
                     go_at_call 28
                     with_reducible refine (move_x om oc cm cc ms cs b mb _ nS os cap xs (by omega) HHB.out HMB.out HR.out.src (bx_team HR.out HD.out) HNB.out).mono ?_
                     rintro e V5 ⟨B, hB, hlB, rfl, hg, hS⟩
                     have HB1 := Lib.hid hB
                     have HB2 := Lib.hid hlB
                     have HR := Lib.hid (HR.out.call hg hS)
                     have HD := Lib.hid (HD.out.keepG hg hns)
                     have d0 : V5.cell? ⟨n4, 0, none⟩ = some (.slice om ms.length cm) := HR.out.b3.c 0 _ rfl
                     have d1 : V5.cell? ⟨n4, 1, none⟩ = some (.slice oc cs.length cc) := HR.out.b3.c 1 _ rfl
                     have f1 := HR.out.b3.f 1
                     have l4 := HR.out.b3.lt
                     clear hg hS hB hlB
                     try (
                       have hbb := HA1.out
                       have hqq := (Below.refl V5.heap.size V5).alloc (Nat.le_refl _) (.cells #[.int .i64 (A.arm : Nat), .int .i64 (A.x : Nat), .int .i64 (A.y : Nat), .int .i64 (B.arm : Nat), .int .i64 (B.x : Nat), .int .i64 (B.y : Nat)] 74)
                       have HQ := Lib.hid (HR.out.bel hqq)
                       have HDQ := Lib.hid (HD.out.keep hqq)
                       have HO2 : Hid (World.ownsRow _ _ _ _ _ cs.length _) := Lib.hid (by have := HQ.out.o2; rwa [List.length_map] at this)
                       clear hqq hbb
                      ))
                  | (have hxx := HQ; clear hxx
                     refine step_append_lies _ rfl (.tmp 102) (.tmp 112) 24 rfl (n4 + 1) 74 i0 _ 6 48 under24 hi hz0 hz1 hz2 rfl (by decide) (.slice oc cs.length cc) cs.length _ (by simp [Act.eval]) HO2.out ⟨V5.heap.size, 0, none⟩ 1 1 (Cf.vals ⟨A, B⟩) (by simp [Act.eval]) rfl (new_cells _ _ _) (Cf.one _) (by decide) (by unfold maxLen; have := HK.out; omega) (by have := HK.out; omega) HQ.out.hb _ rfl ?_
                     intro g c' W9 hown hgrow hat hlt9
                     have hB3 := HQ.out.b3.low (Nat.lt_succ_self _) (grown_below HQ.out.o2 hgrow HQ.out.hb)
                     have d19 := hB3.c 1 _ rfl
                     have f19 := hB3.f 1
                     have HO := Lib.hid hown
                     clear hown))
                all_goals
                  go_wp2_with fail
                  go_meet
                  exact ⟨⟨A, B⟩, _, ⟨by rw [HA1.out, HB1.out]; exact HAB.out, HA2.out, HB2.out⟩, appC HQ.out g c' HO.out hgrow (by simpa using hat), HDQ.out.keepQ (fun q hq hl _ h1 => HQ.out.far2 hgrow _ q hl h1 (by omega)) (fun q hq => .inl hq) (fun q hq => by
                    simp [Value.ownBlock] at hq
                    subst hq
                    rcases hat with h | h
                    · exact .inl h
                    · exact .inr (by simp at h ⊢; omega))⟩

            case rest =>
              clear hR hD
              obtain ⟨c, u', hc, hR, hD⟩ := hcut
              have HC := Lib.hid hc
              clear hc
              go_wp2
              go_roundw
              case rel =>
                refine ⟨cs ++ [c], k - 1, u', by simp; omega, by simp; have := HK.out; omega, fun d hd => ?_, hR, hD⟩
                rcases List.mem_append.1 hd with hd | hd
                · exact HCF.out d hd
                · simp at hd; subst hd; exact HC.out
              case measure => simp [intOf]; omega
          · have hm2 : decide ((1 : Int) < (ms.length : Int)) = false := decide_eq_false (by omega)
            clear hm1
            obtain ⟨oc, cc, rfl⟩ := own_slice hR.o2
            rw [List.length_map] at d1 hR hD
            have R2 := HR21.out.keepG hR.gr hr2
            have e0 := R2.c 0 _ rfl
            have e1 := R2.c 1 _ rfl
            have g0 := R2.f 0
            have g1 := R2.f 1
            have l2 := R2.lt
            have HRR := Lib.hid hR
            have HDD := Lib.hid hD
            clear hR hD
            have HTOK : Hid (TeamOk ⟨ms, cs⟩) := Lib.hid ⟨HML.out.1, by have := HML.out.2; show ms.length ≤ 4; omega, fun m hm => (HMK.out m hm).ok, by show cs.length ≤ 100; omega, HCF.out⟩
            go_wp2_with fail
            have hbl := grown_fresh HB1.out HRR.out.gr hnS
            have hn4 := HN4.out
            have hhs := HRR.out.hs
            have hh3 := HRR.out.h3
            have hq : ∀ q, n4 + 1 ≤ q → ((wr.setCell ⟨n2', 0, none⟩ (.slice om ms.length cm)).setCell ⟨n2', 1, none⟩ (.slice oc cs.length cc)).heap[q]? = wr.heap[q]? := fun q hq => set2_heap wr n2' _ _ q (by omega)
            have hDD : DoneM ((wr.setCell ⟨n2', 0, none⟩ (.slice om ms.length cm)).setCell ⟨n2', 1, none⟩ (.slice oc cs.length cc)) (n4 + 1) ms (.slice om ms.length cm) (.slice oc cs.length cc) := HDD.out.keepQ (fun q h1 _ _ _ => hq q h1) (fun _ h => .inl h) (fun _ h => .inl h)
            refine bodyPost_ret (v := .agg #[.slice om ms.length cm, .slice oc cs.length cc]) (by simp [results, Try.results9, go_sem, e0, e1]) rfl ⟨⟨ms, cs⟩, om, oc, cm, cc, n4 + 1, rfl, HTOK.out, HMK.out, team_own (own_blk HRR.out.o1 fun q _ _ h => hq q h) (own_blk HRR.out.o2 fun q _ _ h => hq q h) hDD, hDD, by omega, (hbl.setCell (p := ⟨n2', 0, none⟩) hod _).setCell (p := ⟨n2', 1, none⟩) hod _⟩
        · skip
          obtain ⟨oc, cc, rfl⟩ := own_slice hR.o2
          rw [List.length_map] at d1 hR hD
          have R2 := HR21.out.keepG hR.gr hr2
          have e0 := R2.c 0 _ rfl
          have e1 := R2.c 1 _ rfl
          have g0 := R2.f 0
          have g1 := R2.f 1
          have l2 := R2.lt
          have HRR := Lib.hid hR
          have HDD := Lib.hid hD
          clear hR hD
          have HTOK : Hid (TeamOk ⟨ms, cs⟩) := Lib.hid ⟨HML.out.1, by have := HML.out.2; show ms.length ≤ 4; omega, fun m hm => (HMK.out m hm).ok, by show cs.length ≤ 100; omega, HCF.out⟩
          go_wp2_with fail
          have hbl := grown_fresh HB1.out HRR.out.gr hnS
          have hn4 := HN4.out
          have hhs := HRR.out.hs
          have hh3 := HRR.out.h3
          have hq : ∀ q, n4 + 1 ≤ q → ((wr.setCell ⟨n2', 0, none⟩ (.slice om ms.length cm)).setCell ⟨n2', 1, none⟩ (.slice oc cs.length cc)).heap[q]? = wr.heap[q]? := fun q hq => set2_heap wr n2' _ _ q (by omega)
          have hDD : DoneM ((wr.setCell ⟨n2', 0, none⟩ (.slice om ms.length cm)).setCell ⟨n2', 1, none⟩ (.slice oc cs.length cc)) (n4 + 1) ms (.slice om ms.length cm) (.slice oc cs.length cc) := HDD.out.keepQ (fun q h1 _ _ _ => hq q h1) (fun _ h => .inl h) (fun _ h => .inl h)
          refine bodyPost_ret (v := .agg #[.slice om ms.length cm, .slice oc cs.length cc]) (by simp [results, Try.results9, go_sem, e0, e1]) rfl ⟨⟨ms, cs⟩, om, oc, cm, cc, n4 + 1, rfl, HTOK.out, HMK.out, team_own (own_blk HRR.out.o1 fun q _ _ h => hq q h) (own_blk HRR.out.o2 fun q _ _ h => hq q h) hDD, hDD, by omega, (hbl.setCell (p := ⟨n2', 0, none⟩) hod _).setCell (p := ⟨n2', 1, none⟩) hod _⟩
end Go.Proofs.Jn
end

