/-
  Texts put together: Hf Hg Co Hh.
-/
import Derived.Test.YteeeogdfnpdpcaaGreatZNeighborFinds26
import Derived.Test.YteeeogdfnpdpcaaGreatZNeighborFinds10
import Derived.Test.YteeeogdfnpdpcaaGreatZNeighborFinds11
import Derived.Test.YteeeogdfnpdpcaaGreatZNeighborFinds14
import Derived.Deep.Slices
import Derived.OpenShut
import Derived.ChangeArms
import Derived.ProofKit
import Derived.ChangeSame
import Derived.Carry
import Derived.Below
import Derived.Lib.SmallJoins
import Derived.Test.YteeeogdfnpdpcaaGreatZNeighborFinds20
set_option linter.unusedVariables false
section
/-
  Walks: Nearest and Within against the reference, for arbitrary arguments.
-/
namespace Go.Proofs.Ng
open Go.RowKit

/-- There is an order by distance. -/
theorem by_ex (dP : Nat → Int) (n : Nat) : ∃ L, ByI dP n L := by
  refine ⟨(List.range n).mergeSort fun a b => !farD dP a b, List.mergeSort_perm _ _, ?_⟩
  have h1 : ((List.range n).mergeSort fun a b => !farD dP a b).Pairwise (fun a b => (!farD dP a b) = true) :=
    List.pairwise_mergeSort (fun a b c h1 h2 => by unfold farD at *; simp at *; omega) (fun a b => by unfold farD; simp; omega) _
  have h2 : ((List.range n).mergeSort fun a b => !farD dP a b).Nodup := (List.mergeSort_perm _ _).nodup_iff.2 List.nodup_range
  refine (h1.and h2).imp ?_
  rintro a b ⟨h3, h4⟩
  exact farD_tot (by simpa using h3) h4
/-- A list is answered. -/
def AnsP (R : List Nat) (w : World) (e : Ending) (W : World) : Prop := ∃ (oa : Option Addr) (ca : Nat), e = .returned (.slice oa R.length ca) ∧ Sl W oa 1 (nvals R) ∧ Below w.heap.size w W
theorem AnsP.no {w : World} {e : Ending} {W : World} (h : NoP w e W) : AnsP [] w e W := ⟨none, 0, h.1, fun h0 => absurd rfl h0, h.2⟩
theorem AnsP.near {k n : Nat} {dP : Nat → Int} {R : List Nat} {w : World} {e : Ending} {W : World} (hR : NearL k n dP R) (h : NearP k n dP w e W) : AnsP R w e W := by
  obtain ⟨R2, b, h1, h2, -, h4, h5⟩ := h
  obtain rfl := h1.uniq hR
  refine ⟨_, _, h2, ?_, h4⟩
  have e : nvals R2 = pvals (R2.map fun x => ((x : Nat) : Int)) := by simp [nvals, pvals]
  rw [e]
  have g := blk_sl R2.length h5
  rwa [List.take_of_length_le (by simp)] at g
theorem AnsP.ref {k n : Nat} {dP : Nat → Int} {R : List Nat} {w : World} {e : Ending} {W : World} (hR : NearL k n dP R) (h : RefP k n dP w e W) : AnsP R w e W := by
  obtain ⟨R2, oa, ca, h1, h2, h3, h4⟩ := h
  obtain rfl := h1.uniq hR
  exact ⟨oa, ca, h2, h3, h4⟩
theorem AnsP.wi {n : Nat} {dP : Nat → Int} {most : Int} {w : World} {e : Ending} {W : World} (h : WithP n dP most w e W) : AnsP (inL n dP most) w e W := by
  obtain ⟨oa, ca, h2, h3, h4, -⟩ := h
  exact ⟨oa, ca, h2, h3, h4⟩
theorem both_near (oj om op ot oq : Option Addr) (cj cm cp ct cq : Nat) (js : List JV) (ms : List MV) (pts : List (List Int)) (t : List Nd) (q : List Int) (k : Int) (w : World) (hj : js.length ≤ 100) (hl : ms.length ≤ 9223372036854775807) (hJ : Sl w oj 12 (js.map JV.vals)) (hM : Sl w om 5 (ms.map MV.vals)) (hP : Pts w op pts) (hT : Sl w ot 4 (t.map Nd.vals)) (hQ : Sl w oq 1 (pvals q)) (htl : t.length ≤ 100000) (hpl : pts.length ≤ 10000) (hql : q.length ≤ 100000) (hk2 : k ≤ 9223372036854775807) :
    ∃ R : List Nat, R.length ≤ 10000 ∧ ∀ X, Below w.heap.size w X → Calls Tryz.prog 14 #[.agg #[.slice oj js.length cj, .slice om ms.length cm], .slice op pts.length cp, .slice ot t.length ct, .slice oq q.length cq, .int .i64 k] X (AnsP R X) ∧ Calls Tryz.prog 23 #[.agg #[.slice oj js.length cj, .slice om ms.length cm], .slice op pts.length cp, .slice ot t.length ct, .slice oq q.length cq, .int .i64 k] X (AnsP R X) := by
  by_cases hF : k < 1 ∨ ¬ FitsP js ms pts t q
  · exact ⟨[], by simp, fun X hX => ⟨(nearest_no oj om op ot oq cj cm cp ct cq js ms pts t q k X hj hl (hJ.keep hX) (hM.keep hX) (hP.keep hX) (hT.keep hX) (hQ.keep hX) htl (by omega) hql hF).mono fun _ _ h => AnsP.no h, (ref23_no oj om op ot oq cj cm cp ct cq js ms pts t q k X hj hl (hJ.keep hX) (hM.keep hX) (hP.keep hX) (hT.keep hX) (hQ.keep hX) htl (by omega) hql hF).mono fun _ _ h => AnsP.no h⟩⟩
  · have hk : 1 ≤ k := by
      rcases Int.lt_or_le k 1 with h | h
      · exact absurd (.inl h) hF
      · exact h
    have hFF : FitsP js ms pts t q := Classical.byContradiction fun h => hF (.inr h)
    obtain ⟨L, hL⟩ := by_ex (dP js q pts) pts.length
    have hR := near_min hL.near k.toNat
    have ek : ((k.toNat : Nat) : Int) = k := by omega
    refine ⟨_, ?_, fun X hX => ⟨?_, (ref23 oj om op ot oq cj cm cp ct cq js ms pts t q k X hj hl (hJ.keep hX) (hM.keep hX) (hP.keep hX) (hT.keep hX) (hQ.keep hX) htl hpl hql hFF hk hk2).mono fun _ _ h => AnsP.ref hR h⟩⟩
    · rw [hR.set.len]; omega
    · have h := nearest16 oj om op ot oq cj cm cp ct cq js ms pts t q k.toNat X hj hl (hJ.keep hX) (hM.keep hX) (hP.keep hX) (hT.keep hX) (hQ.keep hX) htl (by omega) hql hFF (by omega) (by omega)
      rw [ek] at h
      exact h.mono fun _ _ h => AnsP.near hR h
theorem both_within (oj om op ot oq : Option Addr) (cj cm cp ct cq : Nat) (js : List JV) (ms : List MV) (pts : List (List Int)) (t : List Nd) (q : List Int) (most : Int) (w : World) (hj : js.length ≤ 100) (hl : ms.length ≤ 9223372036854775807) (hJ : Sl w oj 12 (js.map JV.vals)) (hM : Sl w om 5 (ms.map MV.vals)) (hP : Pts w op pts) (hT : Sl w ot 4 (t.map Nd.vals)) (hQ : Sl w oq 1 (pvals q)) (htl : t.length ≤ 100000) (hpl : pts.length ≤ 10000) (hql : q.length ≤ 100000) :
    ∃ R : List Nat, R.length ≤ 10000 ∧ ∀ X, Below w.heap.size w X → Calls Tryz.prog 13 #[.agg #[.slice oj js.length cj, .slice om ms.length cm], .slice op pts.length cp, .slice ot t.length ct, .slice oq q.length cq, .int .i64 most] X (AnsP R X) ∧ Calls Tryz.prog 24 #[.agg #[.slice oj js.length cj, .slice om ms.length cm], .slice op pts.length cp, .slice ot t.length ct, .slice oq q.length cq, .int .i64 most] X (AnsP R X) := by
  by_cases hF : FitsP js ms pts t q
  · exact ⟨inL pts.length (dP js q pts) most, Nat.le_trans (inL_len _ _ _) hpl, fun X hX => ⟨(within13 oj om op ot oq cj cm cp ct cq js ms pts t q most X hj hl (hJ.keep hX) (hM.keep hX) (hP.keep hX) (hT.keep hX) (hQ.keep hX) htl (by omega) hql hF).mono fun _ _ h => AnsP.wi h, (near24 oj om op ot oq cj cm cp ct cq js ms pts t q most X hj hl (hJ.keep hX) (hM.keep hX) (hP.keep hX) (hT.keep hX) (hQ.keep hX) htl (by omega) hql hF).mono fun _ _ h => AnsP.wi h⟩⟩
  · exact ⟨[], by simp, fun X hX => ⟨(within_no oj om op ot oq cj cm cp ct cq js ms pts t q most X hj hl (hJ.keep hX) (hM.keep hX) (hP.keep hX) (hT.keep hX) (hQ.keep hX) htl (by omega) hql hF).mono fun _ _ h => AnsP.no h, (near_no oj om op ot oq cj cm cp ct cq js ms pts t q most X hj hl (hJ.keep hX) (hM.keep hX) (hP.keep hX) (hT.keep hX) (hQ.keep hX) htl (by omega) hql hF).mono fun _ _ h => AnsP.no h⟩⟩
theorem same_ans (X : World) (l : List Nat) (oW oV : Option Addr) (cW cV : Nat) (hl : l.length ≤ 10000) (h1 : Sl X oW 1 (nvals l)) (h2 : Sl X oV 1 (nvals l)) : Calls Tryz.prog 18 #[.slice oW l.length cW, .slice oV l.length cV] X (BoolP true X) := by
  have e : nvals l = pvals (l.map fun x => ((x : Nat) : Int)) := by simp [nvals, pvals]
  rw [e] at h1 h2
  have h := same17 oW oV cW cV (l.map fun x => ((x : Nat) : Int)) X h1 h2 (by simp; omega)
  rw [List.length_map] at h
  exact h
set_option maxRecDepth 100000 in
set_option maxHeartbeats 8000000 in
theorem finds9 (oj om op ot oq : Option Addr) (cj cm cp ct cq : Nat) (js : List JV) (ms : List MV) (pts : List (List Int)) (t : List Nd) (q : List Int) (k most : Int) (w : World) (hj : js.length ≤ 100) (hl : ms.length ≤ 9223372036854775807) (hJ : Sl w oj 12 (js.map JV.vals)) (hM : Sl w om 5 (ms.map MV.vals)) (hP : Pts w op pts) (hT : Sl w ot 4 (t.map Nd.vals)) (hQ : Sl w oq 1 (pvals q)) (htl : t.length ≤ 100000) (hpl : pts.length ≤ 10000) (hql : q.length ≤ 100000) (hk2 : k ≤ 9223372036854775807) :
    Calls Tryz.prog 9 #[.agg #[.slice oj js.length cj, .slice om ms.length cm], .slice op pts.length cp, .slice ot t.length ct, .slice oq q.length cq, .int .i64 k, .int .i64 most] w (BoolP true w) := by
  obtain ⟨R1, hR1, hB1⟩ := both_near oj om op ot oq cj cm cp ct cq js ms pts t q k w hj hl hJ hM hP hT hQ htl hpl hql hk2
  obtain ⟨R2, hR2, hB2⟩ := both_within oj om op ot oq cj cm cp ct cq js ms pts t q most w hj hl hJ hM hP hT hQ htl hpl hql
  obtain ⟨R3, hR3, hB3⟩ := both_within oj om op ot oq cj cm cp ct cq js ms pts t q (bits BinOp.and IntKind.i64 most 1048575) w hj hl hJ hM hP hT hQ htl hpl hql
  have HN1 := Lib.hid fun X hX => (hB1 X hX).1
  have HN2 := Lib.hid fun X hX => (hB1 X hX).2
  have HW1 := Lib.hid fun X hX => (hB2 X hX).1
  have HW2 := Lib.hid fun X hX => (hB2 X hX).2
  have HV1 := Lib.hid fun X hX => (hB3 X hX).1
  have HV2 := Lib.hid fun X hX => (hB3 X hX).2
  unfold AnsP at HN1 HN2 HW1 HW2 HV1 HV2
  clear hB1 hB2 hB3 hJ hM hP hT hQ hl hj htl hpl hql hk2
  have HSM := Lib.hid same_ans
  go_enter Tryz.func9, Tryz.ntmps9
  go_upto_region 1 with fail
  have hbx_ := blks1 w [.slice oj js.length cj, .slice om ms.length cm] 25
  have HB := Lib.hid (hbx_.2)
  generalize w.alloc (.cells #[.slice oj js.length cj, .slice om ms.length cm] 25) = W1 at hbx_ HB ⊢
  obtain ⟨r6, hbel_⟩ := hbx_
  obtain ⟨n6, hn_⟩ : ∃ n, n = w.heap.size := ⟨_, rfl⟩
  rw [← hn_] at r6 ⊢
  clear hn_ hbel_
  have HR6 := Lib.hid r6
  have hmk : ∀ Y, Below W1.heap.size W1 Y → Y.cell? ⟨n6, 0, none⟩ = some (.slice oj js.length cj) ∧ Y.cell? ⟨n6, 1, none⟩ = some (.slice om ms.length cm) ∧ Below w.heap.size w Y := fun Y hY => ⟨(HR6.out.keep hY).c 0 _ rfl, (HR6.out.keep hY).c 1 _ rfl, below_call HB.out hY⟩
  have hS := hmk W1 (Below.refl _ _)
  have HMK := Lib.hid hmk
  have l6 := HR6.out.lt
  clear hmk r6
  go_region_held3 (fun Y => Y.cell? ⟨n6, 0, none⟩ = some (.slice oj js.length cj) ∧ Y.cell? ⟨n6, 1, none⟩ = some (.slice om ms.length cm) ∧ Below w.heap.size w Y)
    (first
      | assumption
      | exact HMK.out _ (by repeat (first | exact Below.refl _ _ | apply Below.drew | refine below_call ?_ (by assumption))))
    (first
      | (go_at_call 14
         with_reducible refine (HN1.out _ (by assumption : _ ∧ _ ∧ Below w.heap.size w _).2.2).mono ?_
         rintro e Xa ⟨os1, cs1, rfl, hs1, hr⟩)
      | (go_at_call 23
         with_reducible refine (HN2.out _ (by assumption : _ ∧ _ ∧ Below w.heap.size w _).2.2).mono ?_
         rintro e Xa ⟨os2, cs2, rfl, hs2, hr⟩)
      | (go_at_call 13
         with_reducible refine (HW1.out _ (by assumption : _ ∧ _ ∧ Below w.heap.size w _).2.2).mono ?_
         rintro e Xa ⟨os1, cs1, rfl, hs1, hr⟩)
      | (go_at_call 24
         with_reducible refine (HW2.out _ (by assumption : _ ∧ _ ∧ Below w.heap.size w _).2.2).mono ?_
         rintro e Xa ⟨os2, cs2, rfl, hs2, hr⟩)
      | (go_at_call 13
         with_reducible refine (HV1.out _ (by assumption : _ ∧ _ ∧ Below w.heap.size w _).2.2).mono ?_
         rintro e Xa ⟨os1, cs1, rfl, hs1, hr⟩)
      | (go_at_call 24
         with_reducible refine (HV2.out _ (by assumption : _ ∧ _ ∧ Below w.heap.size w _).2.2).mono ?_
         rintro e Xa ⟨os2, cs2, rfl, hs2, hr⟩)
      | (go_at_call 18
         with_reducible refine (HSM.out _ _ _ _ _ _ (by assumption) (hs1.keep (by repeat (first | exact Below.refl _ _ | apply Below.drew | refine below_call ?_ (by assumption)))) (hs2.keep (by repeat (first | exact Below.refl _ _ | apply Below.drew | refine below_call ?_ (by assumption))))).mono ?_
         rintro e Xa ⟨rfl, hr⟩))
  all_goals
    go_wp2_with fail
    go_ret
    exact ⟨rfl, below_call HB.out (by repeat (first | exact Below.refl _ _ | apply Below.drew | refine below_call ?_ (by assumption)))⟩
end Go.Proofs.Ng
end

section
/-
  The law NeighborFinds.
-/
namespace Go.Proofs.Ng
open Go.RowKit

set_option maxRecDepth 100000 in
set_option maxHeartbeats 8000000 in
theorem finds3 (oj om op ot oq ol ox : Option Addr) (cj cm cp ct cq cl cx : Nat) (js : List JV) (ms : List MV) (pts : List (List Int)) (t : List Nd) (q ls xs : List Int) (n k most : Int) (w : World)
    (hlm : ms.length ≤ 9223372036854775807) (hJ : Sl w oj 12 (js.map JV.vals)) (hM : Sl w om 5 (ms.map MV.vals)) (hP : Pts w op pts) (hT : Sl w ot 4 (t.map Nd.vals)) (hQ : Sl w oq 1 (pvals q))
    (hL : Sl w ol 1 (pvals ls)) (hl : ls.length ≤ 9223372036854775807) (hX : Sl w ox 1 (pvals xs)) (hm : xs.length * 8 ≤ 140737488351232) (hmn : ox = none → xs = [] ∧ cx = 0) (hk1 : -9223372036854775808 ≤ k) (hk2 : k ≤ 9223372036854775807) :
    Calls Tryz.prog 3 #[.agg #[.slice oj js.length cj, .slice om ms.length cm], .slice op pts.length cp, .slice ot t.length ct, .slice oq q.length cq, .slice ol ls.length cl, .slice ox xs.length cx, .int .i64 n, .int .i64 k, .int .i64 most] w (BoolP true w) := by
  have HSO := Lib.hid (fun (W : World) (hW : Below w.heap.size w W) => some9 ol ox cl cx ls xs n W (hL.keep hW) hl (hX.keep hW) hm hmn)
  have HJ := Lib.hid hJ
  have HM := Lib.hid hM
  have HP := Lib.hid hP
  have HT := Lib.hid hT
  have HQ := Lib.hid hQ
  clear hL hX hmn hl hm hJ hM hP hT hQ
  go_enter Tryz.func3, Tryz.ntmps3
  go_upto_region 1 with fail
  have hbx_ := blks1 w [.slice oj js.length cj, .slice om ms.length cm] 25
  have HB1 := Lib.hid (hbx_.2)
  generalize w.alloc (.cells #[.slice oj js.length cj, .slice om ms.length cm] 25) = W1 at hbx_ HB1 ⊢
  obtain ⟨r9, hbel_⟩ := hbx_
  obtain ⟨n9, hn_⟩ : ∃ n, n = w.heap.size := ⟨_, rfl⟩
  rw [← hn_] at r9 ⊢
  clear hn_ hbel_
  have y0 : W1.cell? ⟨n9, 0, none⟩ = some (.slice oj js.length cj) := r9.c 0 _ rfl
  have y1 : W1.cell? ⟨n9, 1, none⟩ = some (.slice om ms.length cm) := r9.c 1 _ rfl
  have l9 := r9.lt
  have HFW := Lib.hid (few7 op pts.length cp W1)
  have HR9 := Lib.hid r9
  clear r9
  by_cases h1 : pts.length ≤ 40
  · rw [decide_eq_true h1] at HFW
    by_cases h2 : 40 < t.length
    · have d2 : decide ((40 : Int) < (t.length : Int)) = true := decide_eq_true (by omega)
      have d2n : decide (40 < t.length) = true := decide_eq_true h2
      go_wp2_with fail
      refine HFW.out.mono ?_
      rintro e W2 ⟨rfl, hw2⟩
      subst hw2
      go_wp2_with fail
      refine (Tryz.awake _).mono ?_
      rintro e W8 ⟨rfl, hb8⟩
      go_wp2_with fail
      go_ret
      exact ⟨rfl, below_call HB1.out hb8⟩
    · have d2 : decide ((40 : Int) < (t.length : Int)) = false := decide_eq_false (by omega)
      have d2n : decide (40 < t.length) = false := decide_eq_false h2
      by_cases h3 : 12 < js.length
      · have d3 : decide ((12 : Int) < (js.length : Int)) = true := decide_eq_true (by omega)
        have d3n : decide (12 < js.length) = true := decide_eq_true h3
        go_wp2_with fail
        refine HFW.out.mono ?_
        rintro e W2 ⟨rfl, hw2⟩
        subst hw2
        go_wp2_with fail
        refine (Tryz.awake _).mono ?_
        rintro e W8 ⟨rfl, hb8⟩
        go_wp2_with fail
        go_ret
        exact ⟨rfl, below_call HB1.out hb8⟩
      · have d3 : decide ((12 : Int) < (js.length : Int)) = false := decide_eq_false (by omega)
        have d3n : decide (12 < js.length) = false := decide_eq_false h3
        by_cases h4 : 20 < q.length
        · have d4 : decide ((20 : Int) < (q.length : Int)) = true := decide_eq_true (by omega)
          have d4n : decide (20 < q.length) = true := decide_eq_true h4
          go_wp2_with fail
          refine HFW.out.mono ?_
          rintro e W2 ⟨rfl, hw2⟩
          subst hw2
          go_wp2_with fail
          refine (Tryz.awake _).mono ?_
          rintro e W8 ⟨rfl, hb8⟩
          go_wp2_with fail
          go_ret
          exact ⟨rfl, below_call HB1.out hb8⟩
        · have d4 : decide ((20 : Int) < (q.length : Int)) = false := decide_eq_false (by omega)
          have d4n : decide (20 < q.length) = false := decide_eq_false h4
          go_wp2_with fail
          refine HFW.out.mono ?_
          rintro e W2 ⟨rfl, hw2⟩
          subst hw2
          have HS1 := Lib.hid (HSO.out _ HB1.out)
          go_wp2_with fail
          with_reducible refine HS1.out.mono ?_
          rintro e W3 ⟨js2, ms2, oa, cj2, oms, cms, pts2, op2, cp2, q2, oq2, cq2, rfl, hrob, hgood, hpp, ⟨hql, hqi⟩, hqs, hb3⟩
          clear d2 d2n d3 d3n d4 d4n y0 y1 l9
          have hpl2 : pts2.length ≤ 12 := by have := hgood.1; omega
          have hj2 : js2.length ≤ 3 := by have := hrob.1; omega
          have hm2 : ms2.length ≤ 2 := by obtain ⟨_, h, _⟩ := hrob; exact h
          have hq2 : q2.length ≤ 3 := by omega
          have hJ2 : Sl W3 oa 12 (js2.map JV.vals) := by obtain ⟨_, _, _, _, h5, h6⟩ := hrob; exact h5
          have hM2 : Sl W3 oms 5 (ms2.map MV.vals) := by obtain ⟨_, _, _, _, h5, h6⟩ := hrob; exact h6
          have HB3 := Lib.hid (below_call HB1.out hb3)
          have htl2 : (buildP pts2).length ≤ 12 := by
            have := (fits_some hrob hgood (by omega) hql hqi).2.2.2.1.2.1
            omega
          have HJ2 := Lib.hid hJ2
          have HM2 := Lib.hid hM2
          have HP2 := Lib.hid hpp
          have HQ2 := Lib.hid hqs
          have HR93 := Lib.hid (HR9.out.keep hb3)
          clear hrob hgood hpp hql hqi hqs hb3 hJ2 hM2 HSO HS1 HFW
          go_upto_region 4 with fail
          have hbx_ := blks1 W3 [.slice oa js2.length cj2, .slice oms ms2.length cms] 25
          replace HJ2 := Lib.hid (HJ2.out.keep hbx_.2)
          replace HM2 := Lib.hid (HM2.out.keep hbx_.2)
          replace HP2 := Lib.hid (HP2.out.keep hbx_.2)
          replace HQ2 := Lib.hid (HQ2.out.keep hbx_.2)
          replace HR93 := Lib.hid (HR93.out.keep hbx_.2)
          have HB4 := Lib.hid (hbx_.2)
          generalize W3.alloc (.cells #[.slice oa js2.length cj2, .slice oms ms2.length cms] 25) = W4 at hbx_ HJ2 HM2 HP2 HQ2 HR93 HB4 ⊢
          obtain ⟨r19, hbel_⟩ := hbx_
          obtain ⟨n19, hn_⟩ : ∃ n, n = W3.heap.size := ⟨_, rfl⟩
          rw [← hn_] at r19 ⊢
          clear hn_ hbel_
          have HB5 := Lib.hid (below_call HB3.out HB4.out)
          have HR19 := Lib.hid r19
          clear r19
          obtain ⟨j, hj⟩ : ∃ j : Nat, k % 9 = (j : Nat) ∧ j < 9 := ⟨(k % 9).toNat, by omega, by omega⟩
          have HRD := Lib.hid (fun X : World => (round_any k 9 X (by omega) (by omega)).mono (R' := fun e w' => e = .returned (.int .i64 (j : Nat)) ∧ w' = X) fun _ _ h => ⟨by rw [h.1, hj.1], h.2.symm⟩)
          have hwj : IntKind.i64.wrap ((j : Int) - 1) = (j : Int) - 1 := IntWalk.i64_in _ (by omega)
          have hbd := fun (X : World) (hX : Below W4.heap.size W4 X) => show Calls Tryz.prog 10 #[.slice op2 pts2.length cp2] X (NodesP (buildP pts2) X) from refBuild12 op2 cp2 pts2 X (HP2.out.keep hX)
          generalize buildP pts2 = t2 at hbd htl2
          have hF1 := fun (X : World) (hX : Below W4.heap.size W4 X) => finds9 oj om op ot oq cj cm cp ct cq js ms pts t q k most X (by omega) hlm (HJ.out.keep (below_call HB5.out hX)) (HM.out.keep (below_call HB5.out hX)) (HP.out.keep (below_call HB5.out hX)) (HT.out.keep (below_call HB5.out hX)) (HQ.out.keep (below_call HB5.out hX)) (by omega) (by omega) (by omega) hk2
          have hF2 := fun (X : World) (hX : Below W4.heap.size W4 X) (ou : Option Addr) (cu : Nat) (hU : Sl X ou 4 (t2.map Nd.vals)) => finds9 oa oms op2 ou oq2 cj2 cms cp2 cu cq2 js2 ms2 pts2 t2 q2 ((j : Int) - 1) most X (by omega) (by omega) (HJ2.out.keep hX) (HM2.out.keep hX) (HP2.out.keep hX) hU (HQ2.out.keep hX) (by omega) (by omega) (by omega) (by omega)
          have hF3 := fun (X : World) (hX : Below W4.heap.size W4 X) (ou : Option Addr) (cu : Nat) (hU : Sl X ou 4 (t2.map Nd.vals)) => finds9 oa oms op2 ou oq cj2 cms cp2 cu cq js2 ms2 pts2 t2 q k most X (by omega) (by omega) (HJ2.out.keep hX) (HM2.out.keep hX) (HP2.out.keep hX) hU (HQ.out.keep (below_call HB5.out hX)) (by omega) (by omega) (by omega) hk2
          have hF4 := fun (X : World) (hX : Below W4.heap.size W4 X) => finds9 oa oms op2 ot oq2 cj2 cms cp2 ct cq2 js2 ms2 pts2 t q2 k most X (by omega) (by omega) (HJ2.out.keep hX) (HM2.out.keep hX) (HP2.out.keep hX) (HT.out.keep (below_call HB5.out hX)) (HQ2.out.keep hX) (by omega) (by omega) (by omega) hk2
          have HBD := Lib.hid hbd
          have HF1 := Lib.hid hF1
          have HF2 := Lib.hid hF2
          have HF3 := Lib.hid hF3
          have HF4 := Lib.hid hF4
          have hmk : ∀ Y, Below W4.heap.size W4 Y → Y.cell? ⟨n9, 0, none⟩ = some (.slice oj js.length cj) ∧ Y.cell? ⟨n9, 1, none⟩ = some (.slice om ms.length cm) ∧ Y.cell? ⟨n19, 0, none⟩ = some (.slice oa js2.length cj2) ∧ Y.cell? ⟨n19, 1, none⟩ = some (.slice oms ms2.length cms) ∧ Below W4.heap.size W4 Y := fun Y hY => ⟨(HR93.out.keep hY).c 0 _ rfl, (HR93.out.keep hY).c 1 _ rfl, (HR19.out.keep hY).c 0 _ rfl, (HR19.out.keep hY).c 1 _ rfl, hY⟩
          have hS := hmk W4 (Below.refl _ _)
          have HMK := Lib.hid hmk
          have l9 := HR93.out.lt
          have l19 := HR19.out.lt
          clear hmk hbd hF1 hF2 hF3 hF4 hj h1 h2 h3 h4 hlm hk1 hk2 hpl2 hj2 hm2 hq2 htl2
          go_region_held3 (fun Y => Y.cell? ⟨n9, 0, none⟩ = some (.slice oj js.length cj) ∧ Y.cell? ⟨n9, 1, none⟩ = some (.slice om ms.length cm) ∧ Y.cell? ⟨n19, 0, none⟩ = some (.slice oa js2.length cj2) ∧ Y.cell? ⟨n19, 1, none⟩ = some (.slice oms ms2.length cms) ∧ Below W4.heap.size W4 Y)
            (first
              | assumption
              | exact HMK.out _ (by repeat (first | exact Below.refl _ _ | apply Below.drew | refine below_call ?_ (by assumption))))
            (first
              | (go_at_call 7
                 refine (Tryz.awake _).mono ?_
                 rintro e Xa ⟨rfl, hr⟩)
              | (go_at_call 10
                 with_reducible refine (HBD.out _ (by assumption : _ ∧ _ ∧ _ ∧ _ ∧ Below W4.heap.size W4 _).2.2.2.2).mono ?_
                 rintro e Xa ⟨ou, cu, rfl, -, hu, hr, -⟩)
              | (go_at_call 11
                 refine (HRD.out _).mono ?_
                 rintro e Xa ⟨rfl, hw⟩
                 subst hw)
              | (go_at_call 9
                 with_reducible refine (HF1.out _ (by assumption : _ ∧ _ ∧ _ ∧ _ ∧ Below W4.heap.size W4 _).2.2.2.2).mono ?_
                 rintro e Xa ⟨rfl, hr⟩)
              | (go_at_call 9
                 with_reducible refine (HF2.out _ (by assumption : _ ∧ _ ∧ _ ∧ _ ∧ Below W4.heap.size W4 _).2.2.2.2 _ _ (hu.keep (by repeat (first | exact Below.refl _ _ | apply Below.drew | refine below_call ?_ (by assumption))))).mono ?_
                 rintro e Xa ⟨rfl, hr⟩)
              | (go_at_call 9
                 with_reducible refine (HF3.out _ (by assumption : _ ∧ _ ∧ _ ∧ _ ∧ Below W4.heap.size W4 _).2.2.2.2 _ _ (hu.keep (by repeat (first | exact Below.refl _ _ | apply Below.drew | refine below_call ?_ (by assumption))))).mono ?_
                 rintro e Xa ⟨rfl, hr⟩)
              | (go_at_call 9
                 with_reducible refine (HF4.out _ (by assumption : _ ∧ _ ∧ _ ∧ _ ∧ Below W4.heap.size W4 _).2.2.2.2).mono ?_
                 rintro e Xa ⟨rfl, hr⟩))
          all_goals
            go_wp2_with fail
            go_ret
            exact ⟨rfl, below_call HB5.out (by repeat (first | exact Below.refl _ _ | apply Below.drew | refine below_call ?_ (by assumption)))⟩
  · rw [decide_eq_false h1] at HFW
    go_wp2_with fail
    refine HFW.out.mono ?_
    rintro e W2 ⟨rfl, hw2⟩
    subst hw2
    go_wp2_with fail
    refine (Tryz.awake _).mono ?_
    rintro e W8 ⟨rfl, hb8⟩
    go_wp2_with fail
    go_ret
    exact ⟨rfl, below_call HB1.out hb8⟩
end Go.Proofs.Ng
end

section
/-
  What the readings of the arguments say of memory.
-/
namespace Go.Proofs.Ng
open Go.RowKit
theorem list_of {A : Type} (P : Nat → A → Prop) : ∀ n : Nat, (∀ i, i < n → ∃ r, P i r) → ∃ rs : List A, rs.length = n ∧ ∀ (i : Nat) (r : A), rs[i]? = some r → P i r
  | 0, _ => ⟨[], rfl, fun i r h => by simp at h⟩
  | n + 1, h => by
    obtain ⟨rs, hl, hr⟩ := list_of P n fun i hi => h i (by omega)
    obtain ⟨r, hp⟩ := h n (by omega)
    refine ⟨rs ++ [r], by simp [hl], fun i r' hi => ?_⟩
    rcases Nat.lt_or_ge i rs.length with hlt | hge
    · rw [List.getElem?_append_left hlt] at hi
      exact hr i r' hi
    · rw [List.getElem?_append_right hge] at hi
      have : i = n := by
        rcases Nat.eq_or_lt_of_le hge with h | h
        · omega
        · rw [List.getElem?_eq_none (by simp; omega)] at hi; cases hi
      subst this
      have e : i - rs.length = 0 := by omega
      rw [e] at hi
      simp at hi
      subst hi
      exact hp

/-- A slice that is read lies in memory, row for row. -/
theorem open_rows {H : Type} {enc : TypeId × Value → H} {P : Program} {w : World} {base : Nat} {spare : Nat → Bool} {held : Bool} {A : Type} (f : A → List Value) {t e : TypeId} {n fuel : Nat} {v : Value} {x : DataW H × List MemPlace} (ht : P.underlying t = some (.slice e)) (hc : P.cellsOf e = n) (hn : 0 < n)
    (hrow : ∀ (m : Nat) (cs : List Value) (y : DataW H × List MemPlace), cs.length = n → DataW.trod enc P w base spare held m e cs = some y → ∃ r : A, cs = f r)
    (h : DataW.trod enc P w base spare held fuel t [v] = some x) : ∃ (oa : Option Addr) (cap : Nat) (rs : List A), v = .slice oa rs.length cap ∧ rs.length ≤ 9223372036854775807 ∧ Sl w oa n (rs.map f) ∧ (oa = none → rs = [] ∧ cap = 0) ∧ (x.1 = .nil ∧ rs = [] ∨ ∃ elems spare, x.1 = .slice elems spare ∧ elems.length = rs.length) := by
  rcases Go.Deep.open_slice ht h with ⟨h0, hx0⟩ | ⟨a, len, cap, m, k, D, Pl, h1, hb, hl, hm, hmm, hx0, hx⟩
  · injection h0 with h0 _
    subst h0
    exact ⟨none, 0, [], rfl, by simp, fun h => absurd rfl h, fun _ => ⟨rfl, rfl⟩, .inl ⟨by rw [hx0], rfl⟩⟩
  · injection h1 with h1 _
    subst h1
    have hlm : len ≤ m := by rw [hmm]; split <;> omega
    obtain ⟨rs, hrl, hr⟩ := list_of (fun i r => w.cells? base (a.add (i * n)) n = some (f r)) len (fun i hi => by
      obtain ⟨cs, c1, c2⟩ := hx i (by omega)
      rw [hc] at c1
      obtain ⟨r, rfl⟩ := hrow _ _ _ (World.cells?_some c1).2.1 c2
      exact ⟨r, c1⟩)
    subst hrl
    refine ⟨some a, cap, rs, rfl, by unfold maxLen at hm; omega, fun hne => ?_, fun h => by (cases h), .inr ⟨_, _, by rw [hx0], by simp⟩⟩
    have hne' : rs ≠ [] := fun h => hne (by simp [h])
    have cell : ∀ (i : Nat) (r : A), rs[i]? = some r → ∀ q u, (f r)[q]? = some u → w.cell? ((a.add (i * n)).add q) = some u := by
      intro i r hi q u hq
      obtain ⟨_, c2, c3⟩ := World.cells?_some (hr i r hi)
      have hqn : q < n := by
        rcases Nat.lt_or_ge q (f r).length with h' | h'
        · omega
        · rw [List.getElem?_eq_none h'] at hq; cases hq
      rw [c3 q hqn, hq]
    -- the slice's address has no spot
    have sp : a.spot = none := by
      cases rs with
      | nil => exact absurd rfl hne'
      | cons r0 rt =>
        obtain ⟨_, c2, c3⟩ := World.cells?_some (hr 0 r0 rfl)
        have c4 := c3 0 hn
        have : (f r0)[0]? = some ((f r0)[0]'(by omega)) := List.getElem?_eq_getElem _
        rw [this] at c4
        cases hs : a.spot with
        | none => rfl
        | some s =>
          exfalso
          have e0 : ((a.add (0 * n)).add 0) = a := by simp [Addr.add]
          rw [e0] at c4
          unfold World.cell? at c4
          rw [hs] at c4
          revert c4
          cases w.heap[a.block]? with
          | none => simp
          | some o => cases o <;> simp
    obtain ⟨b, off, sp'⟩ := a
    simp at sp
    subst sp
    refine ⟨b, off, rfl, ?_, fun i r hi q u hq => ?_⟩
    · cases rs with
      | nil => exact absurd rfl hne'
      | cons r0 rt =>
        obtain ⟨_, c2, c3⟩ := World.cells?_some (hr 0 r0 rfl)
        have c4 := c3 0 hn
        have : (f r0)[0]? = some ((f r0)[0]'(by omega)) := List.getElem?_eq_getElem _
        rw [this] at c4
        rcases Nat.lt_or_ge b w.heap.size with h' | h'
        · exact h'
        · exfalso
          have e0 : (((⟨b, off, none⟩ : Addr).add (0 * n)).add 0) = ⟨b, off, none⟩ := by simp [Addr.add]
          rw [e0] at c4
          simp [World.cell?, Array.getElem?_eq_none h'] at c4
    · rw [List.getElem?_map] at hi
      cases hri : rs[i]? with
      | none => rw [hri] at hi; cases hi
      | some r' =>
        rw [hri] at hi
        simp at hi
        subst hi
        rw [← cell i r' hri q u hq]
        congr 1
        simp only [Addr.add]
        split <;> split <;> simp_all <;> omega

theorem row_int {H : Type} {enc : TypeId × Value → H} {w : World} {base : Nat} {spare : Nat → Bool} {held : Bool} (e : TypeId) (hu : Tryz.prog.underlying e = some (.int .i64)) (m : Nat) (cs : List Value) (y : DataW H × List MemPlace) (_ : cs.length = 1) (h : DataW.trod enc Tryz.prog w base spare held m e cs = some y) : ∃ r : Int, cs = [.int .i64 r] := by
  obtain ⟨n, rfl, _⟩ := DataW.trod_int hu h
  exact ⟨n, rfl⟩
theorem clo3 : Tryz.prog.cellsOf 3 = 1 := by kernel_rfl
theorem open_nums {H : Type} {enc : TypeId × Value → H} {w : World} {base : Nat} {spare : Nat → Bool} {held : Bool} {t e : TypeId} {fuel : Nat} {v : Value} {x : DataW H × List MemPlace} (ht : Tryz.prog.underlying t = some (.slice e)) (hu : Tryz.prog.underlying e = some (.int .i64)) (hc : Tryz.prog.cellsOf e = 1)
    (h : DataW.trod enc Tryz.prog w base spare held fuel t [v] = some x) : ∃ (oa : Option Addr) (cap : Nat) (rs : List Int), v = .slice oa rs.length cap ∧ rs.length ≤ 9223372036854775807 ∧ Sl w oa 1 (pvals rs) ∧ (oa = none → rs = [] ∧ cap = 0) ∧ (x.1 = .nil ∧ rs = [] ∨ ∃ elems spare, x.1 = .slice elems spare ∧ elems.length = rs.length) :=
  open_rows (fun p : Int => [.int .i64 p]) ht hc (by omega) (row_int e hu) h
theorem laidOut : laidOutB Tryz.prog = true := by kernel_rfl
open Go.ChangeShapes Go.WideShapes Go.ChangeAt
set_option linter.unusedVariables false
/-- The post, of a world of which it is known that nothing that stood before has changed. -/
theorem post_below {H : Type} {enc : TypeId × Value → H} {P : Program} {f : Func} {s : ChangeSpec} {apart fresh handsOn again : Bool} {W W' : World} {args : Array Value} {v : Value} {ds gs : List (DataW H)} {before pa pv : List MemPlace}
    (hW : DataW.Whole enc P f.params.toList s.vars apart W args.toList ds gs before)
    (hres : ∀ (b : Nat) (sp : Nat → Bool) (hd : Bool), DataW.TrodAll enc P W' b sp hd f.resultTypes.toList (v.resultList f.resultTypes.size) (s.fn H (ds ++ gs)).results [])
    (hargs : ∀ sp : Nat → Bool, (∀ p ∈ before, sp p.block = true) → DataW.TrodAll enc P W' 0 sp true f.params.toList args.toList (s.fn H (ds ++ gs)).args pa)
    (hvars : ∀ sp : Nat → Bool, (∀ p ∈ before, sp p.block = true) → DataW.TrodVars enc P W' sp s.vars (s.fn H (ds ++ gs)).vars pv)
    (hps : before = pa ++ pv) (hb : Below W.heap.size W W')
    (hok : ∀ (j : Nat) (t : TypeId) (r : Value), f.resultTypes[j]? = some t → (v.resultList f.resultTypes.size)[j]? = some r → Value.okWide P W' .any 0 t r) :
    s.post enc P f apart fresh handsOn again W args v W' := by
  have hlt : ∀ p ∈ before, p.block < W.heap.size := fun p hp => hW.lt p hp
  have hold : ∀ p ∈ before, (fun b => decide (b < W.heap.size)) p.block = true := fun p hp => by simpa using hlt p hp
  refine ⟨ds, gs, before, [], pa, pv, hW, hres _ _ _, hargs _ hold, hvars _ hold, World.keptBut_mono (fun p hp => ⟨hp, ?_⟩) (hb.frame (· ∈ before)), fun _ => ?_⟩
  · rw [hps, List.mem_append] at hp
    exact Or.inr hp
  · obtain ⟨_, _, _, _, _, hz, hn⟩ := hW
    refine ⟨hok, _, _, ([] ++ pa) ++ pv, ⟨[] ++ pa, pv, trodAll_append (hargs _ (fun _ _ => rfl)) (hres _ _ _), hvars _ (fun _ _ => rfl), rfl, ?_, ?_⟩, ?_⟩
    · intro b off hp
      have hin : MemPlace.cell b off ∈ before := by rw [hps]; simpa using hp
      rw [hb.frozen (hlt _ hin)]
      exact hz b off hin
    · intro ha
      have := hn ha
      rw [hps] at this
      simpa using this
    · intro p hp _
      rw [hps]
      simpa using hp


/-- What was read reads as it did. -/
theorem stays {H : Type} {enc : TypeId × Value → H} {P : Program} (hl : laidOutB P = true) {W W' : World} {sp' : Nat → Bool} : ∀ (ts : List TypeId) (vs : List Value) (ds : List (DataW H)) (ps : List MemPlace), (∀ t ∈ ts, P.readableRec t = true ∧ t < P.types.size) →
    DataW.TrodAll enc P W 0 (fun _ => true) true ts vs ds ps → (∀ p ∈ ps, W.sameAt W' p) → (∀ p ∈ ps, sp' p.block = true) → DataW.TrodAll enc P W' 0 sp' true ts vs ds ps
  | [], [], [], ps, _, h, _, _ => h
  | t :: ts, v :: vs, d :: ds, ps, ht, h, h1, h2 => by
    obtain ⟨p, q, a, b, rfl⟩ := h
    exact ⟨p, q, WideElems.Trod_stays hl (ht t (by simp)).1 (ht t (by simp)).2 a (fun x hx => h1 x (by simp [hx])) (fun x hx => h2 x (by simp [hx])), stays hl ts vs ds q (fun t h => ht t (by simp [h])) b (fun x hx => h1 x (by simp [hx])) (fun x hx => h2 x (by simp [hx])), rfl⟩
  | [], _ :: _, _, _, _, h, _, _ => by simp [DataW.TrodAll] at h
  | [], [], _ :: _, _, _, h, _, _ => by simp [DataW.TrodAll] at h
  | _ :: _, [], _, _, _, h, _, _ => by simp [DataW.TrodAll] at h
  | _ :: _, _ :: _, [], _, _, h, _, _ => by simp [DataW.TrodAll] at h

theorem own24 : ownKnob Tryz.prog.godebug = none := by kernel_rfl
theorem clo2 : Tryz.prog.cellsOf 2 = 1 := by kernel_rfl
theorem clo31 : Tryz.prog.cellsOf 28 = 1 := by kernel_rfl
theorem clo36 : Tryz.prog.cellsOf 57 = 4 := by kernel_rfl
theorem read3 : Tryz.prog.readableRec 3 = true ∧ 3 < Tryz.prog.types.size := ⟨by kernel_rfl, of_decide_eq_true (by kernel_rfl)⟩
theorem read22 : Tryz.prog.readableRec 26 = true ∧ 26 < Tryz.prog.types.size := ⟨by kernel_rfl, of_decide_eq_true (by kernel_rfl)⟩
theorem read23 : Tryz.prog.readableRec 27 = true ∧ 27 < Tryz.prog.types.size := ⟨by kernel_rfl, of_decide_eq_true (by kernel_rfl)⟩
theorem read24 : Tryz.prog.readableRec 29 = true ∧ 29 < Tryz.prog.types.size := ⟨by kernel_rfl, of_decide_eq_true (by kernel_rfl)⟩
/-- A slice of points, as it is read. -/
theorem open_pts {H : Type} {enc : TypeId × Value → H} {w : World} {base : Nat} {spare : Nat → Bool} {held : Bool} {fuel : Nat} {v : Value} {x : DataW H × List MemPlace}
    (h : DataW.trod enc Tryz.prog w base spare held fuel 26 [v] = some x) : ∃ (oa : Option Addr) (cap : Nat) (pts : List (List Int)), v = .slice oa pts.length cap ∧ Pts w oa pts := by
  obtain ⟨oa, cap, rs, rfl, _, hs, _⟩ := open_rows (A := { p : Value × List Int // PtAt w p.1 p.2 }) (fun r => [r.1.1]) Tryz.underlying26 clo31 (by omega) (fun m cs y hc hy => by
    match cs, hc with
    | [u], _ =>
      obtain ⟨ox, cx, xs, rfl, _, hX, _⟩ := open_nums Tryz.underlying28 Tryz.underlying2 clo2 hy
      exact ⟨⟨(.slice ox xs.length cx, xs), ox, cx, rfl, hX⟩, rfl⟩) h
  refine ⟨oa, cap, rs.map fun r => r.1.2, by simp, ⟨rs.map fun r => r.1.1, by simp, by rw [List.map_map]; exact hs, fun k u xs hu hx => ?_⟩⟩
  rw [List.getElem?_map, Option.map_eq_some_iff] at hu hx
  obtain ⟨r, hr, rfl⟩ := hu
  obtain ⟨r', hr', rfl⟩ := hx
  rw [hr] at hr'
  injection hr' with hr'
  subst hr'
  exact r.2
theorem get_some' {A : Type} {xs : List A} {n i : Nat} (h : xs.length = n) (hi : i < n) : ∃ y, xs[i]? = some y := ⟨_, List.getElem?_eq_getElem (by omega)⟩
set_option maxRecDepth 100000 in
theorem row_node {H : Type} {enc : TypeId × Value → H} {w : World} {base : Nat} {spare : Nat → Bool} {held : Bool} (m : Nat) (cs : List Value) (y : DataW H × List MemPlace) (_ : cs.length = 4) (h : DataW.trod enc Tryz.prog w base spare held m 57 cs = some y) : ∃ r : Nd, cs = r.vals := by
  obtain ⟨xs, n, _, _, hc, hl, hf⟩ := DataW.trod_struct Tryz.underlying57 h
  rw [clo36] at hc
  match cs, hc with
  | [a, b, c, d], _ =>
    have hl' : xs.length = 4 := hl
    obtain ⟨y0, g0⟩ := get_some' hl' (i := 0) (by omega)
    have h0 : DataW.trod enc Tryz.prog w base spare held n 3 (List.take (Tryz.prog.cellsOf 3) (List.drop 0 ([a, b, c, d] : List Value))) = xs[0]? := hf 0 _ rfl
    simp only [g0] at h0
    obtain ⟨y1, g1⟩ := get_some' hl' (i := 1) (by omega)
    have h1 : DataW.trod enc Tryz.prog w base spare held n 3 (List.take (Tryz.prog.cellsOf 3) (List.drop 1 ([a, b, c, d] : List Value))) = xs[1]? := hf 1 _ rfl
    simp only [g1] at h1
    obtain ⟨y2, g2⟩ := get_some' hl' (i := 2) (by omega)
    have h2 : DataW.trod enc Tryz.prog w base spare held n 3 (List.take (Tryz.prog.cellsOf 3) (List.drop 2 ([a, b, c, d] : List Value))) = xs[2]? := hf 2 _ rfl
    simp only [g2] at h2
    obtain ⟨y3, g3⟩ := get_some' hl' (i := 3) (by omega)
    have h3 : DataW.trod enc Tryz.prog w base spare held n 3 (List.take (Tryz.prog.cellsOf 3) (List.drop 3 ([a, b, c, d] : List Value))) = xs[3]? := hf 3 _ rfl
    simp only [g3] at h3
    rw [clo3] at h0 h1 h2 h3
    obtain ⟨x0, e0⟩ := row_int 3 Tryz.underlying3 _ _ _ rfl h0
    obtain ⟨x1, e1⟩ := row_int 3 Tryz.underlying3 _ _ _ rfl h1
    obtain ⟨x2, e2⟩ := row_int 3 Tryz.underlying3 _ _ _ rfl h2
    obtain ⟨x3, e3⟩ := row_int 3 Tryz.underlying3 _ _ _ rfl h3
    simp at e0 e1 e2 e3
    subst e0 e1 e2 e3
    exact ⟨⟨x0, x1, x2, x3⟩, rfl⟩
theorem open_nodes {H : Type} {enc : TypeId × Value → H} {w : World} {base : Nat} {spare : Nat → Bool} {held : Bool} {fuel : Nat} {v : Value} {x : DataW H × List MemPlace}
    (h : DataW.trod enc Tryz.prog w base spare held fuel 27 [v] = some x) : ∃ (oa : Option Addr) (cap : Nat) (t : List Nd), v = .slice oa t.length cap ∧ Sl w oa 4 (t.map Nd.vals) := by
  obtain ⟨oa, cap, rs, rfl, _, hs, _⟩ := open_rows Nd.vals Tryz.underlying27 clo36 (by omega) row_node h
  exact ⟨oa, cap, rs, rfl, hs⟩
end Go.Proofs.Ng
end

section
/-
  What the reading of an arbitrary robot says of memory.
-/
namespace Go.Proofs.Ng
open Go.RowKit

theorem clo77 : Tryz.prog.cellsOf 77 = 3 := by kernel_rfl
theorem clo79 : Tryz.prog.cellsOf 79 = 12 := by kernel_rfl
theorem clo102 : Tryz.prog.cellsOf 102 = 5 := by kernel_rfl
theorem clo25 : Tryz.prog.cellsOf 25 = 2 := by kernel_rfl
theorem clo9 : Tryz.prog.cellsOf 9 = 1 := by kernel_rfl
set_option maxRecDepth 100000 in
theorem row_vec {H : Type} {enc : TypeId × Value → H} {w : World} {base : Nat} {spare : Nat → Bool} {held : Bool} {m : Nat} {a b c : Value} {y : DataW H × List MemPlace} (h : DataW.trod enc Tryz.prog w base spare held m 77 [a, b, c] = some y) : ∃ x y z : Int, a = .int .i64 x ∧ b = .int .i64 y ∧ c = .int .i64 z := by
  obtain ⟨xs, n, _, _, hc, hl, hf⟩ := DataW.trod_array Tryz.underlying77 h
  have hl' : xs.length = 3 := hl
  obtain ⟨y0, g0⟩ := get_some' hl' (i := 0) (by omega)
  obtain ⟨y1, g1⟩ := get_some' hl' (i := 1) (by omega)
  obtain ⟨y2, g2⟩ := get_some' hl' (i := 2) (by omega)
  have h0 := hf 0 (by omega)
  have h1 := hf 1 (by omega)
  have h2 := hf 2 (by omega)
  rw [clo2] at h0 h1 h2
  rw [g0] at h0
  rw [g1] at h1
  rw [g2] at h2
  obtain ⟨x0, e0, _⟩ := DataW.trod_int Tryz.underlying2 h0
  obtain ⟨x1, e1, _⟩ := DataW.trod_int Tryz.underlying2 h1
  obtain ⟨x2, e2, _⟩ := DataW.trod_int Tryz.underlying2 h2
  simp at e0 e1 e2
  exact ⟨x0, x1, x2, e0, e1, e2⟩
set_option maxRecDepth 100000 in
theorem row_joint {H : Type} {enc : TypeId × Value → H} {w : World} {base : Nat} {spare : Nat → Bool} {held : Bool} (m : Nat) (cs : List Value) (y : DataW H × List MemPlace) (_ : cs.length = 12) (h : DataW.trod enc Tryz.prog w base spare held m 79 cs = some y) : ∃ r : JV, cs = r.vals := by
  obtain ⟨xs, n, _, _, hc, hl, hf⟩ := DataW.trod_struct Tryz.underlying79 h
  rw [clo79] at hc
  match cs, hc with
  | [c0, c1, c2, c3, c4, c5, c6, c7, c8, c9, c10, c11], _ =>
    have hl' : xs.length = 10 := hl
    obtain ⟨y0, g0⟩ := get_some' hl' (i := 0) (by omega)
    have h0 : DataW.trod enc Tryz.prog w base spare held n 9 (List.take (Tryz.prog.cellsOf 9) (List.drop 0 ([c0, c1, c2, c3, c4, c5, c6, c7, c8, c9, c10, c11] : List Value))) = xs[0]? := hf 0 _ rfl
    simp only [g0] at h0
    obtain ⟨y1, g1⟩ := get_some' hl' (i := 1) (by omega)
    have h1 : DataW.trod enc Tryz.prog w base spare held n 3 (List.take (Tryz.prog.cellsOf 3) (List.drop 1 ([c0, c1, c2, c3, c4, c5, c6, c7, c8, c9, c10, c11] : List Value))) = xs[1]? := hf 1 _ rfl
    simp only [g1] at h1
    obtain ⟨y2, g2⟩ := get_some' hl' (i := 2) (by omega)
    have h2 : DataW.trod enc Tryz.prog w base spare held n 3 (List.take (Tryz.prog.cellsOf 3) (List.drop 2 ([c0, c1, c2, c3, c4, c5, c6, c7, c8, c9, c10, c11] : List Value))) = xs[2]? := hf 2 _ rfl
    simp only [g2] at h2
    obtain ⟨y3, g3⟩ := get_some' hl' (i := 3) (by omega)
    have h3 : DataW.trod enc Tryz.prog w base spare held n 77 (List.take (Tryz.prog.cellsOf 77) (List.drop 3 ([c0, c1, c2, c3, c4, c5, c6, c7, c8, c9, c10, c11] : List Value))) = xs[3]? := hf 3 _ rfl
    simp only [g3] at h3
    obtain ⟨y4, g4⟩ := get_some' hl' (i := 4) (by omega)
    have h4 : DataW.trod enc Tryz.prog w base spare held n 2 (List.take (Tryz.prog.cellsOf 2) (List.drop 6 ([c0, c1, c2, c3, c4, c5, c6, c7, c8, c9, c10, c11] : List Value))) = xs[4]? := hf 4 _ rfl
    simp only [g4] at h4
    obtain ⟨y5, g5⟩ := get_some' hl' (i := 5) (by omega)
    have h5 : DataW.trod enc Tryz.prog w base spare held n 2 (List.take (Tryz.prog.cellsOf 2) (List.drop 7 ([c0, c1, c2, c3, c4, c5, c6, c7, c8, c9, c10, c11] : List Value))) = xs[5]? := hf 5 _ rfl
    simp only [g5] at h5
    obtain ⟨y6, g6⟩ := get_some' hl' (i := 6) (by omega)
    have h6 : DataW.trod enc Tryz.prog w base spare held n 2 (List.take (Tryz.prog.cellsOf 2) (List.drop 8 ([c0, c1, c2, c3, c4, c5, c6, c7, c8, c9, c10, c11] : List Value))) = xs[6]? := hf 6 _ rfl
    simp only [g6] at h6
    obtain ⟨y7, g7⟩ := get_some' hl' (i := 7) (by omega)
    have h7 : DataW.trod enc Tryz.prog w base spare held n 2 (List.take (Tryz.prog.cellsOf 2) (List.drop 9 ([c0, c1, c2, c3, c4, c5, c6, c7, c8, c9, c10, c11] : List Value))) = xs[7]? := hf 7 _ rfl
    simp only [g7] at h7
    obtain ⟨y8, g8⟩ := get_some' hl' (i := 8) (by omega)
    have h8 : DataW.trod enc Tryz.prog w base spare held n 2 (List.take (Tryz.prog.cellsOf 2) (List.drop 10 ([c0, c1, c2, c3, c4, c5, c6, c7, c8, c9, c10, c11] : List Value))) = xs[8]? := hf 8 _ rfl
    simp only [g8] at h8
    obtain ⟨y9, g9⟩ := get_some' hl' (i := 9) (by omega)
    have h9 : DataW.trod enc Tryz.prog w base spare held n 2 (List.take (Tryz.prog.cellsOf 2) (List.drop 11 ([c0, c1, c2, c3, c4, c5, c6, c7, c8, c9, c10, c11] : List Value))) = xs[9]? := hf 9 _ rfl
    simp only [g9] at h9
    rw [clo9] at h0
    rw [clo3] at h1 h2
    rw [clo77] at h3
    rw [clo2] at h4 h5 h6 h7 h8 h9
    obtain ⟨s0, e0, _⟩ := DataW.trod_string Tryz.underlying9 h0
    obtain ⟨x1, e1, _⟩ := DataW.trod_int Tryz.underlying3 h1
    obtain ⟨x2, e2, _⟩ := DataW.trod_int Tryz.underlying3 h2
    obtain ⟨o0, o1, o2, f0, f1, f2⟩ := row_vec h3
    obtain ⟨x4, e4, _⟩ := DataW.trod_int Tryz.underlying2 h4
    obtain ⟨x5, e5, _⟩ := DataW.trod_int Tryz.underlying2 h5
    obtain ⟨x6, e6, _⟩ := DataW.trod_int Tryz.underlying2 h6
    obtain ⟨x7, e7, _⟩ := DataW.trod_int Tryz.underlying2 h7
    obtain ⟨x8, e8, _⟩ := DataW.trod_int Tryz.underlying2 h8
    obtain ⟨x9, e9, _⟩ := DataW.trod_int Tryz.underlying2 h9
    simp at e0 e1 e2 e4 e5 e6 e7 e8 e9
    subst e0 e1 e2 f0 f1 f2 e4 e5 e6 e7 e8 e9
    exact ⟨⟨s0, x1, x2, o0, o1, o2, x4, x5, x6, x7, x8, x9⟩, rfl⟩
set_option maxRecDepth 100000 in
theorem row_mass {H : Type} {enc : TypeId × Value → H} {w : World} {base : Nat} {spare : Nat → Bool} {held : Bool} (m : Nat) (cs : List Value) (y : DataW H × List MemPlace) (_ : cs.length = 5) (h : DataW.trod enc Tryz.prog w base spare held m 102 cs = some y) : ∃ r : MV, cs = r.vals := by
  obtain ⟨xs, n, _, _, hc, hl, hf⟩ := DataW.trod_struct Tryz.underlying102 h
  rw [clo102] at hc
  match cs, hc with
  | [c0, c1, c2, c3, c4], _ =>
    have hl' : xs.length = 3 := hl
    obtain ⟨y0, g0⟩ := get_some' hl' (i := 0) (by omega)
    have h0 : DataW.trod enc Tryz.prog w base spare held n 3 (List.take (Tryz.prog.cellsOf 3) (List.drop 0 ([c0, c1, c2, c3, c4] : List Value))) = xs[0]? := hf 0 _ rfl
    simp only [g0] at h0
    obtain ⟨y1, g1⟩ := get_some' hl' (i := 1) (by omega)
    have h1 : DataW.trod enc Tryz.prog w base spare held n 2 (List.take (Tryz.prog.cellsOf 2) (List.drop 1 ([c0, c1, c2, c3, c4] : List Value))) = xs[1]? := hf 1 _ rfl
    simp only [g1] at h1
    obtain ⟨y2, g2⟩ := get_some' hl' (i := 2) (by omega)
    have h2 : DataW.trod enc Tryz.prog w base spare held n 77 (List.take (Tryz.prog.cellsOf 77) (List.drop 2 ([c0, c1, c2, c3, c4] : List Value))) = xs[2]? := hf 2 _ rfl
    simp only [g2] at h2
    rw [clo3] at h0
    rw [clo2] at h1
    rw [clo77] at h2
    obtain ⟨x0, e0, _⟩ := DataW.trod_int Tryz.underlying3 h0
    obtain ⟨x1, e1, _⟩ := DataW.trod_int Tryz.underlying2 h1
    obtain ⟨o0, o1, o2, f0, f1, f2⟩ := row_vec h2
    simp at e0 e1
    subst e0 e1 f0 f1 f2
    exact ⟨⟨x0, x1, o0, o1, o2⟩, rfl⟩
set_option maxRecDepth 100000 in
/-- A robot that is read. -/
theorem open_robot {H : Type} {enc : TypeId × Value → H} {w : World} {base b0 : Nat} {spare : Nat → Bool} {held : Bool} {r : Go.Reach} {v : Value} {d : DataW H} {p : List MemPlace} (hv : Value.okWide Tryz.prog w r b0 25 v) (h : DataW.Trod enc Tryz.prog w base spare held 25 v d p) :
    ∃ (oj om : Option Addr) (cj cm : Nat) (js : List JV) (ms : List MV), v = .agg #[.slice oj js.length cj, .slice om ms.length cm] ∧ ms.length ≤ 9223372036854775807 ∧ Sl w oj 12 (js.map JV.vals) ∧ Sl w om 5 (ms.map MV.vals) := by
  obtain ⟨v0, v1, y0, y1, n, rfl, -, -, h0, h1⟩ := Go.Joins.open_agg2 Tryz.underlying25 (by kernel_rfl) clo25 hv h
  obtain ⟨oj, cj, js, rfl, hl, hs, _⟩ := open_rows JV.vals Tryz.underlying22 clo79 (by omega) row_joint h0
  obtain ⟨om, cm, ms, rfl, hl2, hs2, _⟩ := open_rows MV.vals Tryz.underlying23 clo102 (by omega) row_mass h1
  exact ⟨oj, om, cj, cm, js, ms, rfl, hl2, hs, hs2⟩
theorem read25 : Tryz.prog.readableRec 25 = true ∧ 25 < Tryz.prog.types.size := ⟨by kernel_rfl, of_decide_eq_true (by kernel_rfl)⟩
theorem read28 : Tryz.prog.readableRec 28 = true ∧ 28 < Tryz.prog.types.size := ⟨by kernel_rfl, of_decide_eq_true (by kernel_rfl)⟩
theorem read2 : Tryz.prog.readableRec 2 = true ∧ 2 < Tryz.prog.types.size := ⟨by kernel_rfl, of_decide_eq_true (by kernel_rfl)⟩
/-- A whole number, as it is read. -/
theorem open_i64 {H : Type} {enc : TypeId × Value → H} {w : World} {base : Nat} {spare : Nat → Bool} {held : Bool} {fuel : Nat} {n : Int} {x : DataW H × List MemPlace} (h : DataW.trod enc Tryz.prog w base spare held fuel 3 [.int .i64 n] = some x) : -9223372036854775808 ≤ n ∧ n ≤ 9223372036854775807 := by
  obtain ⟨k, e, _, hw⟩ := DataW.trod_int Tryz.underlying3 h
  simp at e
  subst e
  exact bounds_i64 hw
end Go.Proofs.Ng
end

