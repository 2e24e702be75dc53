/-
  DynamicsRates: the law's walk.
-/
import Derived.Test.YthbfmjlcnfgnbaaGreatJw
import Derived.Test.YthbfmjlcnfgnbaaGreatAwB
import Derived.Deep.RegionHeld3
namespace Go.Proofs.En
open Go.RowKit

theorem robP_bd {js : List JV} {ms : List MV} {oa om : Option Addr} {W : World} (h : RobP js ms oa om W) : ∀ (k : Nat) (j : JV), js[k]? = some j → -1000000000 ≤ j.lo ∧ j.lo ≤ j.hi ∧ j.hi ≤ 1000000000 := by
  intro k j hk
  have := (h.2.2.1 k j hk).lim
  have := limitF_bd j.kind
  omega

theorem keepL {V W W' : World} {n6 n13 : Nat} {a b c d : Value} (l6 : n6 < V.heap.size) (l13 : n13 < V.heap.size) (h : W.cell? ⟨n6, 0, none⟩ = some a ∧ W.cell? ⟨n6, 1, none⟩ = some b ∧ W.cell? ⟨n13, 0, none⟩ = some c ∧ W.cell? ⟨n13, 1, none⟩ = some d ∧ Below V.heap.size V W) (hb : Below W.heap.size W W') :
    W'.cell? ⟨n6, 0, none⟩ = some a ∧ W'.cell? ⟨n6, 1, none⟩ = some b ∧ W'.cell? ⟨n13, 0, none⟩ = some c ∧ W'.cell? ⟨n13, 1, none⟩ = some d ∧ Below V.heap.size V W' := by
  have h6 := Nat.lt_of_lt_of_le l6 h.2.2.2.2.size
  have h13 := Nat.lt_of_lt_of_le l13 h.2.2.2.2.size
  exact ⟨(hb.cell (p := ⟨n6, 0, none⟩) h6).trans h.1, (hb.cell (p := ⟨n6, 1, none⟩) h6).trans h.2.1, (hb.cell (p := ⟨n13, 0, none⟩) h13).trans h.2.2.1, (hb.cell (p := ⟨n13, 1, none⟩) h13).trans h.2.2.2.1, below_call h.2.2.2.2 hb⟩

set_option maxRecDepth 100000 in
set_option maxHeartbeats 4000000 in
theorem ratesLaw_any (oa om op oq ol oc od : Option Addr) (cj cm cp cq cl cc cd : Nat) (js : List JV) (ms : List MV) (ps qs ls us bs : List Int) (w : World) (hj : js.length ≤ 9223372036854775807) (hl : ms.length ≤ 9223372036854775807) (hp : ps.length ≤ 9223372036854775807) (hq : qs.length ≤ 9223372036854775807) (hll : ls.length ≤ 9223372036854775807) (hla : us.length ≤ 9223372036854775807) (hlb : bs.length ≤ 9223372036854775807)
    (hJ : Sl w oa 12 (js.map JV.vals)) (hM : Sl w om 5 (ms.map MV.vals)) (hP : Sl w op 1 (pvals ps)) (hQ : Sl w oq 1 (pvals qs)) (hL : Sl w ol 1 (pvals ls)) (hA : Sl w oc 1 (pvals us)) (hB : Sl w od 1 (pvals bs)) :
    Calls Tryz.prog 9 #[.agg #[.slice oa js.length cj, .slice om ms.length cm], .slice op ps.length cp, .slice oq qs.length cq, .slice ol ls.length cl, .slice oc us.length cc, .slice od bs.length cd] w (TrueP w) := by
  go_enter Tryz.func9, Tryz.ntmps9
  by_cases h12 : 12 < js.length
  · have d1 : decide ((12 : Int) < (js.length : Int)) = true := decide_eq_true (by omega)
    have d1' : decide (12 < js.length) = true := decide_eq_true (by omega)
    go_wp2_with fail
    refine (Tryz.awake _).mono ?_
    rintro e W1 ⟨rfl, hb1⟩
    have HB := Lib.hid (below_call ((Below.refl w.heap.size w).alloc (Nat.le_refl _) _) hb1)
    go_wp2
    go_ret
    exact ⟨rfl, HB.out⟩
  · have d1 : decide ((12 : Int) < (js.length : Int)) = false := decide_eq_false (by omega)
    have d1' : decide (12 < js.length) = false := decide_eq_false (by omega)
    by_cases h20 : 20 < ps.length
    · have d2 : decide ((20 : Int) < (ps.length : Int)) = true := decide_eq_true (by omega)
      have d2' : decide (20 < ps.length) = true := decide_eq_true (by omega)
      go_wp2_with fail
      refine (Tryz.awake _).mono ?_
      rintro e W1 ⟨rfl, hb1⟩
      have HB := Lib.hid (below_call ((Below.refl w.heap.size w).alloc (Nat.le_refl _) _) hb1)
      go_wp2
      go_ret
      exact ⟨rfl, HB.out⟩
    · have d2 : decide ((20 : Int) < (ps.length : Int)) = false := decide_eq_false (by omega)
      have d2' : decide (20 < ps.length) = false := decide_eq_false (by omega)
      by_cases h21 : 20 < qs.length
      · have d3 : decide ((20 : Int) < (qs.length : Int)) = true := decide_eq_true (by omega)
        have d3' : decide (20 < qs.length) = true := decide_eq_true (by omega)
        go_wp2_with fail
        refine (Tryz.awake _).mono ?_
        rintro e W1 ⟨rfl, hb1⟩
        have HB := Lib.hid (below_call ((Below.refl w.heap.size w).alloc (Nat.le_refl _) _) hb1)
        go_wp2
        go_ret
        exact ⟨rfl, HB.out⟩
      · have d3 : decide ((20 : Int) < (qs.length : Int)) = false := decide_eq_false (by omega)
        have d3' : decide (20 < qs.length) = false := decide_eq_false (by omega)
        go_wp2_with fail
        have hB0 : Below w.heap.size w (w.alloc (.cells #[.slice oa js.length cj, .slice om ms.length cm] 35)) := (Below.refl _ _).alloc (Nat.le_refl _) _
        have r6 := Row.new w [.slice oa js.length cj, .slice om ms.length cm] 35
        have HB0 := Lib.hid hB0
        have hL0 := hL.keep hB0
        clear hB0
        generalize (w.alloc (.cells #[.slice oa js.length cj, .slice om ms.length cm] 35)) = W0 at HB0 r6 hL0 ⊢
        generalize w.heap.size = n6 at r6 ⊢
        refine (mkRobot_any W0 ol cl ls hL0 hll).mono ?_
        rintro e W1 ⟨jr, mr, ra, rc, rm, rd, rfl, hR, hb1⟩
        replace r6 := r6.keep hb1
        replace HB0 : Hid (Below w.heap.size w W1) := Lib.hid (below_call HB0.out hb1)
        clear hb1 hL0
        go_wp2_with fail
        have hbA : Below W1.heap.size W1 (W1.alloc (.cells #[.slice ra jr.length rc, .slice rm mr.length rd] 35)) := (Below.refl _ _).alloc (Nat.le_refl _) _
        have r13 := Row.new W1 [.slice ra jr.length rc, .slice rm mr.length rd] 35
        replace r6 := r6.keep hbA
        have HV := Lib.hid (below_call HB0.out hbA)
        have HRJ := Lib.hid (hR.2.2.2.2.1.keep hbA)
        have HRM := Lib.hid (hR.2.2.2.2.2.keep hbA)
        have HBD := Lib.hid (robP_bd hR)
        have HL1 := Lib.hid hR.1
        have HL2 := Lib.hid hR.2.1
        have HJ := Lib.hid (hJ.keep HV.out)
        have HM := Lib.hid (hM.keep HV.out)
        have HP := Lib.hid (hP.keep HV.out)
        have HQ := Lib.hid (hQ.keep HV.out)
        have HA := Lib.hid (hA.keep HV.out)
        have HBB := Lib.hid (hB.keep HV.out)
        clear hbA hR HB0 hJ hM hP hQ hA hB hL
        generalize (W1.alloc (.cells #[.slice ra jr.length rc, .slice rm mr.length rd] 35)) = V at r6 r13 HV HRJ HRM HJ HM HP HQ HA HBB ⊢
        generalize W1.heap.size = n13 at r13 ⊢
        have s0 : V.cell? ⟨n6, 0, none⟩ = some (.slice oa js.length cj) := r6.c 0 _ rfl
        have s1 : V.cell? ⟨n6, 1, none⟩ = some (.slice om ms.length cm) := r6.c 1 _ rfl
        have s2 : V.cell? ⟨n13, 0, none⟩ = some (.slice ra jr.length rc) := r13.c 0 _ rfl
        have s3 : V.cell? ⟨n13, 1, none⟩ = some (.slice rm mr.length rd) := r13.c 1 _ rfl
        have l6 := r6.lt
        have l13 := r13.lt
        clear r6 r13
        have e12 : js.length ≤ 100 := by omega
        have e20 : ps.length ≤ 100 := by omega
        have e21 : qs.length ≤ 100 := by omega
        have jl : jr.length ≤ 100 := by have := HL1.out; omega
        have ml : mr.length ≤ 9223372036854775807 := by have := HL2.out; omega
        clear d1 d1' d2 d2' d3 d3' h12 h20 h21
        go_region_held3 (fun W => W.cell? ⟨n6, 0, none⟩ = some (.slice oa js.length cj) ∧ W.cell? ⟨n6, 1, none⟩ = some (.slice om ms.length cm) ∧ W.cell? ⟨n13, 0, none⟩ = some (.slice ra jr.length rc) ∧ W.cell? ⟨n13, 1, none⟩ = some (.slice rm mr.length rd) ∧ Below V.heap.size V W)
          (first | exact keepL l6 l13 ⟨s0, s1, s2, s3, Below.refl _ _⟩ (Below.refl _ _).drew | exact keepL l6 l13 (by assumption) (by assumption))
          (first
            | (have hxx := HB6; clear hxx; go_at_call 25; refine (rates25 _ _ _ _ _ _ _ _ jr mr ps ks3 _ jl ml e20 hk3 (HRJ.out.keep HB6.out) (HRM.out.keep HB6.out) (HP.out.keep HB6.out) HK3.out).mono ?_; rintro e X7 ⟨rfl, hb7⟩; have HB7 := Lib.hid (below_call HB6.out hb7))
            | (have hxx := HB5; clear hxx; go_at_call 18; refine (config_any _ _ _ _ _ _ jr mr.length bs _ jl HBD.out (HRJ.out.keep HB5.out) (HBB.out.keep HB5.out) hlb).mono ?_; rintro e X6 ⟨ks3, ok3, kc3, rfl, kl3, _, kS3, hb6⟩; have HB6 := Lib.hid (below_call HB5.out hb6); have HK3 := Lib.hid kS3; have hk3 : ks3.length ≤ 100 := Nat.le_trans (Nat.le_of_eq kl3) jl; clear kl3 kS3)
            | (have hxx := HB4; clear hxx; go_at_call 25; refine (rates25 _ _ _ _ _ _ _ _ jr mr ks1 ks2 _ jl ml hk1 hk2 (HRJ.out.keep HB4.out) (HRM.out.keep HB4.out) HK1'.out HK2.out).mono ?_; rintro e X5 ⟨rfl, hb5⟩; have HB5 := Lib.hid (below_call HB4.out hb5))
            | (have hxx := HB3; clear hxx; go_at_call 18; refine (config_any _ _ _ _ _ _ jr mr.length bs _ jl HBD.out (HRJ.out.keep HB3.out) (HBB.out.keep HB3.out) hlb).mono ?_; rintro e X4 ⟨ks2, ok2, kc2, rfl, kl2, _, kS2, hb4⟩; have HB4 := Lib.hid (below_call HB3.out hb4); have HK2 := Lib.hid kS2; have HK1' := Lib.hid (HK1.out.keep hb4); have hk2 : ks2.length ≤ 100 := Nat.le_trans (Nat.le_of_eq kl2) jl; clear kl2 kS2)
            | (have hxx := HB2; clear hxx; go_at_call 18; refine (config_any _ _ _ _ _ _ jr mr.length us _ jl HBD.out (HRJ.out.keep HB2.out) (HA.out.keep HB2.out) hla).mono ?_; rintro e X3 ⟨ks1, ok1, kc1, rfl, kl1, _, kS1, hb3⟩; have HB3 := Lib.hid (below_call HB2.out hb3); have HK1 := Lib.hid kS1; have hk1 : ks1.length ≤ 100 := Nat.le_trans (Nat.le_of_eq kl1) jl; clear kl1 kS1)
            | (have hxx := HB1; clear hxx; go_at_call 25; refine (rates25 _ _ _ _ _ _ _ _ js ms ps qs _ e12 hl e20 e21 (HJ.out.keep HB1.out) (HM.out.keep HB1.out) (HP.out.keep HB1.out) (HQ.out.keep HB1.out)).mono ?_; rintro e X2 ⟨rfl, hb2⟩; have HB2 := Lib.hid (below_call HB1.out hb2))
            | (go_at_call 16; refine (Tryz.awake _).mono ?_; rintro e X1 ⟨rfl, hb1⟩; have HB1 := Lib.hid (below_call (Below.refl _ _).drew hb1)))
        go_wp2
        go_ret
        exact ⟨rfl, below_call HV.out HB7.out⟩
end Go.Proofs.En
