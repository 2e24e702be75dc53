/-
  Texts put together: Ha Hb Hc Hd He.
-/
import Derived.Test.YteeeogdfnpdpcaaGreatZNeighborFinds25
import Derived.BigRegion
set_option linter.unusedVariables false
section
/-
  Walks: Nearest and Within where nothing fits.
-/
namespace Go.Proofs.Ng
open Go.RowKit

/-- Nothing is answered. -/
def NoP (w : World) (e : Ending) (W : World) : Prop := e = .returned (.slice none 0 0) ∧ Below w.heap.size w W
set_option maxRecDepth 100000 in
set_option maxHeartbeats 2000000 in
theorem within_no (oj om op ot oq : Option Addr) (cj cm cp ct cq : Nat) (js : List JV) (ms : List MV) (pts : List (List Int)) (t : List Nd) (q : List Int) (most : Int) (w : World)
    (hj : js.length ≤ 100) (hl : ms.length ≤ 9223372036854775807) (hJ : Sl w oj 12 (js.map JV.vals)) (hM : Sl w om 5 (ms.map MV.vals)) (hP : Pts w op pts) (hT : Sl w ot 4 (t.map Nd.vals)) (hQ : Sl w oq 1 (pvals q)) (htl : t.length ≤ 100000) (hpl : pts.length ≤ 100000) (hql : q.length ≤ 100000)
    (hF : ¬ FitsP js ms pts t q) :
    Calls Tryz.prog 13 #[.agg #[.slice oj js.length cj, .slice om ms.length cm], .slice op pts.length cp, .slice ot t.length ct, .slice oq q.length cq, .int .i64 most] w (NoP w) := by
  have hmf : ∀ (fn : Fn) (first cap : Array Value) (w : World), (Instr.makeFunc fn first cap).run Tryz.prog w = .ok (.func fn first cap) w := fun _ _ _ _ => rfl
  have hFt := fun (X : World) (hX : Below w.heap.size w X) => fits38 oj om op ot oq cj cm cp ct cq js ms pts t q X hj hl (hJ.keep hX) (hM.keep hX) (hP.keep hX) (hT.keep hX) (hQ.keep hX) htl hpl hql
  have HF := Lib.hid hF
  have HFT := Lib.hid hFt
  clear hF hFt hJ hM hP hT hQ hl
  go_enter_defers Tryz.func13, Tryz.ntmps13
  go_upto_region 2 with fail
  have hbx_ := blks3 w [.slice oj js.length cj, .slice om ms.length cm] [.int .i64 most] [.slice none 0 0] 25 2 29
  have HB := Lib.hid (hbx_.2.2.2)
  have hod : w.heap.size ≤ w.heap.size ∧ w.heap.size < w.heap.size + 1 ∧ w.heap.size + 1 < w.heap.size + 1 + 1 := by omega
  generalize ((w.alloc (.cells #[.slice oj js.length cj, .slice om ms.length cm] 25)).alloc (.cells #[.int .i64 most] 2)).alloc (.cells #[.slice none 0 0] 29) = W1 at hbx_ HB ⊢
  obtain ⟨r5, r9, r10, hbel_⟩ := hbx_
  generalize w.heap.size + 1 + 1 = b10 at r10 hod ⊢
  generalize w.heap.size + 1 = b9 at r9 hod ⊢
  obtain ⟨b5, hn_⟩ : ∃ n, n = w.heap.size := ⟨_, rfl⟩
  rw [← hn_] at r5 ⊢
  replace hod := And.intro (Nat.le_of_eq hn_.symm) (hn_ ▸ hod.2)
  clear hn_ hbel_
  have HO1 : Hid (w.heap.size ≤ b10) := Lib.hid (by omega)
  clear hod
  have a0 : W1.cell? ⟨b5, 0, none⟩ = some (.slice oj js.length cj) := r5.c 0 _ rfl
  have a1 : W1.cell? ⟨b5, 1, none⟩ = some (.slice om ms.length cm) := r5.c 1 _ rfl
  have l5 := r5.lt
  have H34 := Lib.hid (HFT.out W1 HB.out)
  have HR10 := Lib.hid r10
  clear r5 r9 r10
  go_wp2_with fail
  with_reducible refine H34.out.mono ?_
  rintro e W2 ⟨bv, rfl, hbv, hb2⟩
  obtain rfl : bv = false := by
    cases bv
    · rfl
    · exact absurd (hbv.1 rfl) HF.out
  have HB2 := Lib.hid (below_call HB.out hb2)
  have HR102 := Lib.hid (HR10.out.keep hb2)
  clear hbv hb2 HR10 HB HFT H34
  have x10 : W2.cell? ⟨b10, 0, none⟩ = some (.slice none 0 0) := HR102.out.c 0 _ rfl
  have f10 := HR102.out.f 0
  have l10 := HR102.out.lt
  have hla : (W2.setCell ⟨b10, 0, none⟩ (.slice none 0 0)).cell? ⟨b10, 0, none⟩ = some (.slice none 0 0) := World.cell?_setCell_same W2 ⟨b10, 0, none⟩ _ x10
  have HBN := Lib.hid (HB2.out.setCell (p := ⟨b10, 0, none⟩) HO1.out (.slice none 0 0))
  go_wp2_with fail
  refine leaves_cons (f := 33) (args := #[.pointer (some ⟨b10, 0, none⟩)]) (by simp) (by simp [go_sem]) ?_
  refine (catch33 _ _).mono ?_
  rintro e u' w'' ⟨rfl, rfl, rfl⟩
  simp [Leaves, settle, results, Tryz.results13, go_sem, hla]
  exact ⟨rfl, HBN.out⟩
set_option maxRecDepth 100000 in
set_option maxHeartbeats 2000000 in
theorem nearest_no (oj om op ot oq : Option Addr) (cj cm cp ct cq : Nat) (js : List JV) (ms : List MV) (pts : List (List Int)) (t : List Nd) (q : List Int) (k : Int) (w : World)
    (hj : js.length ≤ 100) (hl : ms.length ≤ 9223372036854775807) (hJ : Sl w oj 12 (js.map JV.vals)) (hM : Sl w om 5 (ms.map MV.vals)) (hP : Pts w op pts) (hT : Sl w ot 4 (t.map Nd.vals)) (hQ : Sl w oq 1 (pvals q)) (htl : t.length ≤ 100000) (hpl : pts.length ≤ 100000) (hql : q.length ≤ 100000)
    (hF : k < 1 ∨ ¬ FitsP js ms pts t q) :
    Calls Tryz.prog 14 #[.agg #[.slice oj js.length cj, .slice om ms.length cm], .slice op pts.length cp, .slice ot t.length ct, .slice oq q.length cq, .int .i64 k] w (NoP w) := by
  have hmf : ∀ (fn : Fn) (first cap : Array Value) (w : World), (Instr.makeFunc fn first cap).run Tryz.prog w = .ok (.func fn first cap) w := fun _ _ _ _ => rfl
  have hFt := fun (X : World) (hX : Below w.heap.size w X) => fits38 oj om op ot oq cj cm cp ct cq js ms pts t q X hj hl (hJ.keep hX) (hM.keep hX) (hP.keep hX) (hT.keep hX) (hQ.keep hX) htl hpl hql
  have HF := Lib.hid hF
  have HFT := Lib.hid hFt
  clear hF hFt hJ hM hP hT hQ hl
  go_enter_defers Tryz.func14, Tryz.ntmps14
  go_upto_region 2 with fail
  have hbx_ := blks3 w [.slice oj js.length cj, .slice om ms.length cm] [.int .i64 k] [.slice none 0 0] 25 3 29
  have HB := Lib.hid (hbx_.2.2.2)
  have hod : w.heap.size ≤ w.heap.size ∧ w.heap.size < w.heap.size + 1 ∧ w.heap.size + 1 < w.heap.size + 1 + 1 := by omega
  generalize ((w.alloc (.cells #[.slice oj js.length cj, .slice om ms.length cm] 25)).alloc (.cells #[.int .i64 k] 3)).alloc (.cells #[.slice none 0 0] 29) = W1 at hbx_ HB ⊢
  obtain ⟨r5, r9, r10, hbel_⟩ := hbx_
  generalize w.heap.size + 1 + 1 = b10 at r10 hod ⊢
  generalize w.heap.size + 1 = b9 at r9 hod ⊢
  obtain ⟨b5, hn_⟩ : ∃ n, n = w.heap.size := ⟨_, rfl⟩
  rw [← hn_] at r5 ⊢
  replace hod := And.intro (Nat.le_of_eq hn_.symm) (hn_ ▸ hod.2)
  clear hn_ hbel_
  have HO1 : Hid (w.heap.size ≤ b10) := Lib.hid (by omega)
  clear hod
  have a0 : W1.cell? ⟨b5, 0, none⟩ = some (.slice oj js.length cj) := r5.c 0 _ rfl
  have a1 : W1.cell? ⟨b5, 1, none⟩ = some (.slice om ms.length cm) := r5.c 1 _ rfl
  have c0 : W1.cell? ⟨b9, 0, none⟩ = some (.int .i64 k) := r9.c 0 _ rfl
  have l5 := r5.lt
  have l9 := r9.lt
  have H34 := Lib.hid (HFT.out W1 HB.out)
  have HR10 := Lib.hid r10
  clear r5 r9 r10
  by_cases hk : k < 1
  · have hkd : decide (k < 1) = true := decide_eq_true hk
    clear hk
    have x10 : W1.cell? ⟨b10, 0, none⟩ = some (.slice none 0 0) := HR10.out.c 0 _ rfl
    have f10 := HR10.out.f 0
    have l10 := HR10.out.lt
    have hla : (W1.setCell ⟨b10, 0, none⟩ (.slice none 0 0)).cell? ⟨b10, 0, none⟩ = some (.slice none 0 0) := World.cell?_setCell_same W1 ⟨b10, 0, none⟩ _ x10
    have HBN := Lib.hid (HB.out.setCell (p := ⟨b10, 0, none⟩) HO1.out (.slice none 0 0))
    go_wp2_with fail
    refine leaves_cons (f := 39) (args := #[.pointer (some ⟨b10, 0, none⟩)]) (by simp) (by simp [go_sem]) ?_
    refine (catch37 _ _).mono ?_
    rintro e u' w'' ⟨rfl, rfl, rfl⟩
    simp [Leaves, settle, results, Tryz.results14, go_sem, hla]
    exact ⟨rfl, HBN.out⟩
  · have hkd : decide (k < 1) = false := decide_eq_false hk
    have HNF : Hid (¬ FitsP js ms pts t q) := Lib.hid (by
      rcases HF.out with h | h
      · exact absurd h hk
      · exact h)
    clear hk
    go_wp2_with fail
    with_reducible refine H34.out.mono ?_
    rintro e W2 ⟨bv, rfl, hbv, hb2⟩
    obtain rfl : bv = false := by
      cases bv
      · rfl
      · exact absurd (hbv.1 rfl) HNF.out
    have HB2 := Lib.hid (below_call HB.out hb2)
    have HR102 := Lib.hid (HR10.out.keep hb2)
    clear hbv hb2 HR10 HB HFT H34
    have x10 : W2.cell? ⟨b10, 0, none⟩ = some (.slice none 0 0) := HR102.out.c 0 _ rfl
    have f10 := HR102.out.f 0
    have l10 := HR102.out.lt
    have hla : (W2.setCell ⟨b10, 0, none⟩ (.slice none 0 0)).cell? ⟨b10, 0, none⟩ = some (.slice none 0 0) := World.cell?_setCell_same W2 ⟨b10, 0, none⟩ _ x10
    have HBN := Lib.hid (HB2.out.setCell (p := ⟨b10, 0, none⟩) HO1.out (.slice none 0 0))
    go_wp2_with fail
    refine leaves_cons (f := 39) (args := #[.pointer (some ⟨b10, 0, none⟩)]) (by simp) (by simp [go_sem]) ?_
    refine (catch37 _ _).mono ?_
    rintro e u' w'' ⟨rfl, rfl, rfl⟩
    simp [Leaves, settle, results, Tryz.results14, go_sem, hla]
    exact ⟨rfl, HBN.out⟩
end Go.Proofs.Ng
end

section
/-
  Walks: what the reference asks.
-/
namespace Go.Proofs.Ng
open Go.RowKit

theorem one_pt {W : World} {b : Nat} {oq : Option Addr} {cq : Nat} {q : List Int} (h : Blk W b [.slice oq q.length cq]) (hq : Sl W oq 1 (pvals q)) : Pts W (some ⟨b, 0, none⟩) [q] := by
  refine ⟨[.slice oq q.length cq], rfl, fun _ => ⟨b, 0, rfl, h.lt, fun i r hi k u hu => ?_⟩, fun k v xs hv hx => ?_⟩
  · match i, hi with
    | 0, hi =>
      simp at hi
      subst hi
      match k, hu with
      | 0, hu =>
        simp at hu
        subst hu
        have := h.c 0 _ rfl
        simpa using this
      | k + 1, hu => simp at hu
    | i + 1, hi => simp at hi
  · match k, hv, hx with
    | 0, hv, hx =>
      simp at hv hx
      subst hv hx
      exact ⟨oq, cq, rfl, hq⟩
    | k + 1, hv, _ => simp at hv
theorem vpB_one {q : List Int} (h1 : 1 ≤ q.length) (h2 : q.length ≤ 10) : vpB [q] = smallB q := by
  unfold vpB okC dimP
  simp [h1, h2]
set_option maxRecDepth 100000 in
set_option maxHeartbeats 2000000 in
theorem askable59 (oj om op ot oq : Option Addr) (cj cm cp ct cq : Nat) (js : List JV) (ms : List MV) (pts : List (List Int)) (t : List Nd) (q : List Int) (w : World)
    (hj : js.length ≤ 100) (hl : ms.length ≤ 9223372036854775807) (hJ : Sl w oj 12 (js.map JV.vals)) (hM : Sl w om 5 (ms.map MV.vals)) (hP : Pts w op pts) (hT : Sl w ot 4 (t.map Nd.vals)) (hQ : Sl w oq 1 (pvals q)) (htl : t.length ≤ 100000) (hpl : pts.length ≤ 100000) (hql : q.length ≤ 100000) :
    Calls Tryz.prog 59 #[.agg #[.slice oj js.length cj, .slice om ms.length cm], .slice op pts.length cp, .slice ot t.length ct, .slice oq q.length cq] w (VerP (FitsP js ms pts t q) w) := by
  have HC := Lib.hid (fun (X : World) (hX : Below w.heap.size w X) => check_ref oj om cj cm js ms X hj hl (hJ.keep hX) (hM.keep hX))
  have HV := Lib.hid (fun (X : World) (hX : Below w.heap.size w X) => validTree14 op ot cp ct pts t X (hP.keep hX) (hT.keep hX) htl hpl)
  have HP := Lib.hid hP
  have HQ := Lib.hid hQ
  clear hJ hM hP hT hQ hl
  go_enter Tryz.func59, Tryz.ntmps59
  go_upto_region 1 with fail
  have hbx_ := blks1 w [.slice oj js.length cj, .slice om ms.length cm] 25
  have HB := Lib.hid (hbx_.2)
  generalize w.alloc (.cells #[.slice oj js.length cj, .slice om ms.length cm] 25) = W1 at hbx_ HB ⊢
  obtain ⟨r4, hbel_⟩ := hbx_
  obtain ⟨b4, hn_⟩ : ∃ n, n = w.heap.size := ⟨_, rfl⟩
  rw [← hn_] at r4 ⊢
  clear hn_ hbel_
  have HV1 := Lib.hid (HV.out W1 HB.out)
  have HR4 := Lib.hid r4
  clear r4 HV
  go_wp2_with fail
  with_reducible refine HV1.out.mono ?_
  rintro e W2 ⟨bv, rfl, hbv, hb2⟩
  have HB2 := Lib.hid (below_call HB.out hb2)
  have r42 := HR4.out.keep hb2
  have a0 : W2.cell? ⟨b4, 0, none⟩ = some (.slice oj js.length cj) := r42.c 0 _ rfl
  have a1 : W2.cell? ⟨b4, 1, none⟩ = some (.slice om ms.length cm) := r42.c 1 _ rfl
  have l4 := r42.lt
  have HR42 := Lib.hid r42
  cases bv with
  | false =>
    have HNO : Hid (¬ FitsP js ms pts t q) := Lib.hid (fun h => by have := hbv.2 h.2.2.2.1; cases this)
    clear hbv hb2 r42
    go_wp2_with fail
    go_ret
    exact verP_no HNO.out HB2.out
  | true =>
    have HKD := Lib.hid (hbv.1 rfl)
    have HC2 := Lib.hid (HC.out W2 HB2.out)
    clear hbv hb2 r42 HC
    go_wp2_with fail
    with_reducible refine HC2.out.mono ?_
    rintro e W3 ⟨c, rfl, hc, hb3⟩
    have HB3 := Lib.hid (below_call HB2.out hb3)
    have r43 := HR42.out.keep hb3
    clear a0 a1 l4
    have a0 : W3.cell? ⟨b4, 0, none⟩ = some (.slice oj js.length cj) := r43.c 0 _ rfl
    have a1 : W3.cell? ⟨b4, 1, none⟩ = some (.slice om ms.length cm) := r43.c 1 _ rfl
    have l4 := r43.lt
    by_cases hc0 : c = 0
    · have HOK := Lib.hid (hc.1 hc0)
      have hcd : (c != 0) = false := by simp [hc0]
      clear hc hb3 r43
      by_cases hql2 : q.length = js.length
      · have hq1 : ((q.length : Int) != (js.length : Int)) = false := by simp; omega
        have HQL := Lib.hid hql2
        by_cases hp0 : pts.length = 0
        · have hp1 : decide ((0 : Int) < (pts.length : Int)) = false := decide_eq_false (by omega)
          have hp2 : decide (0 < pts.length) = false := decide_eq_false (by omega)
          have HDI : Hid (pts = [] ∨ dimP pts = js.length) := Lib.hid (.inl (List.length_eq_zero_iff.1 hp0))
          clear hc0 hql2 hp0
          go_upto_region 3 with fail
          have hbq : Below W3.heap.size W3 (W3.alloc (.cells #[.slice oq q.length cq] 28)) := (Below.refl _ _).alloc (Nat.le_refl _) _
          have hpq : Pts (W3.alloc (.cells #[.slice oq q.length cq] 28)) (some ⟨W3.heap.size, 0, none⟩) [q] := one_pt (Blk.new W3 [.slice oq q.length cq] 28) ((HQ.out.keep HB3.out).keep hbq)
          have h30 := validPoints30 (some ⟨W3.heap.size, 0, none⟩) 1 [q] _ hpq
          rw [show ([q] : List (List Int)).length = 1 from rfl] at h30
          have H30 := Lib.hid h30
          have HBE := Lib.hid (below_call HB3.out hbq)
          clear h30 hbq hpq
          go_wp2_with fail
          with_reducible refine H30.out.mono ?_
          rintro e W9 ⟨rfl, nq, rfl⟩
          have HE : Hid (VerP (FitsP js ms pts t q) w (.returned (.bool (vpB [q]))) ((W3.alloc (.cells #[.slice oq q.length cq] 28)).drewN nq)) := Lib.hid (verP_at (by
            rw [vpB_one (by have h := HOK.out.1; have h2 := HQL.out; omega) (by have h := HOK.out.1; have h2 := HQL.out; omega)]
            exact ⟨fun h => ⟨HOK.out, HQL.out, h, HKD.out, HDI.out⟩, fun h => h.2.2.1⟩) (below_call HBE.out (below_drew _ nq)))
          go_wp2_with fail
          go_ret
          exact HE.out
        · have hp1 : decide ((0 : Int) < (pts.length : Int)) = true := decide_eq_true (by omega)
          have hp2 : decide (0 < pts.length) = true := decide_eq_true (by omega)
          obtain ⟨x0, hx0⟩ : ∃ x, pts[0]? = some x := ⟨_, List.getElem?_eq_getElem (by omega)⟩
          have hdx : dimP pts = x0.length := by unfold dimP; rw [hx0]; rfl
          obtain ⟨bp, offp, ox, cx, rfl, y0, lp, -⟩ := (HP.out.keep HB3.out).get hx0
          rw [Nat.add_zero] at y0
          have hpi : (0 : Int) < (pts.length : Int) := by omega
          by_cases hxq : x0.length = q.length
          · have hx1 : ((x0.length : Int) != (q.length : Int)) = false := by simp; omega
            have HDI : Hid (pts = [] ∨ dimP pts = js.length) := Lib.hid (.inr (by omega))
            clear hc0 hql2 hp0 hx0 hdx hxq
            go_upto_region 3 with fail
            clear y0 lp
            have hbq : Below W3.heap.size W3 (W3.alloc (.cells #[.slice oq q.length cq] 28)) := (Below.refl _ _).alloc (Nat.le_refl _) _
            have hpq : Pts (W3.alloc (.cells #[.slice oq q.length cq] 28)) (some ⟨W3.heap.size, 0, none⟩) [q] := one_pt (Blk.new W3 [.slice oq q.length cq] 28) ((HQ.out.keep HB3.out).keep hbq)
            have h30 := validPoints30 (some ⟨W3.heap.size, 0, none⟩) 1 [q] _ hpq
            rw [show ([q] : List (List Int)).length = 1 from rfl] at h30
            have H30 := Lib.hid h30
            have HBE := Lib.hid (below_call HB3.out hbq)
            clear h30 hbq hpq
            go_wp2_with fail
            with_reducible refine H30.out.mono ?_
            rintro e W9 ⟨rfl, nq, rfl⟩
            have HE : Hid (VerP (FitsP js ms pts t q) w (.returned (.bool (vpB [q]))) ((W3.alloc (.cells #[.slice oq q.length cq] 28)).drewN nq)) := Lib.hid (verP_at (by
              rw [vpB_one (by have h := HOK.out.1; have h2 := HQL.out; omega) (by have h := HOK.out.1; have h2 := HQL.out; omega)]
              exact ⟨fun h => ⟨HOK.out, HQL.out, h, HKD.out, HDI.out⟩, fun h => h.2.2.1⟩) (below_call HBE.out (below_drew _ nq)))
            go_wp2_with fail
            go_ret
            exact HE.out
          · have hx1 : ((x0.length : Int) != (q.length : Int)) = true := by simp; omega
            have HNO : Hid (¬ FitsP js ms pts t q) := Lib.hid (fun h => by
              rcases h.2.2.2.2 with e | e
              · exact hp0 (by rw [e]; rfl)
              · omega)
            clear hc0 hql2 hp0 hx0 hdx hxq
            go_wp2_with fail
            go_ret
            exact verP_no HNO.out HB3.out
      · have hq1 : ((q.length : Int) != (js.length : Int)) = true := by simp; omega
        have HNO : Hid (¬ FitsP js ms pts t q) := Lib.hid (fun h => hql2 h.2.1)
        clear hc0 hql2
        go_wp2_with fail
        go_ret
        exact verP_no HNO.out HB3.out
    · have HNO : Hid (¬ FitsP js ms pts t q) := Lib.hid (fun h => hc0 (hc.2 h.1))
      have hcd : (c != 0) = true := by simp [hc0]
      clear hc hb3 r43 hc0
      go_wp2_with fail
      go_ret
      exact verP_no HNO.out HB3.out
end Go.Proofs.Ng
end

section
/-
  Walks: the reference's Near.
-/
namespace Go.Proofs.Ng
open Go.RowKit

theorem inL_yes {n : Nat} {dP : Nat → Int} {most : Int} (h : dP n ≤ most) : inL (n + 1) dP most = inL n dP most ++ [n] := by
  unfold inL; rw [List.range_succ, List.filter_append]; simp [h]
theorem inL_no {n : Nat} {dP : Nat → Int} {most : Int} (h : ¬ dP n ≤ most) : inL (n + 1) dP most = inL n dP most := by
  unfold inL; rw [List.range_succ, List.filter_append]; simp [h]
theorem nvals_snoc (l : List Nat) (x : Nat) : (nvals (l ++ [x])).flatten = (nvals l).flatten ++ [.int .i64 (x : Nat)] := by simp [nvals]
set_option maxRecDepth 100000 in
set_option maxHeartbeats 2000000 in
theorem near_no (oj om op ot oq : Option Addr) (cj cm cp ct cq : Nat) (js : List JV) (ms : List MV) (pts : List (List Int)) (t : List Nd) (q : List Int) (most : Int) (w : World)
    (hj : js.length ≤ 100) (hl : ms.length ≤ 9223372036854775807) (hJ : Sl w oj 12 (js.map JV.vals)) (hM : Sl w om 5 (ms.map MV.vals)) (hP : Pts w op pts) (hT : Sl w ot 4 (t.map Nd.vals)) (hQ : Sl w oq 1 (pvals q)) (htl : t.length ≤ 100000) (hpl : pts.length ≤ 100000) (hql : q.length ≤ 100000)
    (hF : ¬ FitsP js ms pts t q) :
    Calls Tryz.prog 24 #[.agg #[.slice oj js.length cj, .slice om ms.length cm], .slice op pts.length cp, .slice ot t.length ct, .slice oq q.length cq, .int .i64 most] w (NoP w) := by
  have HA := Lib.hid (fun (X : World) (hX : Below w.heap.size w X) => askable59 oj om op ot oq cj cm cp ct cq js ms pts t q X hj hl (hJ.keep hX) (hM.keep hX) (hP.keep hX) (hT.keep hX) (hQ.keep hX) htl hpl hql)
  have HF := Lib.hid hF
  clear hF hJ hM hP hT hQ hl
  go_enter Tryz.func24, Tryz.ntmps24
  go_upto_region 1 with fail
  have hbx_ := blks1 w [.slice oj js.length cj, .slice om ms.length cm] 25
  have HB := Lib.hid (hbx_.2)
  generalize w.alloc (.cells #[.slice oj js.length cj, .slice om ms.length cm] 25) = W1 at hbx_ HB ⊢
  obtain ⟨r5, hbel_⟩ := hbx_
  obtain ⟨b5, hn_⟩ : ∃ n, n = w.heap.size := ⟨_, rfl⟩
  rw [← hn_] at r5 ⊢
  clear hn_ hbel_
  have a0 : W1.cell? ⟨b5, 0, none⟩ = some (.slice oj js.length cj) := r5.c 0 _ rfl
  have a1 : W1.cell? ⟨b5, 1, none⟩ = some (.slice om ms.length cm) := r5.c 1 _ rfl
  have l5 := r5.lt
  have HA1 := Lib.hid (HA.out W1 HB.out)
  have HR5 := Lib.hid r5
  clear r5 HA
  go_wp2_with fail
  with_reducible refine HA1.out.mono ?_
  rintro e W2 ⟨bv, rfl, hbv, hb2⟩
  obtain rfl : bv = false := by
    cases bv
    · rfl
    · exact absurd (hbv.1 rfl) HF.out
  have HB2 := Lib.hid (below_call HB.out hb2)
  clear hbv hb2
  go_wp2_with fail
  go_ret
  exact ⟨rfl, HB2.out⟩
set_option maxRecDepth 100000 in
set_option maxHeartbeats 2000000 in
theorem near24 (oj om op ot oq : Option Addr) (cj cm cp ct cq : Nat) (js : List JV) (ms : List MV) (pts : List (List Int)) (t : List Nd) (q : List Int) (most : Int) (w : World)
    (hj : js.length ≤ 100) (hl : ms.length ≤ 9223372036854775807) (hJ : Sl w oj 12 (js.map JV.vals)) (hM : Sl w om 5 (ms.map MV.vals)) (hP : Pts w op pts) (hT : Sl w ot 4 (t.map Nd.vals)) (hQ : Sl w oq 1 (pvals q)) (htl : t.length ≤ 100000) (hpl : pts.length ≤ 100000) (hql : q.length ≤ 100000)
    (hF : FitsP js ms pts t q) :
    Calls Tryz.prog 24 #[.agg #[.slice oj js.length cj, .slice om ms.length cm], .slice op pts.length cp, .slice ot t.length ct, .slice oq q.length cq, .int .i64 most] w (WithP pts.length (dP js q pts) most w) := by
  have HA := Lib.hid (fun (X : World) (hX : Below w.heap.size w X) => askable59 oj om op ot oq cj cm cp ct cq js ms pts t q X hj hl (hJ.keep hX) (hM.keep hX) (hP.keep hX) (hT.keep hX) (hQ.keep hX) htl hpl hql)
  have HDW := Lib.hid (fun (X : World) (hX : Below w.heap.size w X) (ox : Option Addr) (cx : Nat) (x : List Int) (p : Nat) (hx : pts[p]? = some x) (hs : Sl X ox 1 (pvals x)) => dist_pt (X := X) (oj := oj) (om := om) (ox := ox) (oq := oq) (cj := cj) (cm := cm) (cx := cx) (cq := cq) hF hl (hJ.keep hX) (hM.keep hX) hx hs (hQ.keep hX))
  have HP := Lib.hid hP
  have HF := Lib.hid hF
  clear hF hJ hM hP hT hQ hl
  go_enter Tryz.func24, Tryz.ntmps24
  go_upto_region 1 with fail
  have hbx_ := blks1 w [.slice oj js.length cj, .slice om ms.length cm] 25
  have HB := Lib.hid (hbx_.2)
  generalize w.alloc (.cells #[.slice oj js.length cj, .slice om ms.length cm] 25) = W1 at hbx_ HB ⊢
  obtain ⟨r5, hbel_⟩ := hbx_
  obtain ⟨b5, hn_⟩ : ∃ n, n = w.heap.size := ⟨_, rfl⟩
  rw [← hn_] at r5 ⊢
  clear hn_ hbel_
  have a0 : W1.cell? ⟨b5, 0, none⟩ = some (.slice oj js.length cj) := r5.c 0 _ rfl
  have a1 : W1.cell? ⟨b5, 1, none⟩ = some (.slice om ms.length cm) := r5.c 1 _ rfl
  have l5 := r5.lt
  have HA1 := Lib.hid (HA.out W1 HB.out)
  have HR5 := Lib.hid r5
  clear r5 HA
  go_wp2_with fail
  with_reducible refine HA1.out.mono ?_
  rintro e W2 ⟨bv, rfl, hbv, hb2⟩
  obtain rfl : bv = true := hbv.2 HF.out
  have HB2 := Lib.hid (below_call HB.out hb2)
  have HR52 := Lib.hid (HR5.out.keep hb2)
  clear hbv hb2 HR5 HB HA1 a0 a1 l5
  go_wp2_with fail
  go_loopw [11, 12] (fun o i X => ∃ k : Nat, i = .int .i64 (k : Nat) ∧ k ≤ pts.length ∧ X.ownsRow W2.heap.size 3 1 o (inL k (dP js q pts) most).length (nvals (inL k (dP js q pts) most)).flatten ∧ Below W2.heap.size W2 X) (fun _ i _ => pts.length - (intOf i).toNat)
  case atStart => exact ⟨0, rfl, Nat.zero_le _, World.ownsRow_nil _ _ _ _, Below.refl _ _⟩
  case round =>
    obtain ⟨k, rfl, hk, hown, hb⟩ := hrel
    obtain ⟨V, rfl⟩ : ∃ X, X = wr := ⟨_, rfl⟩
    by_cases hlt : k < pts.length
    · have hk1 : (k : Int) < (pts.length : Int) := by omega
      obtain ⟨x, hx⟩ : ∃ x, pts[k]? = some x := ⟨_, List.getElem?_eq_getElem hlt⟩
      have hbw := below_call HB2.out hb
      obtain ⟨bp, offp, ox, cx, rfl, y4, lp, hox⟩ := (HP.out.keep hbw).get hx
      have r5V := HR52.out.keep hb
      have y0 : V.cell? ⟨b5, 0, none⟩ = some (.slice oj js.length cj) := r5V.c 0 _ rfl
      have y1 : V.cell? ⟨b5, 1, none⟩ = some (.slice om ms.length cm) := r5V.c 1 _ rfl
      have l5 := r5V.lt
      have hmk : ∀ Y, Below V.heap.size V Y → Y.cell? ⟨b5, 0, none⟩ = some (.slice oj js.length cj) ∧ Y.cell? ⟨b5, 1, none⟩ = some (.slice om ms.length cm) ∧ Y.cell? ⟨bp, offp + k, none⟩ = some (.slice ox x.length cx) ∧ Below V.heap.size V Y := fun Y hY => ⟨(hY.cell (p := ⟨b5, 0, none⟩) l5).trans y0, (hY.cell (p := ⟨b5, 1, none⟩) l5).trans y1, (hY.cell (p := ⟨bp, offp + k, none⟩) lp).trans y4, hY⟩
      have hS := hmk V (Below.refl _ _)
      have HMK := Lib.hid hmk
      have HDI := Lib.hid (fun (X : World) (hX : Below V.heap.size V X) => HDW.out X (below_call hbw hX) ox cx x k hx (hox.keep hX))
      have HBB := Lib.hid hb
      have HOW := Lib.hid hown
      have hszV : W2.heap.size ≤ V.heap.size := hb.size
      have hnl : (inL k (dP js q pts) most).length ≤ 100000 := Nat.le_trans (inL_len _ _ _) (by omega)
      clear hmk hx hox hb hbw r5V y0 y1 y4 hown
      by_cases hyes : dP js q pts k ≤ most
      · have hdd : decide (dP js q pts k ≤ most) = true := decide_eq_true hyes
        go_upto_region 7 with fail
        go_region_held3 (fun Y => Y.cell? ⟨b5, 0, none⟩ = some (.slice oj js.length cj) ∧ Y.cell? ⟨b5, 1, none⟩ = some (.slice om ms.length cm) ∧ Y.cell? ⟨bp, offp + k, none⟩ = some (.slice ox x.length cx) ∧ Below V.heap.size V Y)
          (first
            | assumption
            | exact HMK.out _ (by repeat (first | assumption | exact Below.refl _ _ | apply Below.drew | exact (by assumption : _ ∧ _ ∧ _ ∧ Below V.heap.size V _).2.2.2)))
          ((go_at_call 15
            with_reducible refine (HDI.out _ (by assumption : _ ∧ _ ∧ _ ∧ Below V.heap.size V _).2.2.2).mono ?_
            rintro e Xa ⟨rfl, hba⟩
            have hbs := (by assumption : _ ∧ _ ∧ _ ∧ Below V.heap.size V _).2.2.2
            replace hba := below_call hbs hba))
        have HBC := Lib.hid hba
        have hal : Below Xa.heap.size Xa (Xa.alloc (.cells #[.int .i64 (k : Nat)] 3)) := (Below.refl _ _).alloc (Nat.le_refl _) _
        have HC := Lib.hid (own_keep (own_keep HOW.out hba) hal)
        have HB5 := Lib.hid (below_call (below_call HBB.out hba) hal)
        obtain ⟨i0, hi, hz0, hz1, hz2⟩ := info_parts info3
        clear hal hba
        go_wp2_with (at_builtin; refine wpList_append_own _ rfl _ _ 29 rfl W2.heap.size 3 i0 (.int .i64 0) 1 8 under24 hi hz0 hz1 hz2 rfl (by decide) _ _ _ rfl HC.out ⟨Xa.heap.size, 0, none⟩ 1 1 [.int .i64 (k : Nat)] rfl rfl (new_cells _ _ _) (by intro u hu; simp at hu; subst hu; rfl) (by unfold maxLen; omega) (by omega) HB5.out.size ?_)
        intro v' w' hown' hgrow _
        have HO3 := Lib.hid hown'
        have HB6 := Lib.hid (HB5.out.trans (grown_below HC.out hgrow HB5.out.size))
        clear hown' hgrow HC HB5 hi hz0 hz1 hz2
        go_wp2_with fail
        go_roundw
        case rel => exact ⟨k + 1, by simp, by omega, by rw [inL_yes hyes, nvals_snoc, List.length_append]; exact HO3.out, HB6.out⟩
        case measure => simp [intOf]; omega
      · have hdd : decide (dP js q pts k ≤ most) = false := decide_eq_false hyes
        go_upto_region 7 with fail
        go_region_held3 (fun Y => Y.cell? ⟨b5, 0, none⟩ = some (.slice oj js.length cj) ∧ Y.cell? ⟨b5, 1, none⟩ = some (.slice om ms.length cm) ∧ Y.cell? ⟨bp, offp + k, none⟩ = some (.slice ox x.length cx) ∧ Below V.heap.size V Y)
          (first
            | assumption
            | exact HMK.out _ (by repeat (first | assumption | exact Below.refl _ _ | apply Below.drew | exact (by assumption : _ ∧ _ ∧ _ ∧ Below V.heap.size V _).2.2.2)))
          ((go_at_call 15
            with_reducible refine (HDI.out _ (by assumption : _ ∧ _ ∧ _ ∧ Below V.heap.size V _).2.2.2).mono ?_
            rintro e Xa ⟨rfl, hba⟩
            have hbs := (by assumption : _ ∧ _ ∧ _ ∧ Below V.heap.size V _).2.2.2
            replace hba := below_call hbs hba))
        have HBC := Lib.hid hba
        have HO2 := Lib.hid (own_keep HOW.out hba)
        clear hba
        go_wp2_with fail
        go_roundw
        case rel => exact ⟨k + 1, by simp, by omega, by rw [inL_no (show ¬ dP js q pts k ≤ most by omega)]; exact HO2.out, below_call HBB.out HBC.out⟩
        case measure => simp [intOf]; omega
    · obtain rfl : k = pts.length := by omega
      have hnl : ¬ ((pts.length : Int) < (pts.length : Int)) := Int.lt_irrefl _
      obtain ⟨oa, ca, rfl, hs⟩ := own_rows (nvals_one (inL pts.length (dP js q pts) most)) (by rw [nvals_len]; exact hown)
      have hfr := own_fresh hown
      rw [nvals_len]
      have HE : Hid (WithP pts.length (dP js q pts) most w (.returned (.slice oa (inL pts.length (dP js q pts) most).length ca)) V) := Lib.hid ⟨oa, ca, rfl, hs, below_call HB2.out hb, fun a ha => Nat.le_trans HB2.out.size (hfr a ha)⟩
      clear hown hb hs hfr hlt hk
      go_wp2_with fail
      go_ret
      exact HE.out
end Go.Proofs.Ng
end

section
/-
  Walks: the reference's order by distance.
-/
namespace Go.Proofs.Ng
open Go.RowKit

/-- The first k points in the order of their distances. -/
structure ByI (dP : Nat → Int) (k : Nat) (o : List Nat) : Prop where
  perm : o.Perm (List.range k)
  pw : o.Pairwise fun a b => farD dP b a = true
theorem ByI.nil (dP : Nat → Int) : ByI dP 0 [] := ⟨by simp, .nil⟩
theorem ByI.len {dP : Nat → Int} {k : Nat} {o : List Nat} (h : ByI dP k o) : o.length = k := by rw [h.perm.length_eq, List.length_range]
theorem ByI.near {dP : Nat → Int} {n : Nat} {o : List Nat} (h : ByI dP n o) : NearL n n dP o :=
  ⟨⟨by rw [h.len]; simp, fun a ha => List.mem_range.1 (h.perm.mem_iff.1 ha), h.perm.nodup_iff.2 List.nodup_range, fun p hp hn => absurd (h.perm.mem_iff.2 (List.mem_range.2 hp)) hn⟩, h.pw⟩
/-- One point on its way down. -/
structure ByJ (dP : Nat → Int) (base k g c : Nat) (A B : List Nat) (W : World) : Prop where
  len : A.length + B.length = k
  perm : (A ++ B).Perm (List.range k)
  pw : (A ++ B).Pairwise fun a b => farD dP b a = true
  lt : ∀ b ∈ B, farD dP b k = true
  own : W.ownsRow base 3 1 (.slice (some ⟨g, 0, none⟩) (k + 1) c) (k + 1) (nvals (A ++ k :: B)).flatten
theorem ByJ.keep {dP : Nat → Int} {base k g c : Nat} {A B : List Nat} {W W' : World} (h : ByJ dP base k g c A B W) (hb : Below W.heap.size W W') : ByJ dP base k g c A B W' := ⟨h.len, h.perm, h.pw, h.lt, own_keep h.own hb⟩
theorem ByJ.fin {dP : Nat → Int} {base k g c : Nat} {A B : List Nat} {W : World} (h : ByJ dP base k g c A B W) (hA : ∀ z, A.getLast? = some z → farD dP z k = false) : ByI dP (k + 1) (A ++ k :: B) := by
  have hmem : ∀ a ∈ A, a < k := fun a ha => List.mem_range.1 (h.perm.mem_iff.1 (by simp [ha]))
  refine ⟨?_, ?_⟩
  · rw [List.range_succ]
    have h1 : (A ++ k :: B).Perm (k :: (A ++ B)) := List.perm_middle
    exact h1.trans ((List.perm_append_comm (l₁ := [k]) (l₂ := A ++ B)).trans (h.perm.append_right [k]))
  · have hp := List.pairwise_append.1 h.pw
    have hak : ∀ a ∈ A, farD dP k a = true := fun a ha => by
      rcases List.eq_nil_or_concat A with h0 | ⟨A', z, h0⟩
      · subst h0; simp at ha
      · rw [List.concat_eq_append] at h0
        subst h0
        have hz := hA z (by simp)
        have hzk : farD dP k z = true := farD_tot hz (fun e => by have := hmem z (by simp); omega)
        rw [List.mem_append, List.mem_singleton] at ha
        rcases ha with ha | rfl
        · exact farD_tr hzk ((List.pairwise_append.1 hp.1).2.2 a ha z (by simp))
        · exact hzk
    rw [List.pairwise_append]
    refine ⟨hp.1, List.pairwise_cons.2 ⟨fun b hb => h.lt b hb, hp.2.1⟩, fun a ha b hb => ?_⟩
    rw [List.mem_cons] at hb
    rcases hb with rfl | hb
    · exact hak a ha
    · exact hp.2.2 a ha b hb
theorem ByJ.step {dP : Nat → Int} {base k g c z : Nat} {A B : List Nat} {W : World} (h : ByJ dP base k g c (A ++ [z]) B W) (hz : farD dP z k = true) : ByJ dP base k g c A (z :: B) (((W.setCell ⟨g, A.length + 1, none⟩ (.int .i64 (z : Nat))).setCell ⟨g, A.length, none⟩ (.int .i64 (k : Nat))).drew) := by
  have hl := h.len
  simp only [List.length_append, List.length_cons, List.length_nil] at hl
  have e : A ++ [z] ++ B = A ++ z :: B := by simp
  refine ⟨by simp; omega, by rw [← e]; exact h.perm, by rw [← e]; exact h.pw, fun b hb => ?_, ?_⟩
  · rw [List.mem_cons] at hb
    rcases hb with rfl | hb
    · exact hz
    · exact h.lt b hb
  · have h1 := own_set1 h.own (A.length + 1) (by omega) (.int .i64 (z : Nat))
    have h2 := own_set1 h1 A.length (by omega) (.int .i64 (k : Nat))
    rw [← nvals_set, ← nvals_set] at h2
    have e2 : ((A ++ [z] ++ k :: B).set (A.length + 1) z).set A.length k = A ++ k :: z :: B := by
      rw [List.append_assoc, List.set_append_right _ _ (by omega), List.set_append_right _ _ (by omega)]
      simp
    rw [e2] at h2
    exact h2
/-- What byDistance answers. -/
def ByP (n : Nat) (dP : Nat → Int) (w : World) (e : Ending) (W : World) : Prop :=
  ∃ (L : List Nat) (oa : Option Addr) (ca : Nat), ByI dP n L ∧ e = .returned (.slice oa n ca) ∧ n ≤ ca ∧ Sl W oa 1 (nvals L) ∧ Below w.heap.size w W
set_option maxRecDepth 100000 in
set_option maxHeartbeats 4000000 in
theorem byDist60 (oj om op oq : Option Addr) (cj cm cp cq : Nat) (js : List JV) (ms : List MV) (pts : List (List Int)) (t : List Nd) (q : List Int) (w : World)
    (hl : ms.length ≤ 9223372036854775807) (hJ : Sl w oj 12 (js.map JV.vals)) (hM : Sl w om 5 (ms.map MV.vals)) (hP : Pts w op pts) (hQ : Sl w oq 1 (pvals q)) (hpl : pts.length ≤ 10000)
    (hF : FitsP js ms pts t q) :
    Calls Tryz.prog 60 #[.agg #[.slice oj js.length cj, .slice om ms.length cm], .slice op pts.length cp, .slice oq q.length cq, .int .i64 (-1)] w (ByP pts.length (dP js q pts) w) := by
  have HDW := Lib.hid (fun (X : World) (hX : Below w.heap.size w X) (ox : Option Addr) (cx : Nat) (x : List Int) (p : Nat) (hx : pts[p]? = some x) (hs : Sl X ox 1 (pvals x)) => dist_pt (X := X) (oj := oj) (om := om) (ox := ox) (oq := oq) (cj := cj) (cm := cm) (cx := cx) (cq := cq) hF hl (hJ.keep hX) (hM.keep hX) hx hs (hQ.keep hX))
  have HP := Lib.hid hP
  clear hF hJ hM hP hQ hl
  go_enter Tryz.func60, Tryz.ntmps60
  go_upto_region 1 with fail
  have hbx_ := blks1 w [.slice oj js.length cj, .slice om ms.length cm] 25
  have HB := Lib.hid (hbx_.2)
  generalize w.alloc (.cells #[.slice oj js.length cj, .slice om ms.length cm] 25) = W1 at hbx_ HB ⊢
  obtain ⟨r4, hbel_⟩ := hbx_
  obtain ⟨b4, hn_⟩ : ∃ n, n = w.heap.size := ⟨_, rfl⟩
  rw [← hn_] at r4 ⊢
  clear hn_ hbel_
  have HR4 := Lib.hid r4
  clear r4
  go_wp2_with fail
  go_loopw [9, 10, 11, 12] (fun o i _ _ X => ∃ (k : Nat) (L : List Nat), i = .int .i64 (k : Nat) ∧ k ≤ pts.length ∧ ByI (dP js q pts) k L ∧ X.ownsRow W1.heap.size 3 1 o k (nvals L).flatten ∧ Below W1.heap.size W1 X) (fun _ i _ _ _ => pts.length - (intOf i).toNat)
  case atStart => exact ⟨0, [], rfl, Nat.zero_le _, ByI.nil _, World.ownsRow_nil _ _ _ _, Below.refl _ _⟩
  case round =>
    obtain ⟨k, L, rfl, hk, hby, hown, hb⟩ := hrel
    obtain ⟨V, rfl⟩ : ∃ X, X = wr := ⟨_, rfl⟩
    have hLl := hby.len
    by_cases hlt : k < pts.length
    · have hk1 : (k : Int) < (pts.length : Int) := by omega
      have hkn : ((k : Int) == -1) = false := by simp
      obtain ⟨o2, c2, rfl, -⟩ := own_rows (nvals_one L) (by rw [nvals_len, hLl]; exact hown)
      rw [nvals_len, hLl] at hown ⊢
      have HBY := Lib.hid hby
      have hal : Below V.heap.size V (V.alloc (.cells #[.int .i64 (k : Nat)] 3)) := (Below.refl _ _).alloc (Nat.le_refl _) _
      have HC := Lib.hid (own_keep hown hal)
      have HB5 := Lib.hid (below_call hb hal)
      obtain ⟨i0, hi, hz0, hz1, hz2⟩ := info_parts info3
      clear hal hown hb hby
      go_wp2_with (at_builtin; refine wpList_append_own _ rfl _ _ 29 rfl W1.heap.size 3 i0 (.int .i64 0) 1 8 under24 hi hz0 hz1 hz2 rfl (by decide) _ _ _ rfl HC.out ⟨V.heap.size, 0, none⟩ 1 1 [.int .i64 (k : Nat)] rfl rfl (new_cells _ _ _) (by intro u hu; simp at hu; subst hu; rfl) (by unfold maxLen; omega) (by omega) HB5.out.size ?_)
      intro v' w' hown' hgrow _
      obtain ⟨g, c, rfl⟩ := own_some hown' (by omega)
      have HGL := Lib.hid (own_lt hown' g rfl).2
      have hJ : ByJ (dP js q pts) W1.heap.size k g c L [] w' := by
        refine ⟨by simp [hLl], by rw [List.append_nil]; exact HBY.out.perm, by rw [List.append_nil]; exact HBY.out.pw, by simp, ?_⟩
        have e : (nvals (L ++ [k])).flatten = (nvals L).flatten ++ [.int .i64 (k : Nat)] := nvals_snoc L k
        rw [e]; exact hown'
      have HJ := Lib.hid hJ
      have HB6 := Lib.hid (HB5.out.trans (grown_below HC.out hgrow HB5.out.size))
      clear hown' hgrow HC HB5 hi hz0 hz1 hz2 hJ
      obtain ⟨x, hx⟩ : ∃ x, pts[k]? = some x := ⟨_, List.getElem?_eq_getElem hlt⟩
      have hbw := below_call HB.out HB6.out
      obtain ⟨bp, offp, ox, cx, hope, y4, lp, hox⟩ := (HP.out.keep hbw).get hx
      have hop := hope
      subst hop
      have r4V := HR4.out.keep HB6.out
      have y0 : w'.cell? ⟨b4, 0, none⟩ = some (.slice oj js.length cj) := r4V.c 0 _ rfl
      have y1 : w'.cell? ⟨b4, 1, none⟩ = some (.slice om ms.length cm) := r4V.c 1 _ rfl
      have l4 := r4V.lt
      have hmk : ∀ Y, Below w'.heap.size w' Y → Y.cell? ⟨b4, 0, none⟩ = some (.slice oj js.length cj) ∧ Y.cell? ⟨b4, 1, none⟩ = some (.slice om ms.length cm) ∧ Y.cell? ⟨bp, offp + k, none⟩ = some (.slice ox x.length cx) ∧ Below w'.heap.size w' Y := fun Y hY => ⟨(hY.cell (p := ⟨b4, 0, none⟩) l4).trans y0, (hY.cell (p := ⟨b4, 1, none⟩) l4).trans y1, (hY.cell (p := ⟨bp, offp + k, none⟩) lp).trans y4, hY⟩
      have hS := hmk w' (Below.refl _ _)
      have HMK := Lib.hid hmk
      have HDI := Lib.hid (fun (X : World) (hX : Below w'.heap.size w' X) => HDW.out X (below_call hbw hX) ox cx x k hx (hox.keep hX))
      clear hmk hx hox hbw r4V y0 y1 y4 hope
      go_upto_region 8 with fail
      go_region_held3 (fun Y => Y.cell? ⟨b4, 0, none⟩ = some (.slice oj js.length cj) ∧ Y.cell? ⟨b4, 1, none⟩ = some (.slice om ms.length cm) ∧ Y.cell? ⟨bp, offp + k, none⟩ = some (.slice ox x.length cx) ∧ Below w'.heap.size w' Y)
        (first
          | assumption
          | exact HMK.out _ (by repeat (first | assumption | exact Below.refl _ _ | apply Below.drew | exact (by assumption : _ ∧ _ ∧ _ ∧ Below w'.heap.size w' _).2.2.2)))
        ((go_at_call 15
          with_reducible refine (HDI.out _ (by assumption : _ ∧ _ ∧ _ ∧ Below w'.heap.size w' _).2.2.2).mono ?_
          rintro e Xa ⟨rfl, hba⟩
          have hbs := (by assumption : _ ∧ _ ∧ _ ∧ Below w'.heap.size w' _).2.2.2
          replace hba := below_call hbs hba))
      have HJ2 := Lib.hid (HJ.out.keep hba)
      have HB7 := Lib.hid (below_call HB6.out hba)
      clear hba hS HMK HDI HJ HB6 l4 lp
      generalize hdk : dP js q pts k = dk
      have HDK := Lib.hid hdk
      clear hdk
      go_wp2_with fail
      go_loopw [11] (fun i X => ∃ (p : Nat) (A B : List Nat), i = .int .i64 (p : Nat) ∧ A.length = p ∧ ByJ (dP js q pts) W1.heap.size k g c A B X ∧ Below W1.heap.size W1 X) (fun i _ => (intOf i).toNat)
      case atStart => exact ⟨k, L, [], rfl, hLl, HJ2.out, HB7.out⟩
      case round =>
        clear HJ2 HB7
        obtain ⟨p, A, B, rfl, hAp, hJ, hb⟩ := hrel
        obtain ⟨U, rfl⟩ : ∃ X, X = wr := ⟨_, rfl⟩
        rcases p with _ | p
        · have hA0 : A = [] := List.length_eq_zero_iff.1 hAp
          subst hA0
          have hF := hJ.fin (fun z h => by simp at h)
          have hown := hJ.own
          go_upto_region 9 with fail
          go_quiet (fail)
          have HO9 := Lib.hid (own_keep hown (below_drew U nq))
          have HB9 := Lib.hid (below_call hb (below_drew U nq))
          have HF9 := Lib.hid hF
          clear hF hown hJ hb
          go_wp2_with fail
          go_roundw
          case rel => exact ⟨k + 1, _, by simp, by omega, HF9.out, HO9.out, HB9.out⟩
          case measure => simp [intOf]; omega
        · obtain ⟨A', z, rfl⟩ : ∃ A' z, A = A' ++ [z] := by
            rcases List.eq_nil_or_concat A with h | ⟨A', z, h⟩
            · subst h; simp at hAp
            · exact ⟨A', z, by rw [h, List.concat_eq_append]⟩
          have hA' : A'.length = p := by simp at hAp; omega
          subst hA'
          have hlA : A'.length + 1 + B.length = k := by simpa using hJ.len
          have hzk : z < k := List.mem_range.1 (hJ.perm.mem_iff.1 (by simp))
          have x1 := own_cell hJ.own (A'.length + 1) k (by simp)
          have x2 := own_cell hJ.own A'.length z (by simp)
          have f1 := own_frozen hJ.own (by omega) (A'.length + 1)
          have f2 := own_frozen hJ.own (by omega) A'.length
          have lg := (own_lt hJ.own g rfl).1
          have i1 : (A'.length : Int) + 1 < (k : Int) + 1 := by omega
          have i2 : (A'.length : Int) < (k : Int) + 1 := by omega
          have i3 : (0 : Int) ≤ (A'.length : Int) := by omega
          have i4 : (0 : Int) ≤ (A'.length : Int) + 1 := by omega
          have i5 : (0 : Int) < (A'.length : Int) + 1 := by omega
          have i7 : A'.length < k + 1 := by omega
          have hw2 : IntKind.i64.wrap (A'.length : Int) = (A'.length : Int) := IntWalk.i64_in _ (by omega)
          have i6 : (z : Int) < (pts.length : Int) := by omega
          have hw1 : IntKind.i64.wrap ((A'.length : Int) + 1 - 1) = (A'.length : Int) := by rw [IntWalk.i64_in _ (by omega)]; omega
          obtain ⟨xz, hxz⟩ : ∃ x, pts[z]? = some x := ⟨_, List.getElem?_eq_getElem (by omega)⟩
          have hbw := below_call HB.out hb
          obtain ⟨bp', offp', oz, cz, hope, y4, lp, hoz⟩ := (HP.out.keep hbw).get hxz
          injection hope with hope
          injection hope with h1 h2
          subst h1 h2
          have r4V := HR4.out.keep hb
          have y0 : U.cell? ⟨b4, 0, none⟩ = some (.slice oj js.length cj) := r4V.c 0 _ rfl
          have y1 : U.cell? ⟨b4, 1, none⟩ = some (.slice om ms.length cm) := r4V.c 1 _ rfl
          have l4 := r4V.lt
          have hmk : ∀ Y, Below U.heap.size U Y → Y.cell? ⟨b4, 0, none⟩ = some (.slice oj js.length cj) ∧ Y.cell? ⟨b4, 1, none⟩ = some (.slice om ms.length cm) ∧ Y.cell? ⟨bp, offp + z, none⟩ = some (.slice oz xz.length cz) ∧ Y.cell? ⟨g, A'.length, none⟩ = some (.int .i64 (z : Nat)) ∧ Below U.heap.size U Y := fun Y hY => ⟨(hY.cell (p := ⟨b4, 0, none⟩) l4).trans y0, (hY.cell (p := ⟨b4, 1, none⟩) l4).trans y1, (hY.cell (p := ⟨bp, offp + z, none⟩) lp).trans y4, (hY.cell (p := ⟨g, A'.length, none⟩) lg).trans x2, hY⟩
          have hS := hmk U (Below.refl _ _)
          have HMK := Lib.hid hmk
          have HDI := Lib.hid (fun (X : World) (hX : Below U.heap.size U X) => HDW.out X (below_call hbw hX) oz cz xz z hxz (hoz.keep hX))
          have HJU := Lib.hid hJ
          have HBU := Lib.hid hb
          clear hmk hxz hoz hbw r4V y0 y1 y4 x1 x2 f1 f2 hJ hb hAp
          by_cases hq : dk < dP js q pts z
          · have hqd : decide (dk < dP js q pts z) = true := decide_eq_true hq
            have hfar : farD (dP js q pts) z k = true := by
              unfold farD
              rw [HDK.out]
              exact decide_eq_true (.inl hq)
            have HFAR := Lib.hid hfar
            clear hq hfar
            go_upto_region 9 with fail
            go_region_held3 (fun Y => Y.cell? ⟨b4, 0, none⟩ = some (.slice oj js.length cj) ∧ Y.cell? ⟨b4, 1, none⟩ = some (.slice om ms.length cm) ∧ Y.cell? ⟨bp, offp + z, none⟩ = some (.slice oz xz.length cz) ∧ Y.cell? ⟨g, A'.length, none⟩ = some (.int .i64 (z : Nat)) ∧ Below U.heap.size U Y)
              (first
                | assumption
                | exact HMK.out _ (by repeat (first | assumption | exact Below.refl _ _ | apply Below.drew | exact (by assumption : _ ∧ _ ∧ _ ∧ _ ∧ Below U.heap.size U _).2.2.2.2)))
              ((go_at_call 15
                with_reducible refine (HDI.out _ (by assumption : _ ∧ _ ∧ _ ∧ _ ∧ Below U.heap.size U _).2.2.2.2).mono ?_
                rintro e Xa ⟨rfl, hba⟩
                have hbs := (by assumption : _ ∧ _ ∧ _ ∧ _ ∧ Below U.heap.size U _).2.2.2.2
                replace hba := below_call hbs hba))
            have hJ2 := HJU.out.keep hba
            have HB8 := Lib.hid (below_call HBU.out hba)
            have HST := Lib.hid (hJ2.step HFAR.out)
            have x1 := own_cell hJ2.own (A'.length + 1) k (by simp)
            have x2 := own_cell hJ2.own A'.length z (by simp)
            have f1 := own_frozen hJ2.own (by omega) (A'.length + 1)
            have f2 := own_frozen hJ2.own (by omega) A'.length
            have lg2 := (own_lt hJ2.own g rfl).1
            have HBF : Hid (Below W1.heap.size W1 ((Xa.setCell ⟨g, A'.length + 1, none⟩ (.int .i64 (z : Nat))).setCell ⟨g, A'.length, none⟩ (.int .i64 (k : Nat))).drew) := Lib.hid (Below.drew (((HB8.out).setCell (p := ⟨g, A'.length + 1, none⟩) HGL.out _).setCell (p := ⟨g, A'.length, none⟩) HGL.out _))
            have hne : ¬ (A'.length + 1 = A'.length) := by omega
            clear hJ2 hba hS HMK HDI l4 lp lg
            go_upto_region 10 with fail
            go_region
            go_wp2_with fail
            go_roundw
            case rel => exact ⟨A'.length, A', z :: B, by simp, rfl, HST.out, HBF.out⟩
            case measure => simp [intOf]
          · have hqd : decide (dk < dP js q pts z) = false := decide_eq_false hq
            have hfar : farD (dP js q pts) z k = false := by
              unfold farD
              rw [HDK.out]
              exact decide_eq_false (by omega)
            have hF := HJU.out.fin (fun u hu => by simp at hu; subst hu; exact hfar)
            have HFF := Lib.hid hF
            clear hq hfar hF
            go_upto_region 9 with fail
            go_region_held3 (fun Y => Y.cell? ⟨b4, 0, none⟩ = some (.slice oj js.length cj) ∧ Y.cell? ⟨b4, 1, none⟩ = some (.slice om ms.length cm) ∧ Y.cell? ⟨bp, offp + z, none⟩ = some (.slice oz xz.length cz) ∧ Y.cell? ⟨g, A'.length, none⟩ = some (.int .i64 (z : Nat)) ∧ Below U.heap.size U Y)
              (first
                | assumption
                | exact HMK.out _ (by repeat (first | assumption | exact Below.refl _ _ | apply Below.drew | exact (by assumption : _ ∧ _ ∧ _ ∧ _ ∧ Below U.heap.size U _).2.2.2.2)))
              ((go_at_call 15
                with_reducible refine (HDI.out _ (by assumption : _ ∧ _ ∧ _ ∧ _ ∧ Below U.heap.size U _).2.2.2.2).mono ?_
                rintro e Xa ⟨rfl, hba⟩
                have hbs := (by assumption : _ ∧ _ ∧ _ ∧ _ ∧ Below U.heap.size U _).2.2.2.2
                replace hba := below_call hbs hba))
            have hown := own_keep HJU.out.own hba
            have hbb := below_call HBU.out hba
            clear hS HMK HDI l4 lp lg
            have HO9 := Lib.hid hown
            have HB9 := Lib.hid hbb
            have HF9 := Lib.hid HFF.out
            clear hown hbb
            go_wp2_with fail
            go_roundw
            case rel => exact ⟨k + 1, _, by simp, by omega, HF9.out, HO9.out, HB9.out⟩
            case measure => simp [intOf]; omega
    · obtain rfl : k = pts.length := by omega
      have hnl : ¬ ((pts.length : Int) < (pts.length : Int)) := Int.lt_irrefl _
      obtain ⟨oa, ca, rfl, hs⟩ := own_rows (nvals_one L) (by rw [nvals_len, hLl]; exact hown)
      have hcap := (own_cap hown).1
      rw [nvals_len, hLl] at hcap ⊢
      have HE : Hid (ByP pts.length (dP js q pts) w (.returned (.slice oa pts.length ca)) V) := Lib.hid ⟨L, oa, ca, hby, rfl, hcap, hs, below_call HB.out hb⟩
      clear hown hb hs hby hlt hk hcap
      go_wp2_with fail
      go_ret
      exact HE.out
end Go.Proofs.Ng
end

section
/-
  Walks: the reference's Nearest.
-/
namespace Go.Proofs.Ng
open Go.RowKit

theorem Sl.takeN {W : World} {oa : Option Addr} {L : List Nat} (h : Sl W oa 1 (nvals L)) (m : Nat) : Sl W oa 1 (nvals (L.take m)) := by
  have e : nvals (L.take m) = (nvals L).take m := by simp [nvals, List.map_take]
  rw [e]
  intro hne
  obtain ⟨b, off, e2, hr⟩ := h (fun h0 => hne (by rw [h0]; simp))
  refine ⟨b, off, e2, hr.lt, fun i r hi k u hu => hr.c i r ?_ k u hu⟩
  rw [List.getElem?_take] at hi
  split at hi
  · exact hi
  · cases hi
theorem near_min {n : Nat} {dP : Nat → Int} {L : List Nat} (h : NearL n n dP L) (k : Nat) : NearL k n dP (L.take (min k n)) := by
  by_cases hk : k ≤ n
  · rw [Nat.min_eq_left hk]; exact h.take hk
  · rw [Nat.min_eq_right (by omega), List.take_of_length_le (by rw [h.set.len]; omega)]
    exact ⟨⟨by rw [h.set.len]; omega, h.set.lt, h.set.nd, h.set.far⟩, h.srt⟩
/-- What the reference's Nearest answers. -/
def RefP (k n : Nat) (dP : Nat → Int) (w : World) (e : Ending) (W : World) : Prop :=
  ∃ (R : List Nat) (oa : Option Addr) (ca : Nat), NearL k n dP R ∧ e = .returned (.slice oa R.length ca) ∧ Sl W oa 1 (nvals R) ∧ Below w.heap.size w W
set_option maxRecDepth 100000 in
set_option maxHeartbeats 2000000 in
theorem ref23_no (oj om op ot oq : Option Addr) (cj cm cp ct cq : Nat) (js : List JV) (ms : List MV) (pts : List (List Int)) (t : List Nd) (q : List Int) (k : Int) (w : World)
    (hj : js.length ≤ 100) (hl : ms.length ≤ 9223372036854775807) (hJ : Sl w oj 12 (js.map JV.vals)) (hM : Sl w om 5 (ms.map MV.vals)) (hP : Pts w op pts) (hT : Sl w ot 4 (t.map Nd.vals)) (hQ : Sl w oq 1 (pvals q)) (htl : t.length ≤ 100000) (hpl : pts.length ≤ 100000) (hql : q.length ≤ 100000)
    (hF : k < 1 ∨ ¬ FitsP js ms pts t q) :
    Calls Tryz.prog 23 #[.agg #[.slice oj js.length cj, .slice om ms.length cm], .slice op pts.length cp, .slice ot t.length ct, .slice oq q.length cq, .int .i64 k] w (NoP w) := by
  have HA := Lib.hid (fun (X : World) (hX : Below w.heap.size w X) => askable59 oj om op ot oq cj cm cp ct cq js ms pts t q X hj hl (hJ.keep hX) (hM.keep hX) (hP.keep hX) (hT.keep hX) (hQ.keep hX) htl hpl hql)
  have HF := Lib.hid hF
  clear hF hJ hM hP hT hQ hl
  go_enter Tryz.func23, Tryz.ntmps23
  go_upto_region 1 with fail
  have hbx_ := blks1 w [.slice oj js.length cj, .slice om ms.length cm] 25
  have HB := Lib.hid (hbx_.2)
  generalize w.alloc (.cells #[.slice oj js.length cj, .slice om ms.length cm] 25) = W1 at hbx_ HB ⊢
  obtain ⟨r5, hbel_⟩ := hbx_
  obtain ⟨b5, hn_⟩ : ∃ n, n = w.heap.size := ⟨_, rfl⟩
  rw [← hn_] at r5 ⊢
  clear hn_ hbel_
  have a0 : W1.cell? ⟨b5, 0, none⟩ = some (.slice oj js.length cj) := r5.c 0 _ rfl
  have a1 : W1.cell? ⟨b5, 1, none⟩ = some (.slice om ms.length cm) := r5.c 1 _ rfl
  have l5 := r5.lt
  have HA1 := Lib.hid (HA.out W1 HB.out)
  clear r5 HA
  go_wp2_with fail
  with_reducible refine HA1.out.mono ?_
  rintro e W2 ⟨bv, rfl, hbv, hb2⟩
  have HB2 := Lib.hid (below_call HB.out hb2)
  cases bv with
  | false =>
    clear hbv hb2
    go_wp2_with fail
    go_ret
    exact ⟨rfl, HB2.out⟩
  | true =>
    have hk : k < 1 := by
      rcases HF.out with h | h
      · exact h
      · exact absurd (hbv.1 rfl) h
    have hkd : decide (k < 1) = true := decide_eq_true hk
    clear hbv hb2 hk
    go_wp2_with fail
    go_ret
    exact ⟨rfl, HB2.out⟩
set_option maxRecDepth 100000 in
set_option maxHeartbeats 2000000 in
theorem ref23 (oj om op ot oq : Option Addr) (cj cm cp ct cq : Nat) (js : List JV) (ms : List MV) (pts : List (List Int)) (t : List Nd) (q : List Int) (k : Int) (w : World)
    (hj : js.length ≤ 100) (hl : ms.length ≤ 9223372036854775807) (hJ : Sl w oj 12 (js.map JV.vals)) (hM : Sl w om 5 (ms.map MV.vals)) (hP : Pts w op pts) (hT : Sl w ot 4 (t.map Nd.vals)) (hQ : Sl w oq 1 (pvals q)) (htl : t.length ≤ 100000) (hpl : pts.length ≤ 10000) (hql : q.length ≤ 100000)
    (hF : FitsP js ms pts t q) (hk1 : 1 ≤ k) (hk2 : k ≤ 9223372036854775807) :
    Calls Tryz.prog 23 #[.agg #[.slice oj js.length cj, .slice om ms.length cm], .slice op pts.length cp, .slice ot t.length ct, .slice oq q.length cq, .int .i64 k] w (RefP k.toNat pts.length (dP js q pts) w) := by
  have HA := Lib.hid (fun (X : World) (hX : Below w.heap.size w X) => askable59 oj om op ot oq cj cm cp ct cq js ms pts t q X hj hl (hJ.keep hX) (hM.keep hX) (hP.keep hX) (hT.keep hX) (hQ.keep hX) htl (by omega) hql)
  have HBY := Lib.hid (fun (X : World) (hX : Below w.heap.size w X) => byDist60 oj om op oq cj cm cp cq js ms pts t q X hl (hJ.keep hX) (hM.keep hX) (hP.keep hX) (hQ.keep hX) hpl hF)
  have HF := Lib.hid hF
  clear hF hJ hM hP hT hQ hl
  have hkd : decide (k < 1) = false := decide_eq_false (by omega)
  go_enter Tryz.func23, Tryz.ntmps23
  go_upto_region 1 with fail
  have hbx_ := blks1 w [.slice oj js.length cj, .slice om ms.length cm] 25
  have HB := Lib.hid (hbx_.2)
  generalize w.alloc (.cells #[.slice oj js.length cj, .slice om ms.length cm] 25) = W1 at hbx_ HB ⊢
  obtain ⟨r5, hbel_⟩ := hbx_
  obtain ⟨b5, hn_⟩ : ∃ n, n = w.heap.size := ⟨_, rfl⟩
  rw [← hn_] at r5 ⊢
  clear hn_ hbel_
  have a0 : W1.cell? ⟨b5, 0, none⟩ = some (.slice oj js.length cj) := r5.c 0 _ rfl
  have a1 : W1.cell? ⟨b5, 1, none⟩ = some (.slice om ms.length cm) := r5.c 1 _ rfl
  have l5 := r5.lt
  have HA1 := Lib.hid (HA.out W1 HB.out)
  have HR5 := Lib.hid r5
  clear r5 HA
  go_wp2_with fail
  with_reducible refine HA1.out.mono ?_
  rintro e W2 ⟨bv, rfl, hbv, hb2⟩
  obtain rfl : bv = true := hbv.2 HF.out
  have HB2 := Lib.hid (below_call HB.out hb2)
  have r52 := HR5.out.keep hb2
  clear a0 a1 l5
  have a0 : W2.cell? ⟨b5, 0, none⟩ = some (.slice oj js.length cj) := r52.c 0 _ rfl
  have a1 : W2.cell? ⟨b5, 1, none⟩ = some (.slice om ms.length cm) := r52.c 1 _ rfl
  have l5 := r52.lt
  have HBY2 := Lib.hid (HBY.out W2 HB2.out)
  clear hbv hb2 r52 HR5 HB HA1 HBY
  go_wp2_with fail
  with_reducible refine HBY2.out.mono ?_
  rintro e W3 ⟨L, oa, ca, hby, rfl, hcap, hs, hb3⟩
  obtain ⟨m, hm⟩ : ∃ m, m = min k.toNat pts.length := ⟨_, rfl⟩
  have hmin : min k (pts.length : Int) = (m : Int) := by omega
  have hR := near_min hby.near k.toNat
  rw [← hm] at hR
  have hRl : (L.take m).length = m := by rw [List.length_take, hby.len]; omega
  have hsR := Sl.takeN hs m
  have HE : Hid (RefP k.toNat pts.length (dP js q pts) w (.returned (.slice oa m ca)) W3) := Lib.hid ⟨L.take m, oa, ca, hR, by rw [hRl], hsR, below_call HB2.out hb3⟩
  have hm1 : (m : Int) ≤ (ca : Int) := by omega
  have hm2 : m ≤ ca := by omega
  have hm3 : (0 : Int) ≤ (m : Int) := by omega
  have hm4 : (m : Int) ≤ (pts.length : Int) := by omega
  clear hby hs hb3 hR hRl hsR hm a0 a1 l5
  go_wp2_with fail
  go_ret
  exact HE.out
end Go.Proofs.Ng
end

