/-
  Texts put together: Kb Kc Ke.
-/
import Derived.Test.YtemchlakoalhcaaZJointMoves12
import Derived.Test.YtemchlakoalhcaaZJointMoves22
import Derived.StillTailTactics
set_option linter.unusedVariables false
section
/-
  Arbitrary roadmaps: ordered, Formed.
-/
namespace Go.Proofs.Jn
open Go.RowKit Go.Shelf

def okU (n : Nat) (e : Er) : Prop := 0 ≤ e.u ∧ e.u < e.v ∧ e.v < (n : Int)
structure WFo (m : Rm) : Prop where
  ed : ∀ (k : Nat) (e : Er), m.es[k]? = some e → okU m.n e
  asc : ∀ (k : Nat) (e f : Er), m.es[k]? = some e → m.es[k + 1]? = some f → ascE e f
structure WFoTo (m : Rm) (k : Nat) : Prop where
  ed : ∀ (j : Nat) (e : Er), j < k → m.es[j]? = some e → okU m.n e
  asc : ∀ (j : Nat) (e f : Er), j + 1 < k → m.es[j]? = some e → m.es[j + 1]? = some f → ascE e f
theorem WFoTo.zero (m : Rm) : WFoTo m 0 := ⟨fun j e h => absurd h (Nat.not_lt_zero _), fun j e f h => absurd h (Nat.not_lt_zero _)⟩
theorem WFoTo.next {m : Rm} {k : Nat} {e : Er} (h : WFoTo m k) (he : m.es[k]? = some e) (ho : okU m.n e) (ha : ∀ p, k ≠ 0 → m.es[k - 1]? = some p → ascE p e) : WFoTo m (k + 1) := by
  refine ⟨fun j f hj hf => ?_, fun j f g hj hf hg => ?_⟩
  · rcases Nat.lt_or_ge j k with h1 | h1
    · exact h.ed j f h1 hf
    · have : j = k := by omega
      subst this
      rw [he] at hf; injection hf with hf; subst hf; exact ho
  · rcases Nat.lt_or_ge (j + 1) k with h1 | h1
    · exact h.asc j f g h1 hf hg
    · have : k = j + 1 := by omega
      subst this
      rw [he] at hg; injection hg with hg; subst hg
      exact ha f (by omega) (by simpa using hf)
theorem WFoTo.all {m : Rm} (h : WFoTo m m.es.length) : WFo m :=
  ⟨fun k e he => h.ed k e (List.getElem?_eq_some_iff.1 he).1 he, fun k e f he hf => h.asc k e f (List.getElem?_eq_some_iff.1 hf).1 he hf⟩
theorem wf_iff {m : Rm} (hc : ∀ (k : Nat) (e : Er), m.es[k]? = some e → 0 ≤ e.c ∧ e.c ≤ 1099511627776) : WFo m ↔ WF m :=
  ⟨fun h => ⟨fun k e he => ⟨(h.ed k e he).1, (h.ed k e he).2.1, (h.ed k e he).2.2, (hc k e he).1, (hc k e he).2⟩, h.asc⟩, fun h => ⟨fun k e he => ⟨(h.ed k e he).1, (h.ed k e he).2.1, (h.ed k e he).2.2.1⟩, h.asc⟩⟩

set_option maxRecDepth 100000 in
set_option maxHeartbeats 4000000 in
theorem ordered_raw (m : Rm) (w : World) (hn2 : m.n ≤ 1000) (hlen : m.es.length ≤ 1000) (hE : Sl w m.oe 12 (m.es.map Er.vals)) :
    Calls Try.prog 71 #[.agg #[.slice m.op m.n m.cp, .slice m.oe m.es.length m.ce]] w (VerP (WFo m) w) := by
  go_enter Try.func71, Try.ntmps71
  go_upto_region 1 with fail
  have hbx_ := boxes1 w [.slice m.op m.n m.cp, .slice m.oe m.es.length m.ce] 43
  replace hE := hE.keep hbx_.2
  have HB := Lib.hid (hbx_.2)
  generalize w.alloc (.cells #[.slice m.op m.n m.cp, .slice m.oe m.es.length m.ce] 43) = W0 at hbx_ hE HB ⊢
  obtain ⟨r1, hbel_⟩ := hbx_
  obtain ⟨n1, hn_⟩ : ∃ n, n = w.heap.size := ⟨_, rfl⟩
  rw [← hn_] at r1 ⊢
  clear hn_ hbel_
  have HE := Lib.hid hE
  have HR1 := Lib.hid r1
  clear hE r1
  go_wp2_with fail
  go_loopw [3] (fun i W => ∃ k : Nat, i = .int .i64 (k : Nat) ∧ k ≤ m.es.length ∧ Below W0.heap.size W0 W ∧ WFoTo m k) (fun i _ => m.es.length - (intOf i).toNat)
  case atStart => exact ⟨0, rfl, Nat.zero_le _, Below.refl _ _, WFoTo.zero m⟩
  case round =>
    obtain ⟨k, rfl, hk, hW, hto⟩ := hrel
    obtain ⟨Wa, rfl⟩ : ∃ X, X = wr := ⟨_, rfl⟩
    have r1 := HR1.out.keep hW
    have HTO := Lib.hid hto
    clear hto
    by_cases hlt : k < m.es.length
    · obtain ⟨e, he⟩ : ∃ e, m.es[k]? = some e := ⟨_, List.getElem?_eq_getElem hlt⟩
      obtain ⟨be, offe, hoe, hEr⟩ := (HE.out.keep hW) (map_ne hlt)
      have HOE := Lib.hid hoe
      have a1 := r1.c 1 _ rfl
      rw [hoe] at a1
      have l1 := r1.lt
      have x0 : Wa.cell? ⟨be, offe + k * 12, none⟩ = some (.int .i64 e.u) := hEr.c k _ (map_get he) 0 _ rfl
      have x1 : Wa.cell? ⟨be, offe + k * 12 + 1, none⟩ = some (.int .i64 e.v) := hEr.c k _ (map_get he) 1 _ rfl
      have x2 : Wa.cell? ⟨be, offe + k * 12 + 2, none⟩ = some (.int .i64 e.c) := hEr.c k _ (map_get he) 2 _ rfl
      have x3 : Wa.cell? ⟨be, offe + k * 12 + 3, none⟩ = some (.int .i64 e.st) := hEr.c k _ (map_get he) 3 _ rfl
      have x4 : Wa.cell? ⟨be, offe + k * 12 + 4, none⟩ = some (.int .i64 e.k0) := hEr.c k _ (map_get he) 4 _ rfl
      have x5 : Wa.cell? ⟨be, offe + k * 12 + 5, none⟩ = some (.slice e.s1.a e.s1.n e.s1.c) := hEr.c k _ (map_get he) 5 _ rfl
      have x6 : Wa.cell? ⟨be, offe + k * 12 + 6, none⟩ = some (.int .i64 e.k2) := hEr.c k _ (map_get he) 6 _ rfl
      have x7 : Wa.cell? ⟨be, offe + k * 12 + 7, none⟩ = some (.int .i64 e.k3) := hEr.c k _ (map_get he) 7 _ rfl
      have x8 : Wa.cell? ⟨be, offe + k * 12 + 8, none⟩ = some (.slice e.s4.a e.s4.n e.s4.c) := hEr.c k _ (map_get he) 8 _ rfl
      have x9 : Wa.cell? ⟨be, offe + k * 12 + 9, none⟩ = some (.int .i64 e.k5) := hEr.c k _ (map_get he) 9 _ rfl
      have x10 : Wa.cell? ⟨be, offe + k * 12 + 10, none⟩ = some (.slice e.s6.a e.s6.n e.s6.c) := hEr.c k _ (map_get he) 10 _ rfl
      have x11 : Wa.cell? ⟨be, offe + k * 12 + 11, none⟩ = some (.slice e.s7.a e.s7.n e.s7.c) := hEr.c k _ (map_get he) 11 _ rfl
      have lbe := hEr.lt
      have HER := Lib.hid hEr
      have HEk := Lib.hid he
      have HW := Lib.hid hW
      clear hEr he hW hoe
      go_upto_region 5 with fail
      clear x0 x1 x2 x3 x4 x5 x6 x7 x8 x9 x10 x11 lbe a1 l1
      have hbx_ := boxes1 Wa [.int .i64 e.u, .int .i64 e.v, .int .i64 e.c, .int .i64 e.st, .int .i64 e.k0, .slice e.s1.a e.s1.n e.s1.c, .int .i64 e.k2, .int .i64 e.k3, .slice e.s4.a e.s4.n e.s4.c, .int .i64 e.k5, .slice e.s6.a e.s6.n e.s6.c, .slice e.s7.a e.s7.n e.s7.c] 54
      replace r1 := r1.keep hbx_.2
      replace HER := Lib.hid (HER.out.keep hbx_.2)
      have HW3 := Lib.hid (below_call HW.out (hbx_.2))
      generalize Wa.alloc (.cells #[.int .i64 e.u, .int .i64 e.v, .int .i64 e.c, .int .i64 e.st, .int .i64 e.k0, .slice e.s1.a e.s1.n e.s1.c, .int .i64 e.k2, .int .i64 e.k3, .slice e.s4.a e.s4.n e.s4.c, .int .i64 e.k5, .slice e.s6.a e.s6.n e.s6.c, .slice e.s7.a e.s7.n e.s7.c] 54) = W3 at hbx_ r1 HER HW3 ⊢
      obtain ⟨r4, hbel_⟩ := hbx_
      obtain ⟨n4, hn_⟩ : ∃ n, n = Wa.heap.size := ⟨_, rfl⟩
      rw [← hn_] at r4 ⊢
      clear hn_ hbel_
      have y0 : W3.cell? ⟨n4, 0, none⟩ = some (.int .i64 e.u) := r4.c 0 _ rfl
      have y1 : W3.cell? ⟨n4, 1, none⟩ = some (.int .i64 e.v) := r4.c 1 _ rfl
      have a0 : W3.cell? ⟨n1, 0, none⟩ = some (.slice m.op m.n m.cp) := r1.c 0 _ rfl
      have a1 : W3.cell? ⟨n1, 1, none⟩ = some (.slice (some ⟨be, offe, none⟩) m.es.length m.ce) := by rw [← HOE.out]; exact r1.c 1 _ rfl
      have l4 := r4.lt
      have l1 := r1.lt
      clear r4 r1
      by_cases q0 : e.u < 0
      · have d0 : decide (e.u < 0) = true := decide_eq_true q0
        have HNO : Hid (¬ WFo m) := Lib.hid fun h => by have := (h.ed k e HEk.out).1; omega
        clear q0
        go_wp2_with fail
        go_ret
        exact verP_no HNO.out (below_call HB.out HW3.out)
      · have d0 : decide (e.u < 0) = false := decide_eq_false q0
        by_cases q1 : e.u ≥ e.v
        · have d1 : decide (e.u ≥ e.v) = true := decide_eq_true q1
          have HNO : Hid (¬ WFo m) := Lib.hid fun h => by have := (h.ed k e HEk.out).2.1; omega
          clear q0 q1
          go_wp2_with fail
          go_ret
          exact verP_no HNO.out (below_call HB.out HW3.out)
        · have d1 : decide (e.u ≥ e.v) = false := decide_eq_false q1
          by_cases q2 : e.v ≥ (m.n : Int)
          · have d2 : decide (e.v ≥ (m.n : Int)) = true := decide_eq_true q2
            have HNO : Hid (¬ WFo m) := Lib.hid fun h => by have := (h.ed k e HEk.out).2.2; omega
            clear q0 q1 q2
            go_wp2_with fail
            go_ret
            exact verP_no HNO.out (below_call HB.out HW3.out)
          · have d2 : decide (e.v ≥ (m.n : Int)) = false := decide_eq_false q2
            have HOK : Hid (okU m.n e) := Lib.hid ⟨by omega, by omega, by omega⟩
            clear q0 q1 q2
            go_upto_region 7 with fail
            clear d0 d1 d2
            have lbe := HER.out.lt
            rcases Nat.eq_zero_or_pos k with hk0 | hk0
            · subst hk0
              have HTN : Hid (WFoTo m 1) := Lib.hid (HTO.out.next HEk.out HOK.out (fun p h => absurd rfl h))
              have d0 : decide (((0 : Nat) : Int) > 0) = false := by simp
              go_quiet (fail)
              have HW4 := Lib.hid (below_call HW3.out (below_drew W3 nq))
              clear y0 y1 a0 a1 l4 l1 lbe
              generalize W3.drewN nq = V at HW4 ⊢
              go_wp2
              go_roundw
              case rel => exact ⟨1, by simp, by omega, HW4.out, HTN.out⟩
              case measure => simp [intOf]; omega
            · obtain ⟨j, rfl⟩ : ∃ j, k = j + 1 := ⟨k - 1, by omega⟩
              obtain ⟨f, hf⟩ : ∃ f, m.es[j]? = some f := ⟨_, List.getElem?_eq_getElem (by omega)⟩
              have z0 : W3.cell? ⟨be, offe + j * 12, none⟩ = some (.int .i64 f.u) := HER.out.c j _ (map_get hf) 0 _ rfl
              have z1 : W3.cell? ⟨be, offe + j * 12 + 1, none⟩ = some (.int .i64 f.v) := HER.out.c j _ (map_get hf) 1 _ rfl
              have HTN : Hid (ascE f e → WFoTo m (j + 1 + 1)) := Lib.hid fun h => HTO.out.next HEk.out HOK.out fun p _ hp => by
                rw [Nat.add_sub_cancel, hf] at hp; injection hp with hp; subst hp; exact h
              have HNA : Hid (¬ ascE f e → ¬ WFo m) := Lib.hid fun h hwf => h (hwf.asc j f e hf HEk.out)
              have hc : ((j + 1 : Nat) : Int) = (j : Int) + 1 := by simp
              rw [hc]
              have d0 : decide ((j : Int) + 1 > 0) = true := decide_eq_true (by omega)
              have hw1 : IntKind.i64.wrap ((j : Int) + 1 - 1) = (j : Int) := by rw [IntWalk.i64_in _ (by omega)]; omega
              have hw2 : IntKind.i64.wrap (j : Int) = (j : Int) := IntWalk.i64_in _ (by omega)
              have hji : (j : Int) < (m.es.length : Int) := by omega
              clear hf
              by_cases q3 : f.u > e.u
              · have d1 : decide (f.u > e.u) = true := decide_eq_true q3
                have HNO : Hid (¬ WFo m) := Lib.hid (HNA.out (fun h => by unfold ascE at h; omega))
                clear q3
                go_quiet (fail)
                have HQQ := Lib.hid (below_call (below_call HB.out HW3.out) (below_drew W3 nq))
                generalize W3.drewN nq = V at HQQ ⊢
                go_wp2
                go_ret
                exact verP_no HNO.out HQQ.out
              · have d1 : decide (f.u > e.u) = false := decide_eq_false q3
                by_cases q4 : f.u = e.u
                · have d2 := int_beq f.u e.u
                  rw [decide_eq_true q4] at d2
                  by_cases q5 : f.v ≥ e.v
                  · have d3 : decide (f.v ≥ e.v) = true := decide_eq_true q5
                    have HNO : Hid (¬ WFo m) := Lib.hid (HNA.out (fun h => by unfold ascE at h; omega))
                    clear q3 q4 q5
                    go_quiet (fail)
                    have HQQ := Lib.hid (below_call (below_call HB.out HW3.out) (below_drew W3 nq))
                    generalize W3.drewN nq = V at HQQ ⊢
                    go_wp2
                    go_ret
                    exact verP_no HNO.out HQQ.out
                  · have d3 : decide (f.v ≥ e.v) = false := decide_eq_false q5
                    have HTN2 := Lib.hid (HTN.out (by unfold ascE; omega))
                    clear q3 q4 q5
                    go_quiet (fail)
                    have HW4 := Lib.hid (below_call HW3.out (below_drew W3 nq))
                    clear y0 y1 a0 a1 l4 l1 lbe
                    generalize W3.drewN nq = V at HW4 ⊢
                    go_wp2
                    go_roundw
                    case rel => exact ⟨j + 1 + 1, by simp, by omega, HW4.out, HTN2.out⟩
                    case measure => simp [intOf]; omega
                · have d2 := int_beq f.u e.u
                  rw [decide_eq_false q4] at d2
                  have HTN2 := Lib.hid (HTN.out (by unfold ascE; omega))
                  clear q3 q4
                  go_quiet (fail)
                  have HW4 := Lib.hid (below_call HW3.out (below_drew W3 nq))
                  clear y0 y1 a0 a1 l4 l1 lbe
                  generalize W3.drewN nq = V at HW4 ⊢
                  go_wp2
                  go_roundw
                  case rel => exact ⟨j + 1 + 1, by simp, by omega, HW4.out, HTN2.out⟩
                  case measure => simp [intOf]; omega
    · have a0 := r1.c 0 _ rfl
      have a1 := r1.c 1 _ rfl
      have l1 := r1.lt
      have hkl : k = m.es.length := by omega
      have HWF : Hid (WFo m) := Lib.hid (by have := HTO.out; rw [hkl] at this; exact this.all)
      have d1 : decide ((m.n : Int) ≤ 1024) = true := decide_eq_true (by omega)
      have d2 : decide ((m.es.length : Int) ≤ 8192) = true := decide_eq_true (by omega)
      have HW := Lib.hid (below_call HB.out hW)
      clear r1 hW hkl
      go_wp2
      go_ret
      exact verP_yes HWF.out HW.out
set_option maxRecDepth 100000 in
set_option maxHeartbeats 4000000 in
theorem formed_raw (m : Rm) (w : World) (hn2 : m.n ≤ 1000) (hlen : m.es.length ≤ 1000) (hE : Sl w m.oe 12 (m.es.map Er.vals)) :
    Calls Try.prog 60 #[.agg #[.slice m.op m.n m.cp, .slice m.oe m.es.length m.ce]] w (VerP (WF m) w) := by
  have hord := fun X => ordered_raw m X hn2 hlen
  have HORD := Lib.hid hord
  clear hord
  go_enter Try.func60, Try.ntmps60
  go_upto_region 1 with fail
  have hbx_ := boxes1 w [.slice m.op m.n m.cp, .slice m.oe m.es.length m.ce] 43
  replace hE := hE.keep hbx_.2
  have HB := Lib.hid (hbx_.2)
  generalize w.alloc (.cells #[.slice m.op m.n m.cp, .slice m.oe m.es.length m.ce] 43) = W0 at hbx_ hE HB ⊢
  obtain ⟨r1, hbel_⟩ := hbx_
  obtain ⟨n1, hn_⟩ : ∃ n, n = w.heap.size := ⟨_, rfl⟩
  rw [← hn_] at r1 ⊢
  clear hn_ hbel_
  have HE := Lib.hid hE
  have HR1 := Lib.hid r1
  clear hE r1
  go_wp2_with fail
  go_loopw [3] (fun i W => ∃ k : Nat, i = .int .i64 (k : Nat) ∧ k ≤ m.es.length ∧ Below W0.heap.size W0 W ∧ ∀ (j : Nat) (e : Er), j < k → m.es[j]? = some e → 0 ≤ e.c ∧ e.c ≤ 1099511627776) (fun i _ => m.es.length - (intOf i).toNat)
  case atStart => exact ⟨0, rfl, Nat.zero_le _, Below.refl _ _, fun j e h => absurd h (Nat.not_lt_zero _)⟩
  case round =>
    obtain ⟨k, rfl, hk, hW, hco⟩ := hrel
    obtain ⟨Wa, rfl⟩ : ∃ X, X = wr := ⟨_, rfl⟩
    have r1 := HR1.out.keep hW
    have a0 := r1.c 0 _ rfl
    have a1 := r1.c 1 _ rfl
    have l1 := r1.lt
    have HCO := Lib.hid hco
    clear hco
    by_cases hlt : k < m.es.length
    · obtain ⟨e, he⟩ : ∃ e, m.es[k]? = some e := ⟨_, List.getElem?_eq_getElem hlt⟩
      obtain ⟨be, offe, hoe, hEr⟩ := (HE.out.keep hW) (map_ne hlt)
      rw [hoe] at a1
      have x2 : Wa.cell? ⟨be, offe + k * 12 + 2, none⟩ = some (.int .i64 e.c) := hEr.c k _ (map_get he) 2 _ rfl
      have lbe := hEr.lt
      have HW := Lib.hid hW
      have HEk := Lib.hid he
      clear hEr he hW r1 hoe
      by_cases q1 : e.c < 0
      · have d1 : decide (e.c < 0) = true := decide_eq_true q1
        have HNO : Hid (¬ WF m) := Lib.hid fun h => by have := (h.ed k e HEk.out).2.2.2.1; omega
        clear q1
        go_wp2_with fail
        go_ret
        exact verP_no HNO.out (below_call HB.out HW.out)
      · have d1 : decide (e.c < 0) = false := decide_eq_false q1
        by_cases q2 : e.c > 1099511627776
        · have d2 : decide (e.c > 1099511627776) = true := decide_eq_true q2
          have HNO : Hid (¬ WF m) := Lib.hid fun h => by have := (h.ed k e HEk.out).2.2.2.2; omega
          clear q1 q2
          go_wp2_with fail
          go_ret
          exact verP_no HNO.out (below_call HB.out HW.out)
        · have d2 : decide (e.c > 1099511627776) = false := decide_eq_false q2
          have HCN : Hid (∀ (j : Nat) (e : Er), j < k + 1 → m.es[j]? = some e → 0 ≤ e.c ∧ e.c ≤ 1099511627776) := Lib.hid fun j f hj hf => by
            rcases Nat.lt_or_ge j k with h1 | h1
            · exact HCO.out j f h1 hf
            · have : j = k := by omega
              subst this
              rw [HEk.out] at hf; injection hf with hf; subst hf
              exact ⟨by omega, by omega⟩
          clear q1 q2
          go_wp2_with fail
          go_roundw
          case rel => exact ⟨k + 1, by simp, by omega, HW.out, HCN.out⟩
          case measure => simp [intOf]; omega
    · have hkl : k = m.es.length := by omega
      have HWI : Hid (WFo m ↔ WF m) := Lib.hid (wf_iff fun j e he => HCO.out j e (by rw [hkl]; exact (List.getElem?_eq_some_iff.1 he).1) he)
      have ho := HORD.out Wa (HE.out.keep hW)
      have HO := Lib.hid ho
      have HW := Lib.hid (below_call HB.out hW)
      clear r1 hW ho hkl
      go_wp2_with fail
      refine HO.out.mono ?_
      rintro e X ⟨b, rfl, hbi, hb⟩
      have HBI := Lib.hid hbi
      have HX := Lib.hid (below_call HW.out hb)
      clear hbi hb
      go_wp2_with fail
      go_ret
      exact ⟨b, rfl, HBI.out.trans HWI.out, HX.out⟩
end Go.Proofs.Jn
end

section
/-
  Arbitrary moves over roadmaps in order: legal, ref.Legal.
-/
namespace Go.Proofs.Jn
open Go.RowKit Go.Shelf

/-- A move, whatever its numbers. -/
structure Rv where
  arm : Int
  x : Int
  y : Int
def Rv.vals (m : Rv) : List Value := [.int .i64 m.arm, .int .i64 m.x, .int .i64 m.y]
/-- A move whose numbers are in their ranges. -/
def InI (ms : List Mp) (a : Rv) : Prop := ∃ m, 0 ≤ a.arm ∧ ms[a.arm.toNat]? = some m ∧ 0 ≤ a.x ∧ a.x < (m.n : Int) ∧ 0 ≤ a.y ∧ a.y < (m.n : Int)
def Rv.nat (a : Rv) : Mv := ⟨a.arm.toNat, a.x.toNat, a.y.toNat⟩
def LegI (ms : List Mp) (a : Rv) : Prop := InI ms a ∧ legB ⟨ms, []⟩ a.nat = true
set_option maxRecDepth 100000 in
set_option maxHeartbeats 4000000 in
theorem legal_gen (om oc : Option Addr) (cm cc lc : Nat) (ms : List Mp) (m : Mp) (a : Mv) (w : World) (hl : ms.length ≤ 100) (hm : ms[a.arm]? = some m) (hx : a.x < m.n) (hy : a.y < m.n) (ho : MapOk m) (hms : Sl w om 2 (ms.map Mp.vals)) (hes : Sl w m.oe 12 (m.es.map Ed.vals)) :
    Calls Try.prog 54 #[.agg #[.slice om ms.length cm, .slice oc lc cc], .agg #[.int .i64 (a.arm : Nat), .int .i64 (a.x : Nat), .int .i64 (a.y : Nat)], .func (.func 55) #[] #[]] w (BoolP (decide (a.x = a.y) || edgeB m.es a.x a.y) w) := by
  have hlt : a.arm < ms.length := (List.getElem?_eq_some_iff.1 hm).1
  have hn := ho.n2
  have hel := ho.len
  go_enter Try.func54, Try.ntmps54
  go_upto_region 1 with fail
  have hbx := boxes2 w [.slice om ms.length cm, .slice oc lc cc] [.int .i64 (a.arm : Nat), .int .i64 (a.x : Nat), .int .i64 (a.y : Nat)] 26 65
  have hms' := hms.keep hbx.2.2
  have hes' := hes.keep hbx.2.2
  clear hms hes
  generalize (w.alloc (.cells #[.slice om ms.length cm, .slice oc lc cc] 26)).alloc (.cells #[.int .i64 (a.arm : Nat), .int .i64 (a.x : Nat), .int .i64 (a.y : Nat)] 65) = W0 at hbx hms' hes' ⊢
  obtain ⟨r3, r4, hB0⟩ := hbx
  generalize w.heap.size + 1 = n4 at r4 ⊢
  obtain ⟨n3, hn3⟩ : ∃ n, n = w.heap.size := ⟨_, rfl⟩
  rw [← hn3] at r3 ⊢
  clear hn3
  have a0 : W0.cell? ⟨n3, 0, none⟩ = some (.slice om ms.length cm) := r3.c 0 _ rfl
  have a1 : W0.cell? ⟨n4, 0, none⟩ = some (.int .i64 (a.arm : Nat)) := r4.c 0 _ rfl
  have a2 : W0.cell? ⟨n4, 1, none⟩ = some (.int .i64 (a.x : Nat)) := r4.c 1 _ rfl
  have a3 : W0.cell? ⟨n4, 2, none⟩ = some (.int .i64 (a.y : Nat)) := r4.c 2 _ rfl
  have l3 := r3.lt
  have l4 := r4.lt
  obtain ⟨bm, offm, rfl, hMr⟩ := hms' (map_ne hlt)
  have x0 : W0.cell? ⟨bm, offm + a.arm * 2, none⟩ = some (.slice m.op m.n m.cp) := hMr.c _ _ (map_get hm) 0 _ rfl
  have x1 : W0.cell? ⟨bm, offm + a.arm * 2 + 1, none⟩ = some (.slice m.oe m.es.length m.ce) := hMr.c _ _ (map_get hm) 1 _ rfl
  have lm := hMr.lt
  have HE := Lib.hid hes'
  clear hMr hms' hm hes' r3 r4
  have e0 : ((a.x : Int) == (a.y : Int)) = decide (a.x = a.y) := nat_beq _ _
  by_cases hxy : a.x = a.y
  · rw [decide_eq_true hxy] at e0
    have HX := Lib.hid hxy
    clear hxy
    go_upto_region 6 with fail
    go_quiet (fail)
    have HB := Lib.hid (below_call hB0 (below_drew W0 nq))
    generalize W0.drewN nq = V at HB ⊢
    go_wp2
    go_ret
    exact boolP_mk (by rw [decide_eq_true HX.out]; rfl) HB.out
  · rw [decide_eq_false hxy] at e0
    have HX := Lib.hid hxy
    clear hxy
    go_upto_region 6 with fail
    go_region_held3 (fun W => W.cell? ⟨n3, 0, none⟩ = some (.slice (some ⟨bm, offm, none⟩) ms.length cm) ∧ W.cell? ⟨n4, 0, none⟩ = some (.int .i64 (a.arm : Nat)) ∧ W.cell? ⟨n4, 1, none⟩ = some (.int .i64 (a.x : Nat)) ∧ W.cell? ⟨n4, 2, none⟩ = some (.int .i64 (a.y : Nat)) ∧ W.cell? ⟨bm, offm + a.arm * 2 + 1, none⟩ = some (.slice m.oe m.es.length m.ce) ∧ Below W0.heap.size W0 W)
      (first
        | exact keep5 l3 l4 lm ⟨a0, a1, a2, a3, x1, Below.refl _ _⟩ (Below.refl _ _).drew
        | exact keep5 l3 l4 lm (by assumption) (by assumption)
        | exact keep5 l3 l4 lm (by assumption) (Below.refl _ _).drew)
      (first
        | (go_at_call 55; refine (search_edge m a.x a.y _ ho (HE.out.keep (by first | exact (Below.refl _ _).drew | assumption | exact (by assumption : _ ∧ _ ∧ _ ∧ _ ∧ _ ∧ Below W0.heap.size W0 _).2.2.2.2.2))).mono ?_; rintro e X1 ⟨rfl, hb1⟩; have HB1 := Lib.hid (below_call (Below.refl _ _).drew hb1)))
    all_goals
      go_wp2
      go_ret
      exact boolP_mk (by rw [decide_eq_false HX.out]; rfl) (below_call hB0 HB1.out)
set_option maxRecDepth 100000 in
set_option maxHeartbeats 4000000 in
theorem refLegal_gen (om oc : Option Addr) (cm cc lc : Nat) (ms : List Mp) (m : Mp) (a : Mv) (w : World) (hl : ms.length ≤ 100) (hm : ms[a.arm]? = some m) (hx : a.x < m.n) (hy : a.y < m.n) (hn : m.n ≤ 1000) (he : m.es.length ≤ 1000) (hms : Sl w om 2 (ms.map Mp.vals)) (hes : Sl w m.oe 12 (m.es.map Ed.vals)) :
    Calls Try.prog 23 #[.agg #[.slice om ms.length cm, .slice oc lc cc], .agg #[.int .i64 (a.arm : Nat), .int .i64 (a.x : Nat), .int .i64 (a.y : Nat)]] w (BoolP (edgeB m.es a.x a.y || decide (a.x = a.y)) w) := by
  have hlt : a.arm < ms.length := (List.getElem?_eq_some_iff.1 hm).1
  go_enter Try.func23, Try.ntmps23
  go_upto_region 1 with fail
  have hbx := boxes2 w [.slice om ms.length cm, .slice oc lc cc] [.int .i64 (a.arm : Nat), .int .i64 (a.x : Nat), .int .i64 (a.y : Nat)] 26 65
  have hms' := hms.keep hbx.2.2
  have hes' := hes.keep hbx.2.2
  clear hms hes
  generalize (w.alloc (.cells #[.slice om ms.length cm, .slice oc lc cc] 26)).alloc (.cells #[.int .i64 (a.arm : Nat), .int .i64 (a.x : Nat), .int .i64 (a.y : Nat)] 65) = W0 at hbx hms' hes' ⊢
  obtain ⟨r2, r3, hB0⟩ := hbx
  generalize w.heap.size + 1 = n3 at r3 ⊢
  obtain ⟨n2, hn2⟩ : ∃ n, n = w.heap.size := ⟨_, rfl⟩
  rw [← hn2] at r2 ⊢
  clear hn2
  have a0 : W0.cell? ⟨n2, 0, none⟩ = some (.slice om ms.length cm) := r2.c 0 _ rfl
  have a1 : W0.cell? ⟨n3, 0, none⟩ = some (.int .i64 (a.arm : Nat)) := r3.c 0 _ rfl
  have a2 : W0.cell? ⟨n3, 1, none⟩ = some (.int .i64 (a.x : Nat)) := r3.c 1 _ rfl
  have a3 : W0.cell? ⟨n3, 2, none⟩ = some (.int .i64 (a.y : Nat)) := r3.c 2 _ rfl
  have l2 := r2.lt
  have l3 := r3.lt
  obtain ⟨bm, offm, rfl, hMr⟩ := hms' (map_ne hlt)
  have x0 : W0.cell? ⟨bm, offm + a.arm * 2, none⟩ = some (.slice m.op m.n m.cp) := hMr.c _ _ (map_get hm) 0 _ rfl
  have x1 : W0.cell? ⟨bm, offm + a.arm * 2 + 1, none⟩ = some (.slice m.oe m.es.length m.ce) := hMr.c _ _ (map_get hm) 1 _ rfl
  clear hMr hms' hm
  go_upto_region 6 with fail
  have hb5 := boxes1 W0 [.slice m.op m.n m.cp, .slice m.oe m.es.length m.ce] 43
  have hes1 := hes'.keep hb5.2
  have r3' := r3.keep hb5.2
  clear hes' a0 a1 a2 a3 l2 l3 x0 x1 r2 r3
  generalize W0.alloc (.cells #[.slice m.op m.n m.cp, .slice m.oe m.es.length m.ce] 43) = W1 at hb5 hes1 r3' ⊢
  obtain ⟨r5, hB1⟩ := hb5
  generalize W0.heap.size = n5 at r5 ⊢
  have HB := Lib.hid (below_call hB0 hB1)
  clear hB0 hB1
  go_wp2_with fail
  go_loopw [6] (fun i W => ∃ k : Nat, k ≤ m.es.length ∧ i = .int .i64 k ∧ Below W1.heap.size W1 W ∧ edgeB (m.es.take k) a.x a.y = false) (fun i _ => m.es.length - (intOf i).toNat)
  case atStart => exact ⟨0, by omega, rfl, Below.refl _ _, rfl⟩
  case round =>
    obtain ⟨k, hk, rfl, hW, hF⟩ := hrel
    have R3 := r3'.keep hW
    have R5 := r5.keep hW
    have s1 : wr.cell? ⟨n5, 1, none⟩ = some (.slice m.oe m.es.length m.ce) := R5.c 1 _ rfl
    have l5 := R5.lt
    have a2 : wr.cell? ⟨n3, 1, none⟩ = some (.int .i64 (a.x : Nat)) := R3.c 1 _ rfl
    have a3 : wr.cell? ⟨n3, 2, none⟩ = some (.int .i64 (a.y : Nat)) := R3.c 2 _ rfl
    have l3 := R3.lt
    have HW := Lib.hid (below_call HB.out hW)
    have HF := Lib.hid hF
    clear hF
    by_cases hlt : k < m.es.length
    · obtain ⟨c, hc'⟩ : ∃ r, m.es[k]? = some r := ⟨_, List.getElem?_eq_getElem hlt⟩
      obtain ⟨bc, offc, hoe, hCr⟩ := hes1 (map_ne hlt)
      rw [hoe] at s1
      have hCr' := hCr.keep hW
      have x0 : wr.cell? ⟨bc, offc + k * 12, none⟩ = some (.int .i64 (c.u : Nat)) := hCr'.c k _ (map_get hc') 0 _ rfl
      have x1 : wr.cell? ⟨bc, offc + k * 12 + 1, none⟩ = some (.int .i64 (c.v : Nat)) := hCr'.c k _ (map_get hc') 1 _ rfl
      have x3 : wr.cell? ⟨bc, offc + k * 12 + 3, none⟩ = some (.int .i64 c.st) := hCr'.c k _ (map_get hc') 3 _ rfl
      have hst := edgeB_step HF.out hc'
      have HST := Lib.hid hst
      have hW' := hW
      clear hCr hCr' hes1 hW R3 R5 r3' r5 hc' hst
      have e1 : ((c.u : Int) == min (a.x : Int) (a.y : Int)) = decide (c.u = min a.x a.y) := min_beq _ _ _
      have e2 : ((c.v : Int) == max (a.x : Int) (a.y : Int)) = decide (c.v = max a.x a.y) := max_beq _ _ _
      have e3 : ((c.st : Int) == 1) = decide (c.st = 1) := int_beq _ _
      by_cases h1 : c.u = min a.x a.y
      · rw [decide_eq_true h1] at e1 HST
        by_cases h2 : c.v = max a.x a.y
        · rw [decide_eq_true h2] at e2 HST
          cases h3 : decide (c.st = 1) <;> rw [h3] at e3 HST <;> clear h1 h2 h3
          · go_wp2_with fail
            go_quiet (fail)
            have hB := below_call hW' (below_drew wr nq)
            clear x0 x1 x3 s1 a2 a3 l3 l5
            generalize wr.drewN nq = V at hB ⊢
            have HV := Lib.hid hB
            go_wp2
            go_roundw
            case rel => exact ⟨k + 1, by omega, by simp, HV.out, HST.out⟩
            case measure => simp [intOf]; omega
          · go_wp2_with fail
            go_quiet (fail)
            have hB := below_call HW.out (below_drew wr nq)
            clear x0 x1 x3 s1 a2 a3 l3 l5
            generalize wr.drewN nq = V at hB ⊢
            have HV := Lib.hid hB
            go_wp2
            go_ret
            refine boolP_mk ?_ HV.out
            rw [edgeB_some HST.out]
            rfl
        · rw [decide_eq_false h2] at e2 HST
          clear h1 h2
          go_wp2_with fail
          go_quiet (fail)
          have hB := below_call hW' (below_drew wr nq)
          clear x0 x1 x3 s1 a2 a3 l3 l5
          generalize wr.drewN nq = V at hB ⊢
          have HV := Lib.hid hB
          go_wp2
          go_roundw
          case rel => exact ⟨k + 1, by omega, by simp, HV.out, HST.out⟩
          case measure => simp [intOf]; omega
      · rw [decide_eq_false h1] at e1 HST
        clear h1
        go_wp2_with fail
        go_quiet (fail)
        have hB := below_call hW' (below_drew wr nq)
        clear x0 x1 x3 s1 a2 a3 l3 l5
        generalize wr.drewN nq = V at hB ⊢
        have HV := Lib.hid hB
        go_wp2
        go_roundw
        case rel => exact ⟨k + 1, by omega, by simp, HV.out, HST.out⟩
        case measure => simp [intOf]; omega
    · have e0 : ((a.x : Int) == (a.y : Int)) = decide (a.x = a.y) := nat_beq _ _
      go_wp2
      go_ret
      refine boolP_mk ?_ HW.out
      have h := HF.out
      rw [List.take_of_length_le (by omega)] at h
      rw [h]
      simp
set_option maxRecDepth 100000 in
set_option maxHeartbeats 4000000 in
theorem legal_out (P : Prop) (hP : ¬ P) (om oc : Option Addr) (cm cc lc : Nat) (ms : List Mp) (a : Rv) (w : World) (hl : ms.length ≤ 100) (hn : ∀ m ∈ ms, m.n ≤ 1000) (hin : ¬ InI ms a) (hms : Sl w om 2 (ms.map Mp.vals)) :
    Calls Try.prog 54 #[.agg #[.slice om ms.length cm, .slice oc lc cc], .agg #[.int .i64 a.arm, .int .i64 a.x, .int .i64 a.y], .func (.func 55) #[] #[]] w (VerP P w) := by
  have HNO := Lib.hid hP
  have HNN := Lib.hid hn
  obtain ⟨ar, x, y⟩ := a
  have HIN := Lib.hid hin
  clear hP hin hn
  dsimp only
  go_enter Try.func54, Try.ntmps54
  go_upto_region 1 with fail
  have hbx_ := boxes2 w [.slice om ms.length cm, .slice oc lc cc] [.int .i64 ar, .int .i64 x, .int .i64 y] 26 65
  replace hms := hms.keep hbx_.2.2
  have HB := Lib.hid (hbx_.2.2)
  generalize (w.alloc (.cells #[.slice om ms.length cm, .slice oc lc cc] 26)).alloc (.cells #[.int .i64 ar, .int .i64 x, .int .i64 y] 65) = W0 at hbx_ hms HB ⊢
  obtain ⟨r3, r4, hbel_⟩ := hbx_
  generalize w.heap.size + 1 = n4 at r4  ⊢
  obtain ⟨n3, hn_⟩ : ∃ n, n = w.heap.size := ⟨_, rfl⟩
  rw [← hn_] at r3 ⊢
  clear hn_ hbel_
  have HMS := Lib.hid hms
  have a0 : W0.cell? ⟨n3, 0, none⟩ = some (.slice om ms.length cm) := r3.c 0 _ rfl
  have b0 : W0.cell? ⟨n4, 0, none⟩ = some (.int .i64 ar) := r4.c 0 _ rfl
  have b1 : W0.cell? ⟨n4, 1, none⟩ = some (.int .i64 x) := r4.c 1 _ rfl
  have b2 : W0.cell? ⟨n4, 2, none⟩ = some (.int .i64 y) := r4.c 2 _ rfl
  have l3 := r3.lt
  have l4 := r4.lt
  clear hms r3 r4
  by_cases q0 : ar < 0
  · have d0 : decide (ar < 0) = true := decide_eq_true q0
    clear q0
    go_wp2_with fail
    go_ret
    exact verP_no HNO.out HB.out
  · have d0 : decide (ar < 0) = false := decide_eq_false q0
    by_cases q1 : ar ≥ (ms.length : Int)
    · have d1 : decide (ar ≥ (ms.length : Int)) = true := decide_eq_true q1
      clear q0 q1
      go_wp2_with fail
      go_ret
      exact verP_no HNO.out HB.out
    · have d1 : decide (ar ≥ (ms.length : Int)) = false := decide_eq_false q1
      obtain ⟨k, rfl⟩ : ∃ k : Nat, ar = (k : Int) := ⟨ar.toNat, by omega⟩
      have hlt : k < ms.length := by omega
      obtain ⟨m, hm⟩ : ∃ m, ms[k]? = some m := ⟨_, List.getElem?_eq_getElem hlt⟩
      obtain ⟨bm, offm, hom, hMr⟩ := HMS.out (map_ne hlt)
      rw [hom] at a0
      have x0 : W0.cell? ⟨bm, offm + k * 2, none⟩ = some (.slice m.op m.n m.cp) := hMr.c k _ (map_get hm) 0 _ rfl
      have x1 : W0.cell? ⟨bm, offm + k * 2 + 1, none⟩ = some (.slice m.oe m.es.length m.ce) := hMr.c k _ (map_get hm) 1 _ rfl
      have lm := hMr.lt
      have HM := Lib.hid hm
      clear hom hMr hm q0 q1
      go_upto_region 4 with fail
      clear d0 d1 x0 x1 lm
      skip
      by_cases q2 : x < 0
      · have d2 : decide (x < 0) = true := decide_eq_true q2
        clear q2
        go_wp2_with fail
        go_ret
        exact verP_no HNO.out HB.out
      · have d2 : decide (x < 0) = false := decide_eq_false q2
        by_cases q3 : x ≥ (m.n : Int)
        · have d3 : decide (x ≥ (m.n : Int)) = true := decide_eq_true q3
          clear q2 q3
          go_wp2_with fail
          go_ret
          exact verP_no HNO.out HB.out
        · have d3 : decide (x ≥ (m.n : Int)) = false := decide_eq_false q3
          by_cases q4 : y < 0
          · have d4 : decide (y < 0) = true := decide_eq_true q4
            clear q2 q3 q4
            go_wp2_with fail
            go_ret
            exact verP_no HNO.out HB.out
          · have d4 : decide (y < 0) = false := decide_eq_false q4
            by_cases q5 : y ≥ (m.n : Int)
            · have d5 : decide (y ≥ (m.n : Int)) = true := decide_eq_true q5
              clear q2 q3 q4 q5
              go_wp2_with fail
              go_ret
              exact verP_no HNO.out HB.out
            · exact absurd ⟨m, by dsimp only; omega, HM.out, by dsimp only; omega, by dsimp only; omega, by dsimp only; omega, by dsimp only; omega⟩ HIN.out
set_option maxRecDepth 100000 in
set_option maxHeartbeats 4000000 in
theorem refLegal_out (P : Prop) (hP : ¬ P) (om oc : Option Addr) (cm cc lc : Nat) (ms : List Mp) (a : Rv) (w : World) (hl : ms.length ≤ 100) (hn : ∀ m ∈ ms, m.n ≤ 1000) (hin : ¬ InI ms a) (hms : Sl w om 2 (ms.map Mp.vals)) :
    Calls Try.prog 23 #[.agg #[.slice om ms.length cm, .slice oc lc cc], .agg #[.int .i64 a.arm, .int .i64 a.x, .int .i64 a.y]] w (VerP P w) := by
  have HNO := Lib.hid hP
  have HNN := Lib.hid hn
  obtain ⟨ar, x, y⟩ := a
  have HIN := Lib.hid hin
  clear hP hin hn
  dsimp only
  go_enter Try.func23, Try.ntmps23
  go_upto_region 1 with fail
  have hbx_ := boxes2 w [.slice om ms.length cm, .slice oc lc cc] [.int .i64 ar, .int .i64 x, .int .i64 y] 26 65
  replace hms := hms.keep hbx_.2.2
  have HB0 := Lib.hid (hbx_.2.2)
  generalize (w.alloc (.cells #[.slice om ms.length cm, .slice oc lc cc] 26)).alloc (.cells #[.int .i64 ar, .int .i64 x, .int .i64 y] 65) = W0 at hbx_ hms HB0 ⊢
  obtain ⟨r3, r4, hbel_⟩ := hbx_
  generalize w.heap.size + 1 = n4 at r4  ⊢
  obtain ⟨n3, hn_⟩ : ∃ n, n = w.heap.size := ⟨_, rfl⟩
  rw [← hn_] at r3 ⊢
  clear hn_ hbel_
  have HB := HB0
  have HMS := Lib.hid hms
  have HR4 := Lib.hid r4
  have a0 : W0.cell? ⟨n3, 0, none⟩ = some (.slice om ms.length cm) := r3.c 0 _ rfl
  have b0 : W0.cell? ⟨n4, 0, none⟩ = some (.int .i64 ar) := r4.c 0 _ rfl
  have b1 : W0.cell? ⟨n4, 1, none⟩ = some (.int .i64 x) := r4.c 1 _ rfl
  have b2 : W0.cell? ⟨n4, 2, none⟩ = some (.int .i64 y) := r4.c 2 _ rfl
  have l3 := r3.lt
  have l4 := r4.lt
  clear hms r3 r4
  by_cases q0 : ar < 0
  · have d0 : decide (ar < 0) = true := decide_eq_true q0
    clear q0
    go_wp2_with fail
    go_ret
    exact verP_no HNO.out HB.out
  · have d0 : decide (ar < 0) = false := decide_eq_false q0
    by_cases q1 : ar ≥ (ms.length : Int)
    · have d1 : decide (ar ≥ (ms.length : Int)) = true := decide_eq_true q1
      clear q0 q1
      go_wp2_with fail
      go_ret
      exact verP_no HNO.out HB.out
    · have d1 : decide (ar ≥ (ms.length : Int)) = false := decide_eq_false q1
      obtain ⟨k, rfl⟩ : ∃ k : Nat, ar = (k : Int) := ⟨ar.toNat, by omega⟩
      have hlt : k < ms.length := by omega
      obtain ⟨m, hm⟩ : ∃ m, ms[k]? = some m := ⟨_, List.getElem?_eq_getElem hlt⟩
      obtain ⟨bm, offm, hom, hMr⟩ := HMS.out (map_ne hlt)
      rw [hom] at a0
      have x0 : W0.cell? ⟨bm, offm + k * 2, none⟩ = some (.slice m.op m.n m.cp) := hMr.c k _ (map_get hm) 0 _ rfl
      have x1 : W0.cell? ⟨bm, offm + k * 2 + 1, none⟩ = some (.slice m.oe m.es.length m.ce) := hMr.c k _ (map_get hm) 1 _ rfl
      have lm := hMr.lt
      have HM := Lib.hid hm
      clear hom hMr hm q0 q1
      go_upto_region 4 with fail
      clear d0 d1 x0 x1 lm
      clear a0 b0 b1 b2 l3 l4
      have hbx_ := boxes1 W0 [.slice m.op m.n m.cp, .slice m.oe m.es.length m.ce] 43
      replace HR4 := Lib.hid (HR4.out.keep hbx_.2)
      have HBB := Lib.hid (below_call HB0.out (hbx_.2))
      generalize W0.alloc (.cells #[.slice m.op m.n m.cp, .slice m.oe m.es.length m.ce] 43) = W1 at hbx_ HR4 HBB ⊢
      obtain ⟨r5, hbel_⟩ := hbx_
      obtain ⟨n5, hn_⟩ : ∃ n, n = W0.heap.size := ⟨_, rfl⟩
      rw [← hn_] at r5 ⊢
      clear hn_ hbel_
      clear HB
      have HB := HBB
      have x0 : W1.cell? ⟨n5, 0, none⟩ = some (.slice m.op m.n m.cp) := r5.c 0 _ rfl
      have b1 : W1.cell? ⟨n4, 1, none⟩ = some (.int .i64 x) := HR4.out.c 1 _ rfl
      have b2 : W1.cell? ⟨n4, 2, none⟩ = some (.int .i64 y) := HR4.out.c 2 _ rfl
      have l4 := HR4.out.lt
      have l5 := r5.lt
      clear r5
      by_cases q2 : x < 0
      · have d2 : decide (x < 0) = true := decide_eq_true q2
        clear q2
        go_wp2_with fail
        go_ret
        exact verP_no HNO.out HB.out
      · have d2 : decide (x < 0) = false := decide_eq_false q2
        by_cases q3 : x ≥ (m.n : Int)
        · have d3 : decide (x ≥ (m.n : Int)) = true := decide_eq_true q3
          clear q2 q3
          go_wp2_with fail
          go_ret
          exact verP_no HNO.out HB.out
        · have d3 : decide (x ≥ (m.n : Int)) = false := decide_eq_false q3
          by_cases q4 : y < 0
          · have d4 : decide (y < 0) = true := decide_eq_true q4
            clear q2 q3 q4
            go_wp2_with fail
            go_ret
            exact verP_no HNO.out HB.out
          · have d4 : decide (y < 0) = false := decide_eq_false q4
            by_cases q5 : y ≥ (m.n : Int)
            · have d5 : decide (y ≥ (m.n : Int)) = true := decide_eq_true q5
              clear q2 q3 q4 q5
              go_wp2_with fail
              go_ret
              exact verP_no HNO.out HB.out
            · exact absurd ⟨m, by dsimp only; omega, HM.out, by dsimp only; omega, by dsimp only; omega, by dsimp only; omega, by dsimp only; omega⟩ HIN.out
theorem mv_nat {a : Rv} {ms : List Mp} (h : InI ms a) : a.arm = ((a.arm.toNat : Nat) : Int) ∧ a.x = ((a.x.toNat : Nat) : Int) ∧ a.y = ((a.y.toNat : Nat) : Int) := by
  obtain ⟨m, h1, -, h2, -, h3, -⟩ := h
  exact ⟨by omega, by omega, by omega⟩
theorem legI_iff {ms : List Mp} {a : Rv} {m : Mp} (h : InI ms a) (hm : ms[a.arm.toNat]? = some m) : LegI ms a ↔ (decide (a.x.toNat = a.y.toNat) || edgeB m.es a.x.toNat a.y.toNat) = true := by
  obtain ⟨m', h1, h2, h3, h4, h5, h6⟩ := id h
  rw [hm] at h2
  injection h2 with h2
  subst h2
  unfold LegI legB Rv.nat
  simp only [hm, Bool.and_eq_true, decide_eq_true_eq]
  constructor
  · rintro ⟨-, -, h⟩; exact h
  · intro hh; exact ⟨h, ⟨by omega, by omega⟩, hh⟩
theorem legal_raw (om oc : Option Addr) (cm cc lc : Nat) (ms : List Mp) (a : Rv) (w : World) (hl : ms.length ≤ 100) (hn : ∀ m ∈ ms, m.n ≤ 1000) (ho : ∀ m ∈ ms, 1 ≤ m.n → MapOk m) (hms : Sl w om 2 (ms.map Mp.vals)) (hes : ∀ m ∈ ms, Sl w m.oe 12 (m.es.map Ed.vals)) :
    Calls Try.prog 54 #[.agg #[.slice om ms.length cm, .slice oc lc cc], .agg #[.int .i64 a.arm, .int .i64 a.x, .int .i64 a.y], .func (.func 55) #[] #[]] w (VerP (LegI ms a) w) := by
  by_cases hin : InI ms a
  · obtain ⟨m, h1, h2, h3, h4, h5, h6⟩ := id hin
    obtain ⟨e1, e2, e3⟩ := mv_nat hin
    have hmm := List.mem_of_getElem? h2
    have h := legal_gen om oc cm cc lc ms m a.nat w hl h2 (by show a.x.toNat < m.n; omega) (by show a.y.toNat < m.n; omega) (ho m hmm (by omega)) hms (hes m hmm)
    unfold Rv.nat at h
    rw [← e1, ← e2, ← e3] at h
    refine h.mono ?_
    rintro e W ⟨rfl, hb⟩
    exact ⟨_, rfl, (legI_iff hin h2).symm, hb⟩
  · exact legal_out _ (fun h => hin h.1) om oc cm cc lc ms a w hl hn hin hms
theorem refLegal_raw (om oc : Option Addr) (cm cc lc : Nat) (ms : List Mp) (a : Rv) (w : World) (hl : ms.length ≤ 100) (hn : ∀ m ∈ ms, m.n ≤ 1000) (he : ∀ m ∈ ms, m.es.length ≤ 1000) (hms : Sl w om 2 (ms.map Mp.vals)) (hes : ∀ m ∈ ms, Sl w m.oe 12 (m.es.map Ed.vals)) :
    Calls Try.prog 23 #[.agg #[.slice om ms.length cm, .slice oc lc cc], .agg #[.int .i64 a.arm, .int .i64 a.x, .int .i64 a.y]] w (VerP (LegI ms a) w) := by
  by_cases hin : InI ms a
  · obtain ⟨m, h1, h2, h3, h4, h5, h6⟩ := id hin
    obtain ⟨e1, e2, e3⟩ := mv_nat hin
    have hmm := List.mem_of_getElem? h2
    have h := refLegal_gen om oc cm cc lc ms m a.nat w hl h2 (by show a.x.toNat < m.n; omega) (by show a.y.toNat < m.n; omega) (hn m hmm) (he m hmm) hms (hes m hmm)
    unfold Rv.nat at h
    rw [← e1, ← e2, ← e3] at h
    refine h.mono ?_
    rintro e W ⟨rfl, hb⟩
    exact ⟨_, rfl, by rw [Bool.or_comm]; exact (legI_iff hin h2).symm, hb⟩
  · exact refLegal_out _ (fun h => hin h.1) om oc cm cc lc ms a w hl hn hin hms
end Go.Proofs.Jn
end

section
/-
  Arbitrary teams: Check, CheckTeam.
-/
namespace Go.Proofs.Jn
open Go.RowKit Go.Shelf

structure Rc where
  a : Rv
  b : Rv
def Rc.vals (c : Rc) : List Value := c.a.vals ++ c.b.vals
def toE (e : Er) : Ed := ⟨e.u.toNat, e.v.toNat, e.c, e.st, e.k0, e.s1, e.k2, e.k3, e.s4, e.k5, e.s6, e.s7⟩
def toM (m : Rm) : Mp := ⟨m.n, m.op, m.cp, m.oe, m.ce, m.es.map toE⟩
theorem toM_vals (m : Rm) : (toM m).vals = m.vals := by simp [toM, Mp.vals, Rm.vals]
theorem toM_rows (ms : List Rm) : (ms.map toM).map Mp.vals = ms.map Rm.vals := by
  rw [List.map_map]
  exact List.map_congr_left fun m _ => toM_vals m
theorem toM_edges {m : Rm} (h : WF m) : (toM m).es.map Ed.vals = m.es.map Er.vals := by
  unfold toM
  rw [List.map_map]
  refine List.map_congr_left fun e he => ?_
  obtain ⟨k, hk⟩ := List.mem_iff_getElem?.1 he
  have := h.ed k e hk
  unfold okE at this
  have e1 : ((e.u.toNat : Nat) : Int) = e.u := by omega
  have e2 : ((e.v.toNat : Nat) : Int) = e.v := by omega
  simp only [Function.comp, toE, Ed.vals, Er.vals, e1, e2]
theorem toM_ok {m : Rm} (h : WF m) (hn : m.n ≤ 1000) (hl : m.es.length ≤ 1000) (h1 : 1 ≤ m.n) : MapOk (toM m) := by
  refine ⟨h1, hn, by simpa [toM] using hl, fun e he => ?_, fun k e f he hf => ?_⟩
  · obtain ⟨e0, he0, rfl⟩ := List.mem_map.1 he
    obtain ⟨k, hk⟩ := List.mem_iff_getElem?.1 he0
    have := h.ed k e0 hk
    unfold okE at this
    simp only [toE, toM]
    omega
  · simp only [toM, List.getElem?_map, Option.map_eq_some_iff] at he hf
    obtain ⟨a, ha, rfl⟩ := he
    obtain ⟨b, hb, rfl⟩ := hf
    have h1 := h.asc k a b ha hb
    have h2 := h.ed k a ha
    have h3 := h.ed (k + 1) b hb
    unfold okE at h2 h3
    unfold ascE at h1
    simp only [toE]
    omega
/-- A team, whatever lies in it. -/
structure RawAt (W : World) (om oc : Option Addr) (ms : List Rm) (cs : List Rc) : Prop where
  rm : Sl W om 2 (ms.map Rm.vals)
  rc : Sl W oc 6 (cs.map Rc.vals)
  es : ∀ m ∈ ms, Sl W m.oe 12 (m.es.map Er.vals)
theorem RawAt.keep {w w' : World} {om oc : Option Addr} {ms : List Rm} {cs : List Rc} (h : RawAt w om oc ms cs) (hb : Below w.heap.size w w') : RawAt w' om oc ms cs :=
  ⟨h.rm.keep hb, h.rc.keep hb, fun m hm => (h.es m hm).keep hb⟩
/-- A team that is in order. -/
structure ChkI (ms : List Rm) (cs : List Rc) : Prop where
  n1 : 1 ≤ ms.length
  wf : ∀ m ∈ ms, WF m
  cf : ∀ c ∈ cs, c.a.arm ≠ c.b.arm ∧ LegI (ms.map toM) c.a ∧ LegI (ms.map toM) c.b
structure SmallR (ms : List Rm) (cs : List Rc) : Prop where
  n2 : ms.length ≤ 4
  cn : cs.length ≤ 100
  mn : ∀ m ∈ ms, m.n ≤ 1000
  me : ∀ m ∈ ms, m.es.length ≤ 1000
theorem toM_all {ms : List Rm} {P : Mp → Prop} (h : ∀ m ∈ ms, P (toM m)) : ∀ m ∈ ms.map toM, P m := fun m hm => by
  obtain ⟨m0, h0, rfl⟩ := List.mem_map.1 hm
  exact h m0 h0
theorem wf_mem {ms : List Rm} (h : ∀ (j : Nat) (m : Rm), j < ms.length → ms[j]? = some m → WF m) : ∀ m ∈ ms, WF m := fun m hm => by
  obtain ⟨j, hj⟩ := List.mem_iff_getElem?.1 hm
  exact h j m (List.getElem?_eq_some_iff.1 hj).1 hj
set_option maxRecDepth 100000 in
set_option maxHeartbeats 4000000 in
theorem check_raw (om oc : Option Addr) (cm cc : Nat) (ms : List Rm) (cs : List Rc) (w : World) (hS : SmallR ms cs) (hT : RawAt w om oc ms cs) :
    Calls Try.prog 29 #[.agg #[.slice om ms.length cm, .slice oc cs.length cc]] w (VerP (ChkI ms cs) w) := by
  have hn2 := hS.n2
  have hcn := hS.cn
  have HS := Lib.hid hS
  clear hS
  go_enter Try.func29, Try.ntmps29
  go_upto_region 1 with fail
  have hbx_ := boxes1 w [.slice om ms.length cm, .slice oc cs.length cc] 26
  replace hT := hT.keep hbx_.2
  have HB := Lib.hid (hbx_.2)
  generalize w.alloc (.cells #[.slice om ms.length cm, .slice oc cs.length cc] 26) = W0 at hbx_ hT HB ⊢
  obtain ⟨r1, hbel_⟩ := hbx_
  obtain ⟨n1, hn_⟩ : ∃ n, n = w.heap.size := ⟨_, rfl⟩
  rw [← hn_] at r1 ⊢
  clear hn_ hbel_
  have HT := Lib.hid hT
  have HR1 := Lib.hid r1
  have a0 : W0.cell? ⟨n1, 0, none⟩ = some (.slice om ms.length cm) := r1.c 0 _ rfl
  have a1 : W0.cell? ⟨n1, 1, none⟩ = some (.slice oc cs.length cc) := r1.c 1 _ rfl
  have l1 := r1.lt
  clear hT r1
  by_cases hz : ms.length < 1
  · have d1 : decide ((ms.length : Int) < 1) = true := decide_eq_true (by omega)
    have HNO : Hid (¬ ChkI ms cs) := Lib.hid fun h => by have := h.n1; omega
    clear hz
    go_wp2_with fail
    go_ret
    exact verP_no HNO.out HB.out
  · have d1 : decide ((ms.length : Int) < 1) = false := decide_eq_false (by omega)
    have d2 : decide ((ms.length : Int) > 4) = false := decide_eq_false (by omega)
    have d3 : decide ((cs.length : Int) > 4096) = false := decide_eq_false (by omega)
    have HN1 : Hid (1 ≤ ms.length) := Lib.hid (by omega)
    clear hz
    go_wp2_with fail
    clear a0 a1 l1 d1 d2 d3
    go_loopw [26] (fun i W => ∃ k : Nat, k ≤ ms.length ∧ i = .int .i64 (k : Nat) ∧ Below W0.heap.size W0 W ∧ ∀ (j : Nat) (m : Rm), j < k → ms[j]? = some m → WF m) (fun i _ => ms.length - (intOf i).toNat)
    case atStart => exact ⟨0, Nat.zero_le _, rfl, Below.refl _ _, fun j m h => absurd h (Nat.not_lt_zero _)⟩
    case round =>
      obtain ⟨k, hk, rfl, hW, hto⟩ := hrel
      obtain ⟨Wa, rfl⟩ : ∃ X, X = wr := ⟨_, rfl⟩
      have HTO := Lib.hid hto
      have HW := Lib.hid hW
      clear hto hW
      by_cases hlt : k < ms.length
      · obtain ⟨m, hm⟩ : ∃ r, ms[k]? = some r := ⟨_, List.getElem?_eq_getElem hlt⟩
        have hmm := List.mem_of_getElem? hm
        obtain ⟨bm, offm, hom, hMr⟩ := (HT.out.keep HW.out).rm (map_ne hlt)
        have x0 : Wa.cell? ⟨bm, offm + k * 2, none⟩ = some (.slice m.op m.n m.cp) := hMr.c k _ (map_get hm) 0 _ rfl
        have x1 : Wa.cell? ⟨bm, offm + k * 2 + 1, none⟩ = some (.slice m.oe m.es.length m.ce) := hMr.c k _ (map_get hm) 1 _ rfl
        have lbm := hMr.lt
        have HM := Lib.hid hm
        have HMM := Lib.hid hmm
        rw [hom]
        clear hMr hm hmm hom
        go_upto_region 6 with fail
        clear x0 x1 lbm
        have hbx_ := boxes1 Wa [.slice m.op m.n m.cp, .slice m.oe m.es.length m.ce] 43
        have HV := Lib.hid (below_call HW.out (hbx_.2))
        generalize Wa.alloc (.cells #[.slice m.op m.n m.cp, .slice m.oe m.es.length m.ce] 43) = V at hbx_ HV ⊢
        obtain ⟨rV, hbel_⟩ := hbx_
        obtain ⟨nV, hn_⟩ : ∃ n, n = Wa.heap.size := ⟨_, rfl⟩
        rw [← hn_] at rV ⊢
        clear hn_ hbel_
        have y0 : V.cell? ⟨nV, 0, none⟩ = some (.slice m.op m.n m.cp) := rV.c 0 _ rfl
        have y1 : V.cell? ⟨nV, 1, none⟩ = some (.slice m.oe m.es.length m.ce) := rV.c 1 _ rfl
        have lV := rV.lt
        have hwf := wellFormed_raw m V (HS.out.mn m HMM.out) (HS.out.me m HMM.out) ((HT.out.keep HV.out).es m HMM.out)
        have HWF := Lib.hid hwf
        clear rV hwf
        go_wp2_with fail
        with_reducible refine HWF.out.mono ?_
        rintro e X ⟨b, rfl, hbi, hb⟩
        have HX := Lib.hid (below_call HV.out hb)
        clear hb y0 y1 lV HWF
        cases b with
        | false =>
          have HNO : Hid (¬ ChkI ms cs) := Lib.hid fun h => by have := hbi.2 (h.wf m HMM.out); cases this
          clear hbi
          go_wp2_with fail
          go_ret
          exact verP_no HNO.out (below_call HB.out HX.out)
        | true =>
          have HTN : Hid (∀ (j : Nat) (m : Rm), j < k + 1 → ms[j]? = some m → WF m) := Lib.hid fun j m' hj hm' => by
            rcases Nat.lt_or_ge j k with h1 | h1
            · exact HTO.out j m' h1 hm'
            · have : j = k := by omega
              subst this
              rw [HM.out] at hm'; injection hm' with hm'; subst hm'
              exact hbi.1 rfl
          clear hbi
          go_wp2_with fail
          go_roundw
          case rel => exact ⟨k + 1, by omega, by simp, HX.out, HTN.out⟩
          case measure => simp [intOf]; omega
      · obtain rfl : k = ms.length := by omega
        have HWF := Lib.hid (wf_mem HTO.out)
        have r1 := HR1.out.keep HW.out
        have a0 : Wa.cell? ⟨n1, 0, none⟩ = some (.slice om ms.length cm) := r1.c 0 _ rfl
        have a1 : Wa.cell? ⟨n1, 1, none⟩ = some (.slice oc cs.length cc) := r1.c 1 _ rfl
        have l1 := r1.lt
        clear r1
        go_wp2_with fail
        clear a0 a1 l1
        go_loopw [37] (fun i W => ∃ k : Nat, k ≤ cs.length ∧ i = .int .i64 (k : Nat) ∧ Below W0.heap.size W0 W ∧ ∀ (j : Nat) (c : Rc), j < k → cs[j]? = some c → c.a.arm ≠ c.b.arm ∧ LegI (ms.map toM) c.a ∧ LegI (ms.map toM) c.b) (fun i _ => cs.length - (intOf i).toNat)
        case atStart => exact ⟨0, Nat.zero_le _, rfl, HW.out, fun j c h => absurd h (Nat.not_lt_zero _)⟩
        case round =>
          clear HTO HW
          obtain ⟨k, hk, rfl, hW, hto⟩ := hrel
          obtain ⟨Wb, rfl⟩ : ∃ X, X = wr := ⟨_, rfl⟩
          have HTO := Lib.hid hto
          have HW := Lib.hid hW
          clear hto hW
          by_cases hlt : k < cs.length
          · obtain ⟨c, hc⟩ : ∃ r, cs[k]? = some r := ⟨_, List.getElem?_eq_getElem hlt⟩
            obtain ⟨bc, offc, hoc, hCr⟩ := (HT.out.keep HW.out).rc (map_ne hlt)
            have x0 : Wb.cell? ⟨bc, offc + k * 6, none⟩ = some (.int .i64 c.a.arm) := hCr.c k _ (map_get hc) 0 _ rfl
            have x1 : Wb.cell? ⟨bc, offc + k * 6 + 1, none⟩ = some (.int .i64 c.a.x) := hCr.c k _ (map_get hc) 1 _ rfl
            have x2 : Wb.cell? ⟨bc, offc + k * 6 + 2, none⟩ = some (.int .i64 c.a.y) := hCr.c k _ (map_get hc) 2 _ rfl
            have x3 : Wb.cell? ⟨bc, offc + k * 6 + 3, none⟩ = some (.int .i64 c.b.arm) := hCr.c k _ (map_get hc) 3 _ rfl
            have x4 : Wb.cell? ⟨bc, offc + k * 6 + 4, none⟩ = some (.int .i64 c.b.x) := hCr.c k _ (map_get hc) 4 _ rfl
            have x5 : Wb.cell? ⟨bc, offc + k * 6 + 5, none⟩ = some (.int .i64 c.b.y) := hCr.c k _ (map_get hc) 5 _ rfl
            have lbc := hCr.lt
            have HC := Lib.hid hc
            have HOC := Lib.hid hoc
            rw [hoc]
            clear hCr hc hoc
            go_upto_region 12 with fail
            clear x0 x1 x2 x3 x4 x5 lbc
            have hbx_ := boxes1 Wb [.int .i64 c.a.arm, .int .i64 c.a.x, .int .i64 c.a.y, .int .i64 c.b.arm, .int .i64 c.b.x, .int .i64 c.b.y] 74
            have HV := Lib.hid (below_call HW.out (hbx_.2))
            generalize Wb.alloc (.cells #[.int .i64 c.a.arm, .int .i64 c.a.x, .int .i64 c.a.y, .int .i64 c.b.arm, .int .i64 c.b.x, .int .i64 c.b.y] 74) = V at hbx_ HV ⊢
            obtain ⟨rV, hbel_⟩ := hbx_
            obtain ⟨nV, hn_⟩ : ∃ n, n = Wb.heap.size := ⟨_, rfl⟩
            rw [← hn_] at rV ⊢
            clear hn_ hbel_
            have HRV := Lib.hid rV
            have r1 := HR1.out.keep HV.out
            have y0 : V.cell? ⟨nV, 0, none⟩ = some (.int .i64 c.a.arm) := rV.c 0 _ rfl
            have y1 : V.cell? ⟨nV, 1, none⟩ = some (.int .i64 c.a.x) := rV.c 1 _ rfl
            have y2 : V.cell? ⟨nV, 2, none⟩ = some (.int .i64 c.a.y) := rV.c 2 _ rfl
            have y3 : V.cell? ⟨nV, 3, none⟩ = some (.int .i64 c.b.arm) := rV.c 3 _ rfl
            have y4 : V.cell? ⟨nV, 4, none⟩ = some (.int .i64 c.b.x) := rV.c 4 _ rfl
            have y5 : V.cell? ⟨nV, 5, none⟩ = some (.int .i64 c.b.y) := rV.c 5 _ rfl
            have a0 : V.cell? ⟨n1, 0, none⟩ = some (.slice om ms.length cm) := r1.c 0 _ rfl
            have a1 : V.cell? ⟨n1, 1, none⟩ = some (.slice (some ⟨bc, offc, none⟩) cs.length cc) := by rw [← HOC.out]; exact r1.c 1 _ rfl
            have lV := rV.lt
            have l1 := r1.lt
            clear rV r1
            by_cases hne : c.a.arm = c.b.arm
            · have d0 := int_beq c.a.arm c.b.arm
              rw [decide_eq_true hne] at d0
              have HNO : Hid (¬ ChkI ms cs) := Lib.hid fun h => (h.cf c (List.mem_of_getElem? HC.out)).1 hne
              clear hne
              go_wp2_with fail
              go_ret
              exact verP_no HNO.out (below_call HB.out HV.out)
            · have d0 := int_beq c.a.arm c.b.arm
              rw [decide_eq_false hne] at d0
              have HNE := Lib.hid hne
              clear hne
              have hla := fun X (hX : Below W0.heap.size W0 X) => legal_raw om (some ⟨bc, offc, none⟩) cm cc cs.length (ms.map toM) c.a X (by simp; omega) (toM_all fun m hm => HS.out.mn m hm) (toM_all fun m hm h1 => toM_ok (HWF.out m hm) (HS.out.mn m hm) (HS.out.me m hm) h1) (by rw [toM_rows]; exact (HT.out.keep hX).rm) (toM_all fun m hm => by rw [toM_edges (HWF.out m hm)]; exact (HT.out.keep hX).es m hm)
              have hlb := fun X (hX : Below W0.heap.size W0 X) => legal_raw om (some ⟨bc, offc, none⟩) cm cc cs.length (ms.map toM) c.b X (by simp; omega) (toM_all fun m hm => HS.out.mn m hm) (toM_all fun m hm h1 => toM_ok (HWF.out m hm) (HS.out.mn m hm) (HS.out.me m hm) h1) (by rw [toM_rows]; exact (HT.out.keep hX).rm) (toM_all fun m hm => by rw [toM_edges (HWF.out m hm)]; exact (HT.out.keep hX).es m hm)
              rw [List.length_map] at hla hlb
              have HLA := Lib.hid hla
              have HLB := Lib.hid hlb
              clear hla hlb
              go_wp2_with fail
              with_reducible refine (HLA.out _ HV.out).mono ?_
              rintro e X ⟨b, rfl, hbi, hb⟩
              have HX := Lib.hid (below_call HV.out hb)
              have rV := HRV.out.keep hb
              have r1 := HR1.out.keep HX.out
              clear y0 y1 y2 y3 y4 y5 a0 a1 lV l1 hb HLA d0
              have y3 : X.cell? ⟨nV, 3, none⟩ = some (.int .i64 c.b.arm) := rV.c 3 _ rfl
              have y4 : X.cell? ⟨nV, 4, none⟩ = some (.int .i64 c.b.x) := rV.c 4 _ rfl
              have y5 : X.cell? ⟨nV, 5, none⟩ = some (.int .i64 c.b.y) := rV.c 5 _ rfl
              have a0 : X.cell? ⟨n1, 0, none⟩ = some (.slice om ms.length cm) := r1.c 0 _ rfl
              have a1 : X.cell? ⟨n1, 1, none⟩ = some (.slice (some ⟨bc, offc, none⟩) cs.length cc) := by rw [← HOC.out]; exact r1.c 1 _ rfl
              have lV := rV.lt
              have l1 := r1.lt
              clear rV r1
              cases b with
              | false =>
                have HNO : Hid (¬ ChkI ms cs) := Lib.hid fun h => by have := hbi.2 (h.cf c (List.mem_of_getElem? HC.out)).2.1; cases this
                clear hbi
                go_wp2_with fail
                go_ret
                exact verP_no HNO.out (below_call HB.out HX.out)
              | true =>
                have HGA := Lib.hid (hbi.1 rfl)
                clear hbi
                go_wp2_with fail
                with_reducible refine (HLB.out _ HX.out).mono ?_
                rintro e Y ⟨b, rfl, hbi, hb⟩
                have HY := Lib.hid (below_call HX.out hb)
                clear y3 y4 y5 a0 a1 lV l1 hb HLB
                cases b with
                | false =>
                  have HNO : Hid (¬ ChkI ms cs) := Lib.hid fun h => by have := hbi.2 (h.cf c (List.mem_of_getElem? HC.out)).2.2; cases this
                  clear hbi
                  go_wp2_with fail
                  go_ret
                  exact verP_no HNO.out (below_call HB.out HY.out)
                | true =>
                  have HTN : Hid (∀ (j : Nat) (c : Rc), j < k + 1 → cs[j]? = some c → c.a.arm ≠ c.b.arm ∧ LegI (ms.map toM) c.a ∧ LegI (ms.map toM) c.b) := Lib.hid fun j c' hj hc' => by
                    rcases Nat.lt_or_ge j k with h1 | h1
                    · exact HTO.out j c' h1 hc'
                    · have : j = k := by omega
                      subst this
                      rw [HC.out] at hc'; injection hc' with hc'; subst hc'
                      exact ⟨HNE.out, HGA.out, hbi.1 rfl⟩
                  clear hbi
                  go_wp2_with fail
                  go_roundw
                  case rel => exact ⟨k + 1, by omega, by simp, HY.out, HTN.out⟩
                  case measure => simp [intOf]; omega
          · have HOK : Hid (ChkI ms cs) := Lib.hid ⟨HN1.out, HWF.out, fun c hc => by
              obtain ⟨j, hj⟩ := List.mem_iff_getElem?.1 hc
              exact HTO.out j c (by have := (List.getElem?_eq_some_iff.1 hj).1; omega) hj⟩
            have HEND := Lib.hid (below_call HB.out HW.out)
            go_wp2_with fail
            go_ret
            exact verP_yes HOK.out HEND.out
end Go.Proofs.Jn
end

