/-
  Texts put together: Bx Bu By Bz Ca.
-/
import Derived.Test.YtemchlakoalhcaaZJointFree11
import Derived.Shelf.SlSorted.Search
import Derived.Laws.StructEq
set_option linter.unusedVariables false
section
/-
  Walks: search, by the library's binary search out of the shelf.
-/
namespace Go.Proofs.Jn
open Go.RowKit Go.Shelf Go.Sort Go.Lib

/-- The closure of search. -/
def geB (es : List Ed) (u v i : Nat) : Bool := match es[i]? with
  | some e => decide (u < e.u) || (decide (e.u = u) && decide (v ≤ e.v))
  | none => true
def hitB (es : List Ed) (u v : Nat) : Bool := es.any fun e => decide (e.u = u) && decide (e.v = v) && decide (e.st = 1)

theorem asc_lt {es : List Ed} (h : ∀ (k : Nat) (e f : Ed), es[k]? = some e → es[k + 1]? = some f → e.u < f.u ∨ (e.u = f.u ∧ e.v < f.v)) :
    ∀ (d i : Nat) (e f : Ed), es[i]? = some e → es[i + d + 1]? = some f → e.u < f.u ∨ (e.u = f.u ∧ e.v < f.v)
  | 0, i, e, f, h1, h2 => h i e f h1 h2
  | d + 1, i, e, f, h1, h2 => by
    obtain ⟨g, hg⟩ : ∃ g, es[i + d + 1]? = some g := ⟨_, List.getElem?_eq_getElem (by have := (List.getElem?_eq_some_iff.1 h2).1; omega)⟩
    have a1 := asc_lt h d i e g h1 hg
    have a2 := h (i + d + 1) g f hg h2
    omega
theorem geB_mono {m : Mp} (hm : MapOk m) (u v : Nat) : ∀ a b, a ≤ b → b < m.es.length → geB m.es u v a = true → geB m.es u v b = true := by
  intro a b hab hb h
  rcases Nat.eq_or_lt_of_le hab with rfl | hlt
  · exact h
  · obtain ⟨e, he⟩ : ∃ e, m.es[a]? = some e := ⟨_, List.getElem?_eq_getElem (by omega)⟩
    obtain ⟨f, hf⟩ : ∃ f, m.es[b]? = some f := ⟨_, List.getElem?_eq_getElem hb⟩
    have := asc_lt hm.asc (b - a - 1) a e f he (by rw [show a + (b - a - 1) + 1 = b by omega]; exact hf)
    simp only [geB, he, hf, Bool.or_eq_true, Bool.and_eq_true, decide_eq_true_eq] at h ⊢
    omega
theorem count_mono (p : Nat → Bool) : ∀ n, (∀ a b, a ≤ b → b < n → p a = true → p b = true) → (List.range n).countP (fun i => !p i) ≤ n ∧ ∀ i, i < n → (p i = false ↔ i < (List.range n).countP (fun i => !p i))
  | 0, _ => ⟨by simp, fun i h => by omega⟩
  | n + 1, hm => by
    obtain ⟨h1, h2⟩ := count_mono p n fun a b hab hb h => hm a b hab (by omega) h
    rw [List.range_succ, List.countP_append]
    cases hp : p n with
    | true =>
      simp only [List.countP_cons, List.countP_nil, hp, Bool.not_true, Bool.false_eq_true, if_false, Nat.add_zero]
      refine ⟨by omega, fun i hi => ?_⟩
      rcases Nat.lt_or_ge i n with h | h
      · exact h2 i h
      · have : i = n := by omega
        subst this
        rw [hp]
        constructor
        · intro h; cases h
        · intro h; omega
    | false =>
      have hall : ∀ i, i ≤ n → p i = false := fun i hi => by
        cases hpi : p i with
        | false => rfl
        | true => rw [hm i n hi (by omega) hpi] at hp; cases hp
      have hn : (List.range n).countP (fun i => !p i) = n := by
        rcases Nat.eq_zero_or_pos n with rfl | hpos
        · rfl
        · have := (h2 (n - 1) (by omega)).1 (hall _ (by omega))
          omega
      simp only [List.countP_cons, List.countP_nil, hp, Bool.not_false, if_true, Nat.zero_add]
      refine ⟨by omega, fun i hi => ?_⟩
      rw [hn]
      exact ⟨fun _ => hi, fun _ => hall i (by omega)⟩
theorem geB_hit {m : Mp} (hm : MapOk m) (u v : Nat) : hitB m.es u v = match m.es[(List.range m.es.length).countP (fun i => !geB m.es u v i)]? with
    | some e => decide (e.u = u) && decide (e.v = v) && decide (e.st = 1)
    | none => false := by
  obtain ⟨h1, h2⟩ := count_mono (geB m.es u v) m.es.length (geB_mono hm u v)
  generalize (List.range m.es.length).countP (fun i => !geB m.es u v i) = c at h1 h2
  have key : ∀ (j : Nat) (e : Ed), m.es[j]? = some e → e.u = u → e.v = v → j = c := by
    intro j e he hu hv
    have hj := (List.getElem?_eq_some_iff.1 he).1
    have hge : geB m.es u v j = true := by simp [geB, he, hu, hv]
    have hcj : c ≤ j := by
      rcases Nat.lt_or_ge j c with h | h
      · have := (h2 j hj).2 h; rw [hge] at this; cases this
      · exact h
    rcases Nat.eq_or_lt_of_le hcj with h | h
    · exact h.symm
    · obtain ⟨f, hf⟩ : ∃ f, m.es[c]? = some f := ⟨_, List.getElem?_eq_getElem (by omega)⟩
      have a := asc_lt hm.asc (j - c - 1) c f e hf (by rw [show c + (j - c - 1) + 1 = j by omega]; exact he)
      have hgc : geB m.es u v c = true := by
        cases hg : geB m.es u v c with
        | true => rfl
        | false => have := (h2 c (by omega)).1 hg; omega
      simp only [geB, hf, Bool.or_eq_true, Bool.and_eq_true, decide_eq_true_eq] at hgc
      omega
  cases hb : hitB m.es u v with
  | true =>
    unfold hitB at hb
    rw [List.any_eq_true] at hb
    obtain ⟨e, he, hp⟩ := hb
    obtain ⟨j, hj⟩ := List.getElem?_of_mem he
    simp only [Bool.and_eq_true, decide_eq_true_eq] at hp
    have := key j e hj hp.1.1 hp.1.2
    subst this
    rw [hj]
    simp [hp]
  | false =>
    split
    · rename_i e he
      unfold hitB at hb
      rw [List.any_eq_false] at hb
      have := hb e (List.mem_of_getElem? he)
      simp only [Bool.not_eq_true] at this
      exact this.symm
    · rfl

set_option maxRecDepth 100000 in
set_option maxHeartbeats 4000000 in
theorem closure66 (n3 n4 n5 : Nat) (oe : Option Addr) (ce : Nat) (es : List Ed) (u v i : Nat) (W : World) (hi : i < es.length) (hE : Sl W oe 12 (es.map Ed.vals))
    (c3 : W.cell? ⟨n3, 0, none⟩ = some (.slice oe es.length ce)) (c4 : W.cell? ⟨n4, 0, none⟩ = some (.int .i64 (u : Nat))) (c5 : W.cell? ⟨n5, 0, none⟩ = some (.int .i64 (v : Nat))) :
    Calls Try.prog 66 (#[.int .i64 (i : Nat)] ++ #[.pointer (some ⟨n3, 0, none⟩), .pointer (some ⟨n4, 0, none⟩), .pointer (some ⟨n5, 0, none⟩)]) W fun e w' => e = .returned (.bool (geB es u v i)) ∧ ∃ q os', w' = grow (W.drewN q) os' := by
  obtain ⟨e, he⟩ : ∃ r, es[i]? = some r := ⟨_, List.getElem?_eq_getElem hi⟩
  obtain ⟨b, off, rfl, hEr⟩ := hE (map_ne hi)
  have x0 : W.cell? ⟨b, off + i * 12, none⟩ = some (.int .i64 (e.u : Nat)) := hEr.c i _ (map_get he) 0 _ rfl
  have x1 : W.cell? ⟨b, off + i * 12 + 1, none⟩ = some (.int .i64 (e.v : Nat)) := hEr.c i _ (map_get he) 1 _ rfl
  have hp : geB es u v i = (decide (u < e.u) || (decide (e.u = u) && decide (v ≤ e.v))) := by simp [geB, he]
  rw [hp]
  clear hE hEr hp he
  have g2 : ((e.u : Int) == (u : Int)) = decide (e.u = u) := nat_beq _ _
  by_cases h1 : u < e.u
  · rw [decide_eq_true h1]
    go_enter Try.func66, Try.ntmps66
    go_wp2_with fail
    go_quiet (fail)
    go_wp2
    go_ret
    exact ⟨by simp, nq, #[], by rw [grow_empty]⟩
  · rw [decide_eq_false h1]
    by_cases h2 : e.u = u
    · rw [decide_eq_true h2] at g2 ⊢
      by_cases h3 : v ≤ e.v
      · rw [decide_eq_true h3]
        clear h2
        go_enter Try.func66, Try.ntmps66
        go_wp2_with fail
        go_quiet (fail)
        go_wp2
        go_ret
        exact ⟨by simp [], nq, #[], by rw [grow_empty]⟩
      · rw [decide_eq_false h3]
        clear h2
        go_enter Try.func66, Try.ntmps66
        go_wp2_with fail
        go_quiet (fail)
        go_wp2
        go_ret
        exact ⟨by simp, nq, #[], by rw [grow_empty]⟩
    · rw [decide_eq_false h2] at g2 ⊢
      clear h2
      go_enter Try.func66, Try.ntmps66
      go_wp2_with fail
      go_quiet (fail)
      go_wp2
      go_ret
      exact ⟨by simp, nq, #[], by rw [grow_empty]⟩

theorem enters66 : ∀ args w, (callFunc 66 args).run Try.prog w = .ok (.enter 66 args) w := enters_of Try.func66 (by kernel_rfl) rfl

set_option maxRecDepth 100000 in
set_option maxHeartbeats 4000000 in
theorem search_any (m : Mp) (u v : Nat) (w : World) (hm : MapOk m) (hE : Sl w m.oe 12 (m.es.map Ed.vals)) :
    Calls Try.prog 55 #[.slice m.oe m.es.length m.ce, .int .i64 (u : Nat), .int .i64 (v : Nat)] w (BoolP (hitB m.es u v) w) := by
  have hlen := hm.len
  go_enter Try.func55, Try.ntmps55
  go_upto_region 1 with fail
  have hbx := boxes3 w [.slice m.oe m.es.length m.ce] [.int .i64 (u : Nat)] [.int .i64 (v : Nat)] 41 3 3
  have hE' := hE.keep hbx.2.2.2
  clear hE
  generalize ((w.alloc (.cells #[.slice m.oe m.es.length m.ce] 41)).alloc (.cells #[.int .i64 (u : Nat)] 3)).alloc (.cells #[.int .i64 (v : Nat)] 3) = W0 at hbx hE' ⊢
  obtain ⟨r3, r4, r5, hB0⟩ := hbx
  generalize w.heap.size + 1 + 1 = n5 at r5 ⊢
  generalize w.heap.size + 1 = n4 at r4 ⊢
  obtain ⟨n3, hn3⟩ : ∃ n, n = w.heap.size := ⟨_, rfl⟩
  rw [← hn3] at r3 ⊢
  clear hn3
  have a3 : W0.cell? ⟨n3, 0, none⟩ = some (.slice m.oe m.es.length m.ce) := r3.c 0 _ rfl
  have a4 : W0.cell? ⟨n4, 0, none⟩ = some (.int .i64 (u : Nat)) := r4.c 0 _ rfl
  have a5 : W0.cell? ⟨n5, 0, none⟩ = some (.int .i64 (v : Nat)) := r5.c 0 _ rfl
  have l3 := r3.lt; have l4 := r4.lt; have l5 := r5.lt
  have hgb : ∀ (q : Nat) (os : Array Obj), Below W0.heap.size W0 (grow (W0.drewN q) os) := fun q os => below_grown_sl _ W0 q os (Nat.le_refl _)
  have hS := Any.sort_Search Try.searchL 66 #[.pointer (some ⟨n3, 0, none⟩), .pointer (some ⟨n4, 0, none⟩), .pointer (some ⟨n5, 0, none⟩)] m.es.length (geB m.es u v) W0 enters66 (by omega)
    (fun q os i hi => closure66 n3 n4 n5 m.oe m.ce m.es u v i _ hi (hE'.keep (hgb q os)) ((r3.keep (hgb q os)).c 0 _ rfl) ((r4.keep (hgb q os)).c 0 _ rfl) ((r5.keep (hgb q os)).c 0 _ rfl)) (geB_mono hm u v)
  change Calls Try.prog 65 _ _ _ at hS
  have hhit := geB_hit hm u v
  have hcl := (count_mono (geB m.es u v) m.es.length (geB_mono hm u v)).1
  generalize (List.range m.es.length).countP (fun i => !geB m.es u v i) = c at hS hhit hcl
  have HS := Lib.hid hS
  have HH := Lib.hid hhit
  clear hS hhit
  have hmf : ∀ (fn : Fn) (first cap : Array Value) (w : World), (Instr.makeFunc fn first cap).run Try.prog w = .ok (.func fn first cap) w := fun _ _ _ _ => rfl
  go_wp2_with fail
  refine HS.out.mono ?_
  rintro e w' ⟨rfl, q, os, rfl⟩
  have hgq := hgb q os
  have hE2 := hE'.keep hgq
  replace r3 := r3.keep hgq
  replace r4 := r4.keep hgq
  replace r5 := r5.keep hgq
  have HB1 := Lib.hid (below_call hB0 hgq)
  clear a3 a4 a5 l3 l4 l5 hE' hgq hgb HS
  generalize grow (W0.drewN q) os = V at hE2 r3 r4 r5 HB1 ⊢
  have a3 : V.cell? ⟨n3, 0, none⟩ = some (.slice m.oe m.es.length m.ce) := r3.c 0 _ rfl
  have a4 : V.cell? ⟨n4, 0, none⟩ = some (.int .i64 (u : Nat)) := r4.c 0 _ rfl
  have a5 : V.cell? ⟨n5, 0, none⟩ = some (.int .i64 (v : Nat)) := r5.c 0 _ rfl
  have l3 := r3.lt; have l4 := r4.lt; have l5 := r5.lt
  clear r3 r4 r5
  by_cases hc : c < m.es.length
  · obtain ⟨e, he⟩ : ∃ r, m.es[c]? = some r := ⟨_, List.getElem?_eq_getElem hc⟩
    obtain ⟨b, off, hoe, hEr⟩ := hE2 (map_ne hc)
    rw [hoe] at a3
    have x0 : V.cell? ⟨b, off + c * 12, none⟩ = some (.int .i64 (e.u : Nat)) := hEr.c c _ (map_get he) 0 _ rfl
    have x1 : V.cell? ⟨b, off + c * 12 + 1, none⟩ = some (.int .i64 (e.v : Nat)) := hEr.c c _ (map_get he) 1 _ rfl
    have x3 : V.cell? ⟨b, off + c * 12 + 3, none⟩ = some (.int .i64 e.st) := hEr.c c _ (map_get he) 3 _ rfl
    have g1 : ((e.u : Int) == (u : Int)) = decide (e.u = u) := nat_beq _ _
    have g2 : ((e.v : Int) == (v : Int)) = decide (e.v = v) := nat_beq _ _
    have HE := Lib.hid he
    rw [hoe]
    clear he hEr hE2 hm
    by_cases h1 : e.u = u
    · rw [decide_eq_true h1] at g1
      have H1 := Lib.hid h1
      clear h1
      have g3 : ((e.st : Int) == 1) = decide (e.st = 1) := int_beq _ _
      by_cases h2 : e.v = v
      · rw [decide_eq_true h2] at g2
        have H2 := Lib.hid h2
        clear h2
        cases h3 : decide (e.st = 1) <;> rw [h3] at g3 <;> (have H3 := Lib.hid h3; clear h3)
        all_goals
          go_wp2_with fail
          go_quiet (fail)
          have HB2 := Lib.hid (below_call HB1.out (below_drew V nq))
          generalize V.drewN nq = V2 at HB2 ⊢
          go_wp2
          go_ret
          refine boolP_mk ?_ HB2.out
          rw [HH.out, HE.out]
          simp [H1.out, H2.out, H3.out]
      · rw [decide_eq_false h2] at g2
        have H2 := Lib.hid h2
        clear h2
        go_wp2_with fail
        go_quiet (fail)
        have HB2 := Lib.hid (below_call HB1.out (below_drew V nq))
        generalize V.drewN nq = V2 at HB2 ⊢
        go_wp2
        go_ret
        refine boolP_mk ?_ HB2.out
        rw [HH.out, HE.out]
        simp [H2.out]
    · rw [decide_eq_false h1] at g1
      have H1 := Lib.hid h1
      clear h1
      go_wp2_with fail
      go_quiet (fail)
      have HB2 := Lib.hid (below_call HB1.out (below_drew V nq))
      generalize V.drewN nq = V2 at HB2 ⊢
      go_wp2
      go_ret
      refine boolP_mk ?_ HB2.out
      rw [HH.out, HE.out]
      simp [H1.out]
  · have hcn : m.es[c]? = none := List.getElem?_eq_none (by omega)
    have HN := Lib.hid hcn
    clear hE2 hm hcn
    go_wp2_with fail
    go_quiet (fail)
    have HB2 := Lib.hid (below_call HB1.out (below_drew V nq))
    generalize V.drewN nq = V2 at HB2 ⊢
    go_wp2
    go_ret
    refine boolP_mk ?_ HB2.out
    rw [HH.out, HN.out]
end Go.Proofs.Jn
end

section
/-
  Walks: Clash.
-/
namespace Go.Proofs.Jn
open Go.RowKit

theorem guard65 : Try.prog.eqGuardType Try.prog.depth 65 = false := by kernel_rfl
def mvV (m : Mv) : Value := .agg #[.int .i64 (m.arm : Nat), .int .i64 (m.x : Nat), .int .i64 (m.y : Nat)]
theorem eq65 (a b : Mv) (w : World) : (binOp .eql 65 (.agg #[.int .i64 (a.arm : Nat), .int .i64 (a.x : Nat), .int .i64 (a.y : Nat)]) (.agg #[.int .i64 (b.arm : Nat), .int .i64 (b.x : Nat), .int .i64 (b.y : Nat)])).run Try.prog w = .ok (.bool (decide (a = b))) w := by
  have h0 : Try.prog.stoodInHeld 65 = false := by kernel_rfl
  simp [go_sem, h0, Try.underlying65]
  obtain ⟨a1, a2, a3⟩ := a
  obtain ⟨b1, b2, b3⟩ := b
  simp only [Mv.mk.injEq, Int.ofNat_inj]
  by_cases h1 : a1 = b1 <;> by_cases h2 : a2 = b2 <;> by_cases h3 : a3 = b3 <;> simp [h1, h2, h3]

attribute [-go_sem] run_eql_struct
set_option maxHeartbeats 4000000 in
theorem clash_any (om oc : Option Addr) (cm cc : Nat) (T : Tm) (a b : Mv) (w : World) (hc : T.cs.length ≤ 100) (hT : TeamAt w om oc T) :
    Calls Try.prog 24 #[T.val om oc cm cc, .agg #[.int .i64 (a.arm : Nat), .int .i64 (a.x : Nat), .int .i64 (a.y : Nat)], .agg #[.int .i64 (b.arm : Nat), .int .i64 (b.x : Nat), .int .i64 (b.y : Nat)]] w (BoolP (clashB T.cs a b) w) := by
  unfold Tm.val
  have hcs := hT.cs
  clear hT
  go_enter Try.func24, Try.ntmps24
  go_wp2_with fail
  have hbx := boxes3 w [.slice om T.ms.length cm, .slice oc T.cs.length cc] [.int .i64 (a.arm : Nat), .int .i64 (a.x : Nat), .int .i64 (a.y : Nat)] [.int .i64 (b.arm : Nat), .int .i64 (b.x : Nat), .int .i64 (b.y : Nat)] 26 65 65
  have hcs' := hcs.keep hbx.2.2.2
  clear hcs
  generalize ((w.alloc (.cells #[.slice om T.ms.length cm, .slice oc T.cs.length cc] 26)).alloc (.cells #[.int .i64 (a.arm : Nat), .int .i64 (a.x : Nat), .int .i64 (a.y : Nat)] 65)).alloc (.cells #[.int .i64 (b.arm : Nat), .int .i64 (b.x : Nat), .int .i64 (b.y : Nat)] 65) = W0 at hbx hcs' ⊢
  obtain ⟨r3, r4, r5, hB0⟩ := hbx
  generalize w.heap.size + 1 + 1 = n5 at r5 ⊢
  generalize w.heap.size + 1 = n4 at r4 ⊢
  obtain ⟨n3, hn3⟩ : ∃ n, n = w.heap.size := ⟨_, rfl⟩
  rw [← hn3] at r3 ⊢
  have HN3 := Lib.hid hn3
  clear hn3
  go_loopw [7] (fun i W => ∃ k : Nat, k ≤ T.cs.length ∧ i = .int .i64 k ∧ Below W0.heap.size W0 W ∧ clashB (T.cs.take k) a b = false) (fun i _ => T.cs.length - (intOf i).toNat)
  case atStart => exact ⟨0, by omega, rfl, Below.refl _ _, rfl⟩
  case round =>
    obtain ⟨k, hk, rfl, hW, hF⟩ := hrel
    have R3 := r3.keep hW
    have R4 := r4.keep hW
    have R5 := r5.keep hW
    have s0 : wr.cell? ⟨n3, 1, none⟩ = some (.slice oc T.cs.length cc) := R3.c 1 _ rfl
    have l3 := R3.lt
    have HW := Lib.hid hW
    have HF := Lib.hid hF
    clear hF
    by_cases hlt : k < T.cs.length
    · obtain ⟨c, hc'⟩ : ∃ r, T.cs[k]? = some r := ⟨_, List.getElem?_eq_getElem hlt⟩
      obtain ⟨bc, offc, rfl, hCr⟩ := hcs' (map_ne hlt)
      have hCr' := hCr.keep hW
      have x0 : wr.cell? ⟨bc, offc + k * 6, none⟩ = some (.int .i64 (c.a.arm : Nat)) := hCr'.c k _ (map_get hc') 0 _ rfl
      have x1 : wr.cell? ⟨bc, offc + k * 6 + 1, none⟩ = some (.int .i64 (c.a.x : Nat)) := hCr'.c k _ (map_get hc') 1 _ rfl
      have x2 : wr.cell? ⟨bc, offc + k * 6 + 2, none⟩ = some (.int .i64 (c.a.y : Nat)) := hCr'.c k _ (map_get hc') 2 _ rfl
      have x3 : wr.cell? ⟨bc, offc + k * 6 + 3, none⟩ = some (.int .i64 (c.b.arm : Nat)) := hCr'.c k _ (map_get hc') 3 _ rfl
      have x4 : wr.cell? ⟨bc, offc + k * 6 + 4, none⟩ = some (.int .i64 (c.b.x : Nat)) := hCr'.c k _ (map_get hc') 4 _ rfl
      have x5 : wr.cell? ⟨bc, offc + k * 6 + 5, none⟩ = some (.int .i64 (c.b.y : Nat)) := hCr'.c k _ (map_get hc') 5 _ rfl
      have HC := Lib.hid hc'
      have hclash : clashB (T.cs.take (k + 1)) a b = ((decide (c.a = a) && decide (c.b = b)) || (decide (c.a = b) && decide (c.b = a))) := by
        have h := HF.out
        unfold clashB at h ⊢
        rw [List.take_add_one, HC.out]
        simp only [Option.toList_some, List.any_append, h, Bool.false_or, List.any_cons, List.any_nil, Bool.or_false]
      have HCL := Lib.hid hclash
      have y0 : wr.cell? ⟨n4, 0, none⟩ = some (.int .i64 (a.arm : Nat)) := R4.c 0 _ rfl
      have y1 : wr.cell? ⟨n4, 1, none⟩ = some (.int .i64 (a.x : Nat)) := R4.c 1 _ rfl
      have y2 : wr.cell? ⟨n4, 2, none⟩ = some (.int .i64 (a.y : Nat)) := R4.c 2 _ rfl
      have z0 : wr.cell? ⟨n5, 0, none⟩ = some (.int .i64 (b.arm : Nat)) := R5.c 0 _ rfl
      have z1 : wr.cell? ⟨n5, 1, none⟩ = some (.int .i64 (b.x : Nat)) := R5.c 1 _ rfl
      have z2 : wr.cell? ⟨n5, 2, none⟩ = some (.int .i64 (b.y : Nat)) := R5.c 2 _ rfl
      have l4 := R4.lt
      have l5 := R5.lt
      have q1 := eq65 c.a a
      have q2 := eq65 c.b b
      have q3 := eq65 c.a b
      have q4 := eq65 c.b a
      have hg := guard65
      clear hclash hc' hCr hCr' hcs' hW R3 R4 R5 r3 r4 r5
      generalize hp1 : decide (c.a = a) = p1 at q1 HCL
      generalize hp2 : decide (c.b = b) = p2 at q2 HCL
      generalize hp3 : decide (c.a = b) = p3 at q3 HCL
      generalize hp4 : decide (c.b = a) = p4 at q4 HCL
      clear hp1 hp2 hp3 hp4
      have HB := Lib.hid (below_call HW.out (((Below.refl wr.heap.size wr).alloc (Nat.le_refl _) (.cells #[.int .i64 (c.a.arm : Nat), .int .i64 (c.a.x : Nat), .int .i64 (c.a.y : Nat), .int .i64 (c.b.arm : Nat), .int .i64 (c.b.x : Nat), .int .i64 (c.b.y : Nat)] 74))))
      cases p1 <;> cases p2 <;> cases p3 <;> cases p4
      all_goals
        go_wp2
        first
        | (go_roundw
           case rel => exact ⟨k + 1, by omega, by simp, HB.out, HCL.out⟩
           case measure => simp [intOf]; omega)
        | (go_ret
           refine boolP_mk ?_ (below_call hB0 HB.out)
           have h := HCL.out
           have h2 : clashB (T.cs.take (k + 1)) a b = true → clashB T.cs a b = true := by
             unfold clashB
             intro h
             rw [List.any_eq_true] at h ⊢
             obtain ⟨x, hx, hp⟩ := h
             exact ⟨x, List.mem_of_mem_take hx, hp⟩
           exact (h2 h).symm)
    · go_wp2
      go_ret
      refine boolP_mk ?_ (below_call hB0 HW.out)
      have h := HF.out
      rw [List.take_of_length_le (by omega)] at h
      exact h.symm
end Go.Proofs.Jn
end

section
/-
  Walks: legal, Check.
-/
namespace Go.Proofs.Jn
open Go.RowKit

theorem keep5 {V W W' : World} {n3 n4 bm o1 : Nat} {a b c d e : Value} (l3 : n3 < V.heap.size) (l4 : n4 < V.heap.size) (lm : bm < V.heap.size)
    (h : W.cell? ⟨n3, 0, none⟩ = some a ∧ W.cell? ⟨n4, 0, none⟩ = some b ∧ W.cell? ⟨n4, 1, none⟩ = some c ∧ W.cell? ⟨n4, 2, none⟩ = some d ∧ W.cell? ⟨bm, o1, none⟩ = some e ∧ Below V.heap.size V W) (hb : Below W.heap.size W W') :
    W'.cell? ⟨n3, 0, none⟩ = some a ∧ W'.cell? ⟨n4, 0, none⟩ = some b ∧ W'.cell? ⟨n4, 1, none⟩ = some c ∧ W'.cell? ⟨n4, 2, none⟩ = some d ∧ W'.cell? ⟨bm, o1, none⟩ = some e ∧ Below V.heap.size V W' := by
  obtain ⟨h1, h2, h3, h4, h5, h6⟩ := h
  have m3 := Nat.lt_of_lt_of_le l3 h6.size
  have m4 := Nat.lt_of_lt_of_le l4 h6.size
  have mm := Nat.lt_of_lt_of_le lm h6.size
  exact ⟨(hb.cell (p := ⟨n3, 0, none⟩) m3).trans h1, (hb.cell (p := ⟨n4, 0, none⟩) m4).trans h2, (hb.cell (p := ⟨n4, 1, none⟩) m4).trans h3, (hb.cell (p := ⟨n4, 2, none⟩) m4).trans h4, (hb.cell (p := ⟨bm, o1, none⟩) mm).trans h5, below_call h6 hb⟩

theorem search_edge (m : Mp) (x y : Nat) (w : World) (hm : MapOk m) (hE : Sl w m.oe 12 (m.es.map Ed.vals)) :
    Calls Try.prog 55 #[.slice m.oe m.es.length m.ce, .int .i64 (min (x : Int) (y : Int)), .int .i64 (max (x : Int) (y : Int))] w (BoolP (edgeB m.es x y) w) := by
  rw [show min (x : Int) (y : Int) = ((min x y : Nat) : Int) by omega, show max (x : Int) (y : Int) = ((max x y : Nat) : Int) by omega]
  exact search_any m (min x y) (max x y) w hm hE

set_option maxRecDepth 100000 in
set_option maxHeartbeats 4000000 in
theorem legal_any (om oc : Option Addr) (cm cc : Nat) (T : Tm) (m : Mp) (a : Mv) (w : World) (hl : T.ms.length ≤ 100) (hm : T.ms[a.arm]? = some m) (hx : a.x < m.n) (hy : a.y < m.n) (ho : MapOk m) (hT : TeamAt w om oc T) :
    Calls Try.prog 54 #[T.val om oc cm cc, .agg #[.int .i64 (a.arm : Nat), .int .i64 (a.x : Nat), .int .i64 (a.y : Nat)], .func (.func 55) #[] #[]] w (BoolP (decide (a.x = a.y) || edgeB m.es a.x a.y) w) := by
  unfold Tm.val
  have hms := hT.ms
  have hes := hT.es m (List.mem_of_getElem? hm)
  have hlt : a.arm < T.ms.length := (List.getElem?_eq_some_iff.1 hm).1
  have hn := ho.n2
  have hel := ho.len
  clear hT
  go_enter Try.func54, Try.ntmps54
  go_upto_region 1 with fail
  have hbx := boxes2 w [.slice om T.ms.length cm, .slice oc T.cs.length cc] [.int .i64 (a.arm : Nat), .int .i64 (a.x : Nat), .int .i64 (a.y : Nat)] 26 65
  have hms' := hms.keep hbx.2.2
  have hes' := hes.keep hbx.2.2
  clear hms hes
  generalize (w.alloc (.cells #[.slice om T.ms.length cm, .slice oc T.cs.length cc] 26)).alloc (.cells #[.int .i64 (a.arm : Nat), .int .i64 (a.x : Nat), .int .i64 (a.y : Nat)] 65) = W0 at hbx hms' hes' ⊢
  obtain ⟨r3, r4, hB0⟩ := hbx
  generalize w.heap.size + 1 = n4 at r4 ⊢
  obtain ⟨n3, hn3⟩ : ∃ n, n = w.heap.size := ⟨_, rfl⟩
  rw [← hn3] at r3 ⊢
  clear hn3
  have a0 : W0.cell? ⟨n3, 0, none⟩ = some (.slice om T.ms.length cm) := r3.c 0 _ rfl
  have a1 : W0.cell? ⟨n4, 0, none⟩ = some (.int .i64 (a.arm : Nat)) := r4.c 0 _ rfl
  have a2 : W0.cell? ⟨n4, 1, none⟩ = some (.int .i64 (a.x : Nat)) := r4.c 1 _ rfl
  have a3 : W0.cell? ⟨n4, 2, none⟩ = some (.int .i64 (a.y : Nat)) := r4.c 2 _ rfl
  have l3 := r3.lt
  have l4 := r4.lt
  obtain ⟨bm, offm, rfl, hMr⟩ := hms' (map_ne hlt)
  have x0 : W0.cell? ⟨bm, offm + a.arm * 2, none⟩ = some (.slice m.op m.n m.cp) := hMr.c _ _ (map_get hm) 0 _ rfl
  have x1 : W0.cell? ⟨bm, offm + a.arm * 2 + 1, none⟩ = some (.slice m.oe m.es.length m.ce) := hMr.c _ _ (map_get hm) 1 _ rfl
  have lm := hMr.lt
  have HE := Lib.hid hes'
  clear hMr hms' hm hes' r3 r4
  have e0 : ((a.x : Int) == (a.y : Int)) = decide (a.x = a.y) := nat_beq _ _
  by_cases hxy : a.x = a.y
  · rw [decide_eq_true hxy] at e0
    have HX := Lib.hid hxy
    clear hxy
    go_upto_region 6 with fail
    go_quiet (fail)
    have HB := Lib.hid (below_call hB0 (below_drew W0 nq))
    generalize W0.drewN nq = V at HB ⊢
    go_wp2
    go_ret
    exact boolP_mk (by rw [decide_eq_true HX.out]; rfl) HB.out
  · rw [decide_eq_false hxy] at e0
    have HX := Lib.hid hxy
    clear hxy
    go_upto_region 6 with fail
    go_region_held3 (fun W => W.cell? ⟨n3, 0, none⟩ = some (.slice (some ⟨bm, offm, none⟩) T.ms.length cm) ∧ W.cell? ⟨n4, 0, none⟩ = some (.int .i64 (a.arm : Nat)) ∧ W.cell? ⟨n4, 1, none⟩ = some (.int .i64 (a.x : Nat)) ∧ W.cell? ⟨n4, 2, none⟩ = some (.int .i64 (a.y : Nat)) ∧ W.cell? ⟨bm, offm + a.arm * 2 + 1, none⟩ = some (.slice m.oe m.es.length m.ce) ∧ Below W0.heap.size W0 W)
      (first
        | exact keep5 l3 l4 lm ⟨a0, a1, a2, a3, x1, Below.refl _ _⟩ (Below.refl _ _).drew
        | exact keep5 l3 l4 lm (by assumption) (by assumption)
        | exact keep5 l3 l4 lm (by assumption) (Below.refl _ _).drew)
      (first
        | (go_at_call 55; refine (search_edge m a.x a.y _ ho (HE.out.keep (by first | exact (Below.refl _ _).drew | assumption | exact (by assumption : _ ∧ _ ∧ _ ∧ _ ∧ _ ∧ Below W0.heap.size W0 _).2.2.2.2.2))).mono ?_; rintro e X1 ⟨rfl, hb1⟩; have HB1 := Lib.hid (below_call (Below.refl _ _).drew hb1)))
    all_goals
      go_wp2
      go_ret
      exact boolP_mk (by rw [decide_eq_false HX.out]; rfl) (below_call hB0 HB1.out)
end Go.Proofs.Jn
end

section
/-
  Walks: Check.
-/
namespace Go.Proofs.Jn
open Go.RowKit

/-- A move that is legal. -/
def legB (T : Tm) (a : Mv) : Bool := match T.ms[a.arm]? with
  | some m => decide (a.x < m.n) && decide (a.y < m.n) && (decide (a.x = a.y) || edgeB m.es a.x a.y)
  | none => false
theorem legB_of {T : Tm} {a : Mv} (h : legB T a = true) : ∃ m, T.ms[a.arm]? = some m ∧ a.x < m.n ∧ a.y < m.n ∧ (decide (a.x = a.y) || edgeB m.es a.x a.y) = true := by
  unfold legB at h
  split at h
  · rename_i m hm
    simp only [Bool.and_eq_true, decide_eq_true_eq] at h
    exact ⟨m, hm, h.1.1, h.1.2, h.2⟩
  · cases h
/-- A team that is in order. -/
structure TeamOk (T : Tm) : Prop where
  n1 : 1 ≤ T.ms.length
  n2 : T.ms.length ≤ 4
  mo : ∀ m ∈ T.ms, MapOk m
  cn : T.cs.length ≤ 100
  cf : ∀ c ∈ T.cs, c.a.arm ≠ c.b.arm ∧ legB T c.a = true ∧ legB T c.b = true

theorem legal_ok (om oc : Option Addr) (cm cc : Nat) (T : Tm) (a : Mv) (w : World) (hO : TeamOk T) (h : legB T a = true) (hT : TeamAt w om oc T) :
    Calls Try.prog 54 #[.agg #[.slice om T.ms.length cm, .slice oc T.cs.length cc], .agg #[.int .i64 (a.arm : Nat), .int .i64 (a.x : Nat), .int .i64 (a.y : Nat)], .func (.func 55) #[] #[]] w (BoolP true w) := by
  obtain ⟨m, hm, hx, hy, h⟩ := legB_of h
  have := legal_any om oc cm cc T m a w (by have := hO.n2; omega) hm hx hy (hO.mo m (List.mem_of_getElem? hm)) hT
  rw [h] at this
  unfold Tm.val at this
  exact this

theorem nat_bne {a b : Nat} (h : a ≠ b) : ((a : Int) == (b : Int)) = false := by rw [nat_beq, decide_eq_false h]

set_option maxRecDepth 100000 in
set_option maxHeartbeats 4000000 in
theorem check_any (om oc : Option Addr) (cm cc : Nat) (T : Tm) (w : World) (hO : TeamOk T) (hT : TeamAt w om oc T) :
    Calls Try.prog 29 #[T.val om oc cm cc] w (BoolP true w) := by
  unfold Tm.val
  obtain ⟨n1, n2, mo, cn, cf⟩ := id hO
  have HO := Lib.hid hO
  have HMO := Lib.hid mo
  have HCF := Lib.hid cf
  clear hO mo cf
  go_enter Try.func29, Try.ntmps29
  go_upto_region 1 with fail
  have hbx := boxes1 w [.slice om T.ms.length cm, .slice oc T.cs.length cc] 26
  have hT' := hT.keep hbx.2
  clear hT
  generalize w.alloc (.cells #[.slice om T.ms.length cm, .slice oc T.cs.length cc] 26) = W0 at hbx hT' ⊢
  obtain ⟨r1, hB0⟩ := hbx
  obtain ⟨n1', hn1'⟩ : ∃ n, n = w.heap.size := ⟨_, rfl⟩
  rw [← hn1'] at r1 ⊢
  clear hn1'
  have a0 : W0.cell? ⟨n1', 0, none⟩ = some (.slice om T.ms.length cm) := r1.c 0 _ rfl
  have a1 : W0.cell? ⟨n1', 1, none⟩ = some (.slice oc T.cs.length cc) := r1.c 1 _ rfl
  have l1 := r1.lt
  have e1 : decide ((T.ms.length : Int) < 1) = false := decide_eq_false (by omega)
  have e2 : decide ((4 : Int) < (T.ms.length : Int)) = false := decide_eq_false (by omega)
  have e3 : decide ((4096 : Int) < (T.cs.length : Int)) = false := decide_eq_false (by omega)
  have HT := Lib.hid hT'
  clear hT'
  go_wp2_with fail
  go_loopw [26] (fun i W => ∃ k : Nat, k ≤ T.ms.length ∧ i = .int .i64 k ∧ Below W0.heap.size W0 W) (fun i _ => T.ms.length - (intOf i).toNat)
  case atStart => exact ⟨0, by omega, rfl, Below.refl _ _⟩
  case round =>
    obtain ⟨k, hk, rfl, hW⟩ := hrel
    have HW := Lib.hid hW
    by_cases hlt : k < T.ms.length
    · obtain ⟨m, hm⟩ : ∃ r, T.ms[k]? = some r := ⟨_, List.getElem?_eq_getElem hlt⟩
      obtain ⟨bm, offm, rfl, hMr⟩ := (HT.out.keep hW).ms (map_ne hlt)
      have x0 : wr.cell? ⟨bm, offm + k * 2, none⟩ = some (.slice m.op m.n m.cp) := hMr.c _ _ (map_get hm) 0 _ rfl
      have x1 : wr.cell? ⟨bm, offm + k * 2 + 1, none⟩ = some (.slice m.oe m.es.length m.ce) := hMr.c _ _ (map_get hm) 1 _ rfl
      have HM := Lib.hid (HMO.out m (List.mem_of_getElem? hm))
      have HES := Lib.hid ((HT.out.keep hW).es m (List.mem_of_getElem? hm))
      clear hMr hm hW r1 a0 a1 l1
      go_upto_region 6 with fail
      have hbx := boxes1 wr [.slice m.op m.n m.cp, .slice m.oe m.es.length m.ce] 43
      have HB1 := Lib.hid (below_call HW.out hbx.2)
      have HES1 := Lib.hid (HES.out.keep hbx.2)
      clear HES x0 x1
      generalize wr.alloc (.cells #[.slice m.op m.n m.cp, .slice m.oe m.es.length m.ce] 43) = V at hbx HB1 HES1 ⊢
      obtain ⟨rV, _⟩ := hbx
      generalize wr.heap.size = nV at rV ⊢
      have y0 : V.cell? ⟨nV, 0, none⟩ = some (.slice m.op m.n m.cp) := rV.c 0 _ rfl
      have y1 : V.cell? ⟨nV, 1, none⟩ = some (.slice m.oe m.es.length m.ce) := rV.c 1 _ rfl
      have lV := rV.lt
      go_wp2_with fail
      refine (wellFormed_any m V HM.out HES1.out).mono ?_
      rintro e X ⟨rfl, hb⟩
      have HB2 := Lib.hid (below_call HB1.out hb)
      clear hb y0 y1 lV rV
      go_wp2
      go_roundw
      case rel => exact ⟨k + 1, by omega, by simp, HB2.out⟩
      case measure => simp [intOf]; omega
    · have R1 := r1.keep hW
      have a0 : wr.cell? ⟨n1', 0, none⟩ = some (.slice om T.ms.length cm) := R1.c 0 _ rfl
      have a1 : wr.cell? ⟨n1', 1, none⟩ = some (.slice oc T.cs.length cc) := R1.c 1 _ rfl
      have l1 := R1.lt
      have HT1 := Lib.hid (HT.out.keep hW)
      clear hW
      go_wp2_with fail
      clear a0 a1 l1 R1 HT1
      go_loopw [37] (fun i W => ∃ k : Nat, k ≤ T.cs.length ∧ i = .int .i64 k ∧ Below W0.heap.size W0 W) (fun i _ => T.cs.length - (intOf i).toNat)
      case atStart => exact ⟨0, by omega, rfl, HW.out⟩
      case round =>
        obtain ⟨k, hk, rfl, hW⟩ := hrel
        have HV := Lib.hid hW
        by_cases hlt : k < T.cs.length
        · obtain ⟨c, hc⟩ : ∃ r, T.cs[k]? = some r := ⟨_, List.getElem?_eq_getElem hlt⟩
          obtain ⟨bc, offc, rfl, hCr⟩ := (HT.out.keep hW).cs (map_ne hlt)
          have x0 : wr.cell? ⟨bc, offc + k * 6, none⟩ = some (.int .i64 (c.a.arm : Nat)) := hCr.c k _ (map_get hc) 0 _ rfl
          have x1 : wr.cell? ⟨bc, offc + k * 6 + 1, none⟩ = some (.int .i64 (c.a.x : Nat)) := hCr.c k _ (map_get hc) 1 _ rfl
          have x2 : wr.cell? ⟨bc, offc + k * 6 + 2, none⟩ = some (.int .i64 (c.a.y : Nat)) := hCr.c k _ (map_get hc) 2 _ rfl
          have x3 : wr.cell? ⟨bc, offc + k * 6 + 3, none⟩ = some (.int .i64 (c.b.arm : Nat)) := hCr.c k _ (map_get hc) 3 _ rfl
          have x4 : wr.cell? ⟨bc, offc + k * 6 + 4, none⟩ = some (.int .i64 (c.b.x : Nat)) := hCr.c k _ (map_get hc) 4 _ rfl
          have x5 : wr.cell? ⟨bc, offc + k * 6 + 5, none⟩ = some (.int .i64 (c.b.y : Nat)) := hCr.c k _ (map_get hc) 5 _ rfl
          obtain ⟨hne, hla, hlb⟩ := HCF.out c (List.mem_of_getElem? hc)
          have g0 := nat_bne hne
          have HLA := Lib.hid hla
          have HLB := Lib.hid hlb
          have RT := r1.keep (HV.out)
          have HT2 := Lib.hid (HT.out.keep hW)
          clear hne hla hlb hCr hc hW
          go_upto_region 12 with fail
          have hbx := boxes1 wr [.int .i64 (c.a.arm : Nat), .int .i64 (c.a.x : Nat), .int .i64 (c.a.y : Nat), .int .i64 (c.b.arm : Nat), .int .i64 (c.b.x : Nat), .int .i64 (c.b.y : Nat)] 74
          have HB1 := Lib.hid (below_call HV.out hbx.2)
          have HT3 := Lib.hid (HT2.out.keep hbx.2)
          have RU := RT.keep hbx.2
          clear HT2 x0 x1 x2 x3 x4 x5 RT
          generalize wr.alloc (.cells #[.int .i64 (c.a.arm : Nat), .int .i64 (c.a.x : Nat), .int .i64 (c.a.y : Nat), .int .i64 (c.b.arm : Nat), .int .i64 (c.b.x : Nat), .int .i64 (c.b.y : Nat)] 74) = V at hbx HB1 HT3 RU ⊢
          obtain ⟨rV, _⟩ := hbx
          generalize wr.heap.size = nV at rV ⊢
          have y0 : V.cell? ⟨nV, 0, none⟩ = some (.int .i64 (c.a.arm : Nat)) := rV.c 0 _ rfl
          have y1 : V.cell? ⟨nV, 1, none⟩ = some (.int .i64 (c.a.x : Nat)) := rV.c 1 _ rfl
          have y2 : V.cell? ⟨nV, 2, none⟩ = some (.int .i64 (c.a.y : Nat)) := rV.c 2 _ rfl
          have y3 : V.cell? ⟨nV, 3, none⟩ = some (.int .i64 (c.b.arm : Nat)) := rV.c 3 _ rfl
          have y4 : V.cell? ⟨nV, 4, none⟩ = some (.int .i64 (c.b.x : Nat)) := rV.c 4 _ rfl
          have y5 : V.cell? ⟨nV, 5, none⟩ = some (.int .i64 (c.b.y : Nat)) := rV.c 5 _ rfl
          have b0 : V.cell? ⟨n1', 0, none⟩ = some (.slice om T.ms.length cm) := RU.c 0 _ rfl
          have b1 : V.cell? ⟨n1', 1, none⟩ = some (.slice (some ⟨bc, offc, none⟩) T.cs.length cc) := RU.c 1 _ rfl
          have lV := rV.lt
          have lU := RU.lt
          go_wp2_with fail
          refine (legal_ok om _ cm cc T c.a V HO.out HLA.out HT3.out).mono ?_
          rintro e X ⟨rfl, hb⟩
          have HB2 := Lib.hid (below_call HB1.out hb)
          have HT4 := Lib.hid (HT3.out.keep hb)
          have rX := rV.keep hb
          have RX := RU.keep hb
          clear hb y0 y1 y2 y3 y4 y5 b0 b1 lV lU rV RU HT3
          have y3 : X.cell? ⟨nV, 3, none⟩ = some (.int .i64 (c.b.arm : Nat)) := rX.c 3 _ rfl
          have y4 : X.cell? ⟨nV, 4, none⟩ = some (.int .i64 (c.b.x : Nat)) := rX.c 4 _ rfl
          have y5 : X.cell? ⟨nV, 5, none⟩ = some (.int .i64 (c.b.y : Nat)) := rX.c 5 _ rfl
          have b0 : X.cell? ⟨n1', 0, none⟩ = some (.slice om T.ms.length cm) := RX.c 0 _ rfl
          have b1 : X.cell? ⟨n1', 1, none⟩ = some (.slice (some ⟨bc, offc, none⟩) T.cs.length cc) := RX.c 1 _ rfl
          have lV := rX.lt
          have lU := RX.lt
          go_wp2_with fail
          refine (legal_ok om _ cm cc T c.b X HO.out HLB.out HT4.out).mono ?_
          rintro e Y ⟨rfl, hb⟩
          have HB3 := Lib.hid (below_call HB2.out hb)
          clear hb y3 y4 y5 b0 b1 lV lU rX RX HT4
          go_wp2
          go_roundw
          case rel => exact ⟨k + 1, by omega, by simp, HB3.out⟩
          case measure => simp [intOf]; omega
        · go_wp2
          go_ret
          exact boolP_mk rfl (below_call hB0 HV.out)
end Go.Proofs.Jn
end

section
/-
  A box of two rows that are being made, beside the maker's source.
-/
namespace Go.Proofs.Jn
open Go.RowKit

theorem Src.keep {W W' : World} {nS : Nat} {os : Option Addr} {cap : Nat} {xs : List Int} (h : Src W nS os cap xs) (hb : Below W.heap.size W W') : Src W' nS os cap xs := h.keepB hb
theorem Sl.keepG {W W' : World} {oa : Option Addr} {n nS : Nat} {rows : List (List Value)} (h : Sl W oa n rows) (hg : W.grownBy W' (some nS)) (hne : ∀ b o s, oa = some ⟨b, o, s⟩ → b ≠ nS) : Sl W' oa n rows := by
  intro h0
  obtain ⟨b, off, e, h1⟩ := h h0
  exact ⟨b, off, e, h1.keepG hg (hne b off none e)⟩
structure Bx2 (w : World) (nS n3 : Nat) (os : Option Addr) (cap : Nat) (xs : List Int) (e1 s1 e2 s2 : Nat) (r1 r2 : List (List Value)) (v u : Value) (W : World) : Prop where
  gr : w.grownBy W (some nS)
  src : Src W nS os cap xs
  b3 : Blk W n3 [v, u]
  o1 : W.ownsRow (n3 + 1) e1 s1 v r1.length r1.flatten
  o2 : W.ownsRow (n3 + 1) e2 s2 u r2.length r2.flatten
  ap : ∀ g, v.ownBlock = some g → u.ownBlock ≠ some g
  hb : n3 + 1 ≤ W.heap.size
  i0 : Sl w os 1 (pvals xs)
  hs : nS < w.heap.size
  h3 : w.heap.size ≤ n3
section
variable {w W W' W1 : World} {nS n3 : Nat} {os : Option Addr} {cap : Nat} {xs : List Int} {e1 s1 e2 s2 : Nat} {r1 r2 : List (List Value)} {v u : Value}
theorem Bx2.call (h : Bx2 w nS n3 os cap xs e1 s1 e2 s2 r1 r2 v u W) (hg : W.grownBy W' (some nS)) (hS : Src W' nS os cap xs) : Bx2 w nS n3 os cap xs e1 s1 e2 s2 r1 r2 v u W' := by
  have hs := h.hs; have h3 := h.h3
  exact ⟨grown_trans h.gr hg, hS, h.b3.keepG hg (by omega), own_blk h.o1 fun g _ hl hb => hg.block g hl (fun e => by injection e; omega), own_blk h.o2 fun g _ hl hb => hg.block g hl (fun e => by injection e; omega), h.ap, Nat.le_trans h.hb hg.size, h.i0, hs, h3⟩
theorem Bx2.bel (h : Bx2 w nS n3 os cap xs e1 s1 e2 s2 r1 r2 v u W) (hg : Below W.heap.size W W') : Bx2 w nS n3 os cap xs e1 s1 e2 s2 r1 r2 v u W' :=
  ⟨grown_trans h.gr (grown_of_below hg), h.src.keepB hg, h.b3.keep hg, own_keep h.o1 hg, own_keep h.o2 hg, h.ap, Nat.le_trans h.hb hg.size, h.i0, h.hs, h.h3⟩
theorem Bx2.keep (h : Bx2 w nS n3 os cap xs e1 s1 e2 s2 r1 r2 v u W) (hg : Below W.heap.size W W') : Bx2 w nS n3 os cap xs e1 s1 e2 s2 r1 r2 v u W' := h.bel hg
theorem Bx2.new (W : World) (nS : Nat) (os : Option Addr) (cap : Nat) (xs : List Int) (e1 s1 e2 s2 : Nat) (t : TypeId) (hS : Src W nS os cap xs) :
    Bx2 W nS W.heap.size os cap xs e1 s1 e2 s2 [] [] (.slice none 0 0) (.slice none 0 0) (W.alloc (.cells #[.slice none 0 0, .slice none 0 0] t)) := by
  have hb1 : Below W.heap.size W (W.alloc (.cells #[.slice none 0 0, .slice none 0 0] t)) := (Below.refl _ _).alloc (Nat.le_refl _) _
  exact ⟨grown_of_below hb1, hS.keepB hb1, Blk.new W [.slice none 0 0, .slice none 0 0] t, World.ownsRow_nil _ _ _ _, World.ownsRow_nil _ _ _ _, (fun g h => by cases h), by simp, hS.ints, src_lt hS, Nat.le_refl _⟩
theorem flat_snoc (r : List (List Value)) (l : List Value) : (r ++ [l]).flatten = r.flatten ++ l := by simp
theorem Bx2.app1 (h : Bx2 w nS n3 os cap xs e1 s1 e2 s2 r1 r2 v u W) (l : List Value) (g c : Nat)
    (ho : W1.ownsRow (n3 + 1) e1 s1 (.slice (some ⟨g, 0, none⟩) (r1.length + 1) c) (r1.length + 1) (r1.flatten ++ l)) (hg : W.grownBy W1 v.ownBlock) (ha : v.ownBlock = some g ∨ g = W.heap.size) :
    Bx2 w nS n3 os cap xs e1 s1 e2 s2 (r1 ++ [l]) r2 (.slice (some ⟨g, 0, none⟩) (r1.length + 1) c) u (W1.setCell ⟨n3, 0, none⟩ (.slice (some ⟨g, 0, none⟩) (r1.length + 1) c)) := by
  have hs := h.hs; have h3 := h.h3; have hb := h.hb
  have B1 : Below (n3 + 1) W W1 := grown_below h.o1 hg h.hb
  have e : ∀ k, k ≠ n3 → (W1.setCell ⟨n3, 0, none⟩ (.slice (some ⟨g, 0, none⟩) (r1.length + 1) c)).heap[k]? = W1.heap[k]? := fun k hk => Below.heap_setCell W1 ⟨n3, 0, none⟩ _ k hk
  have B2 : Below n3 W (W1.setCell ⟨n3, 0, none⟩ (.slice (some ⟨g, 0, none⟩) (r1.length + 1) c)) := (B1.mono (Nat.le_succ n3)).setCell (p := ⟨n3, 0, none⟩) (Nat.le_refl _) _
  refine ⟨grown_low h.gr (B2.mono (by omega)), h.src.low h.i0 hs (B2.mono (by omega)), (h.b3.low (by omega) B1).put 0 _, ?_, ?_, ?_, ?_, h.i0, hs, h3⟩
  · rw [flat_snoc, List.length_append]
    exact own_blk ho fun q _ _ hq => e q (by omega)
  · refine own_blk h.o2 fun q hq1 hq2 hq3 => (e q (by omega)).trans (hg.block q hq2 ?_)
    exact fun e => h.ap q e.symm hq1
  · intro q hq
    have hqg : q = g := by
      simp [Value.ownBlock] at hq
      exact hq.symm
    subst hqg
    rcases ha with ha | ha
    · exact h.ap q ha
    · intro hc
      have := (own_lt h.o2 q hc).1
      omega
  · exact Nat.le_trans hb B2.size
theorem Bx2.app2 (h : Bx2 w nS n3 os cap xs e1 s1 e2 s2 r1 r2 v u W) (l : List Value) (g c : Nat)
    (ho : W1.ownsRow (n3 + 1) e2 s2 (.slice (some ⟨g, 0, none⟩) (r2.length + 1) c) (r2.length + 1) (r2.flatten ++ l)) (hg : W.grownBy W1 u.ownBlock) (ha : u.ownBlock = some g ∨ g = W.heap.size) :
    Bx2 w nS n3 os cap xs e1 s1 e2 s2 r1 (r2 ++ [l]) v (.slice (some ⟨g, 0, none⟩) (r2.length + 1) c) (W1.setCell ⟨n3, 1, none⟩ (.slice (some ⟨g, 0, none⟩) (r2.length + 1) c)) := by
  have hs := h.hs; have h3 := h.h3; have hb := h.hb
  have B1 : Below (n3 + 1) W W1 := grown_below h.o2 hg h.hb
  have e : ∀ k, k ≠ n3 → (W1.setCell ⟨n3, 1, none⟩ (.slice (some ⟨g, 0, none⟩) (r2.length + 1) c)).heap[k]? = W1.heap[k]? := fun k hk => Below.heap_setCell W1 ⟨n3, 1, none⟩ _ k hk
  have B2 : Below n3 W (W1.setCell ⟨n3, 1, none⟩ (.slice (some ⟨g, 0, none⟩) (r2.length + 1) c)) := (B1.mono (Nat.le_succ n3)).setCell (p := ⟨n3, 1, none⟩) (Nat.le_refl _) _
  refine ⟨grown_low h.gr (B2.mono (by omega)), h.src.low h.i0 hs (B2.mono (by omega)), (h.b3.low (by omega) B1).put 1 _, ?_, ?_, ?_, ?_, h.i0, hs, h3⟩
  · refine own_blk h.o1 fun q hq1 hq2 hq3 => (e q (by omega)).trans (hg.block q hq2 ?_)
    exact fun e => h.ap q hq1 e.symm
  · rw [flat_snoc, List.length_append]
    exact own_blk ho fun q _ _ hq => e q (by omega)
  · intro q hq hc
    have hqg : q = g := by
      simp [Value.ownBlock] at hc
      exact hc.symm
    subst hqg
    rcases ha with ha | ha
    · exact h.ap q hq ha
    · have := (own_lt h.o1 q hq).1
      omega
  · exact Nat.le_trans hb B2.size
/-- A block that is neither the box nor a row of the box nor the source stays through an append. -/
theorem Bx2.far1 (h : Bx2 w nS n3 os cap xs e1 s1 e2 s2 r1 r2 v u W) (hg : W.grownBy W1 v.ownBlock) (x : Value) (q : Nat) (hq : q < W.heap.size) (h1 : v.ownBlock ≠ some q) (h2 : q ≠ n3) : (W1.setCell ⟨n3, 0, none⟩ x).heap[q]? = W.heap[q]? :=
  (Below.heap_setCell W1 ⟨n3, 0, none⟩ _ q h2).trans (hg.block q hq fun e => h1 e.symm)
theorem Bx2.far2 (h : Bx2 w nS n3 os cap xs e1 s1 e2 s2 r1 r2 v u W) (hg : W.grownBy W1 u.ownBlock) (x : Value) (q : Nat) (hq : q < W.heap.size) (h1 : u.ownBlock ≠ some q) (h2 : q ≠ n3) : (W1.setCell ⟨n3, 1, none⟩ x).heap[q]? = W.heap[q]? :=
  (Below.heap_setCell W1 ⟨n3, 1, none⟩ _ q h2).trans (hg.block q hq fun e => h1 e.symm)
end
theorem Blk.al {W : World} {b : Nat} {l : List Value} (h : Blk W b l) (o : Obj) : Blk (W.alloc o) b l := h.keep ((Below.refl _ _).alloc (Nat.le_refl _) _)
/-- Blocks that a call makes first. -/
theorem blks1 (w : World) (a : List Value) (s : TypeId) : Blk (w.alloc (.cells a.toArray s)) w.heap.size a ∧ Below w.heap.size w (w.alloc (.cells a.toArray s)) :=
  ⟨Blk.new w a s, (Below.refl _ _).alloc (Nat.le_refl _) _⟩
theorem blks2 (w : World) (a b : List Value) (s t : TypeId) : Blk ((w.alloc (.cells a.toArray s)).alloc (.cells b.toArray t)) w.heap.size a ∧ Blk ((w.alloc (.cells a.toArray s)).alloc (.cells b.toArray t)) (w.heap.size + 1) b ∧
    Below w.heap.size w ((w.alloc (.cells a.toArray s)).alloc (.cells b.toArray t)) := by
  have e : (w.alloc (.cells a.toArray s)).heap.size = w.heap.size + 1 := by simp
  have r := Blk.new (w.alloc (.cells a.toArray s)) b t
  rw [e] at r
  exact ⟨(Blk.new w a s).al _, r, ((Below.refl _ _).alloc (Nat.le_refl _) _).alloc (by simp) _⟩
theorem blks3 (w : World) (a b c : List Value) (s t u : TypeId) : Blk (((w.alloc (.cells a.toArray s)).alloc (.cells b.toArray t)).alloc (.cells c.toArray u)) w.heap.size a ∧ Blk (((w.alloc (.cells a.toArray s)).alloc (.cells b.toArray t)).alloc (.cells c.toArray u)) (w.heap.size + 1) b ∧
    Blk (((w.alloc (.cells a.toArray s)).alloc (.cells b.toArray t)).alloc (.cells c.toArray u)) (w.heap.size + 1 + 1) c ∧ Below w.heap.size w (((w.alloc (.cells a.toArray s)).alloc (.cells b.toArray t)).alloc (.cells c.toArray u)) := by
  obtain ⟨h1, h2, h3⟩ := blks2 w a b s t
  have e : ((w.alloc (.cells a.toArray s)).alloc (.cells b.toArray t)).heap.size = w.heap.size + 1 + 1 := by simp
  have r := Blk.new ((w.alloc (.cells a.toArray s)).alloc (.cells b.toArray t)) c u
  rw [e] at r
  exact ⟨h1.al _, h2.al _, r, h3.alloc (by simp; omega) _⟩
theorem Ed.one (e : Ed) : ∀ u ∈ e.vals, u.oneCell' = true := by
  intro u hu
  simp [Ed.vals] at hu
  rcases hu with rfl | rfl | rfl | rfl | rfl | rfl | rfl | rfl | rfl | rfl | rfl | rfl <;> rfl
theorem Cf.one (c : Cf) : ∀ u ∈ c.vals, u.oneCell' = true := by
  intro u hu
  simp [Cf.vals, Mv.vals] at hu
  rcases hu with rfl | rfl | rfl | rfl | rfl | rfl <;> rfl
theorem info43 : (Try.prog.info? 43).map (fun i => (i.zero, i.size, i.bytes)) = some (some (.agg #[.slice none 0 0, .slice none 0 0]), 2, 48) := by kernel_rfl
theorem info54 : (Try.prog.info? 54).map (fun i => (i.zero, i.size, i.bytes)) = some (some (.agg #[.int .i64 0, .int .i64 0, .int .i64 0, .int .i64 0, .int .i64 0, .slice none 0 0, .int .i64 0, .int .i64 0, .slice none 0 0, .int .i64 0, .slice none 0 0, .slice none 0 0]), 12, 160) := by kernel_rfl
theorem info74 : (Try.prog.info? 74).map (fun i => (i.zero, i.size, i.bytes)) = some (some (.agg #[.int .i64 0, .int .i64 0, .int .i64 0, .int .i64 0, .int .i64 0, .int .i64 0]), 6, 48) := by kernel_rfl
theorem info48 : (Try.prog.info? 48).map (fun i => (i.zero, i.size, i.bytes)) = some (some (.slice none 0 0), 1, 24) := by kernel_rfl
theorem info3 : (Try.prog.info? 3).map (fun i => (i.zero, i.size, i.bytes)) = some (some (.int .i64 0), 1, 8) := by kernel_rfl
theorem info22 : (Try.prog.info? 22).map (fun i => (i.zero, i.size, i.bytes)) = some (some (.slice none 0 0), 1, 24) := by kernel_rfl
theorem info30 : (Try.prog.info? 30).map (fun i => (i.zero, i.size, i.bytes)) = some (some (.slice none 0 0), 1, 24) := by kernel_rfl
theorem under22 : Try.prog.underlying 22 = some (.slice 3) := by kernel_rfl
theorem under23 : Try.prog.underlying 23 = some (.slice 43) := by kernel_rfl
theorem under24 : Try.prog.underlying 24 = some (.slice 74) := by kernel_rfl
theorem under40 : Try.prog.underlying 40 = some (.slice 48) := by kernel_rfl
theorem under41 : Try.prog.underlying 41 = some (.slice 54) := by kernel_rfl
theorem under30 : Try.prog.underlying 30 = some (.slice 22) := by kernel_rfl
theorem under79 : Try.prog.underlying 79 = some (.slice 30) := by kernel_rfl
theorem info_parts {P : Program} {t : TypeId} {z : Value} {s b : Nat} (h : (P.info? t).map (fun i => (i.zero, i.size, i.bytes)) = some (some z, s, b)) : ∃ i, P.info? t = some i ∧ i.zero = some z ∧ i.size = s ∧ i.bytes = b := by
  cases hi : P.info? t with
  | none => rw [hi] at h; cases h
  | some i =>
    rw [hi] at h
    simp at h
    exact ⟨i, rfl, h.1, h.2.1, h.2.2⟩
end Go.Proofs.Jn
end

