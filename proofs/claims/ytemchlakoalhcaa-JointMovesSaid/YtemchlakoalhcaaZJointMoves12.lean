/-
  Texts put together: Ka Bs Bx Bu By Bz.
-/
import Derived.Test.YtemchlakoalhcaaZJointMoves11
import Derived.Shelf.Sort.Plain
import Derived.Shelf.SlSorted.Search
import Derived.Test.YtemchlakoalhcaaProg
import Derived.Laws.StructEq
set_option linter.unusedVariables false
section
/-
  Arbitrary roadmaps: wellFormed.
-/
namespace Go.Proofs.Jn
open Go.RowKit

/-- An edge, whatever its numbers. -/
structure Er where
  u : Int
  v : Int
  c : Int
  st : Int
  k0 : Int
  s1 : Sli
  k2 : Int
  k3 : Int
  s4 : Sli
  k5 : Int
  s6 : Sli
  s7 : Sli
def Er.vals (e : Er) : List Value := [.int .i64 e.u, .int .i64 e.v, .int .i64 e.c, .int .i64 e.st, .int .i64 e.k0, .slice e.s1.a e.s1.n e.s1.c, .int .i64 e.k2, .int .i64 e.k3, .slice e.s4.a e.s4.n e.s4.c, .int .i64 e.k5, .slice e.s6.a e.s6.n e.s6.c, .slice e.s7.a e.s7.n e.s7.c]
/-- A roadmap, whatever its edges. -/
structure Rm where
  n : Nat
  op : Option Addr
  cp : Nat
  oe : Option Addr
  ce : Nat
  es : List Er
def Rm.vals (m : Rm) : List Value := [.slice m.op m.n m.cp, .slice m.oe m.es.length m.ce]
def okE (n : Nat) (e : Er) : Prop := 0 ≤ e.u ∧ e.u < e.v ∧ e.v < (n : Int) ∧ 0 ≤ e.c ∧ e.c ≤ 1099511627776
def ascE (e f : Er) : Prop := e.u < f.u ∨ (e.u = f.u ∧ e.v < f.v)
/-- Edges that are in order. -/
structure WF (m : Rm) : Prop where
  ed : ∀ (k : Nat) (e : Er), m.es[k]? = some e → okE m.n e
  asc : ∀ (k : Nat) (e f : Er), m.es[k]? = some e → m.es[k + 1]? = some f → ascE e f
/-- What a test of a fact answers. -/
def VerP (P : Prop) (w : World) (e : Ending) (W : World) : Prop := ∃ b : Bool, e = .returned (.bool b) ∧ (b = true ↔ P) ∧ Below w.heap.size w W
theorem verP_no {P : Prop} {w W : World} (h : ¬ P) (hb : Below w.heap.size w W) : VerP P w (.returned (.bool false)) W := ⟨false, rfl, ⟨fun h => by (cases h), fun hp => absurd hp h⟩, hb⟩
theorem verP_yes {P : Prop} {w W : World} (h : P) (hb : Below w.heap.size w W) : VerP P w (.returned (.bool true)) W := ⟨true, rfl, ⟨fun _ => h, fun _ => rfl⟩, hb⟩
/-- The first k edges are in order. -/
structure WFto (m : Rm) (k : Nat) : Prop where
  ed : ∀ (j : Nat) (e : Er), j < k → m.es[j]? = some e → okE m.n e
  asc : ∀ (j : Nat) (e f : Er), j + 1 < k → m.es[j]? = some e → m.es[j + 1]? = some f → ascE e f
theorem WFto.zero (m : Rm) : WFto m 0 := ⟨fun j e h => absurd h (Nat.not_lt_zero _), fun j e f h => absurd h (Nat.not_lt_zero _)⟩
theorem WFto.next {m : Rm} {k : Nat} {e : Er} (h : WFto m k) (he : m.es[k]? = some e) (ho : okE m.n e) (ha : ∀ p, k ≠ 0 → m.es[k - 1]? = some p → ascE p e) : WFto m (k + 1) := by
  refine ⟨fun j f hj hf => ?_, fun j f g hj hf hg => ?_⟩
  · rcases Nat.lt_or_ge j k with h1 | h1
    · exact h.ed j f h1 hf
    · have : j = k := by omega
      subst this
      rw [he] at hf; injection hf with hf; subst hf; exact ho
  · rcases Nat.lt_or_ge (j + 1) k with h1 | h1
    · exact h.asc j f g h1 hf hg
    · have : k = j + 1 := by omega
      subst this
      rw [he] at hg; injection hg with hg; subst hg
      exact ha f (by omega) (by simpa using hf)
theorem WFto.all {m : Rm} (h : WFto m m.es.length) : WF m :=
  ⟨fun k e he => h.ed k e (List.getElem?_eq_some_iff.1 he).1 he, fun k e f he hf => h.asc k e f (List.getElem?_eq_some_iff.1 hf).1 he hf⟩

set_option maxRecDepth 100000 in
set_option maxHeartbeats 4000000 in
theorem wellFormed_raw (m : Rm) (w : World) (hn : m.n ≤ 1000) (hlen : m.es.length ≤ 1000) (hE : Sl w m.oe 12 (m.es.map Er.vals)) :
    Calls Try.prog 53 #[.agg #[.slice m.op m.n m.cp, .slice m.oe m.es.length m.ce]] w (VerP (WF m) w) := by
  go_enter Try.func53, Try.ntmps53
  go_upto_region 1 with fail
  have hbx_ := boxes1 w [.slice m.op m.n m.cp, .slice m.oe m.es.length m.ce] 43
  replace hE := hE.keep hbx_.2
  have HB := Lib.hid (hbx_.2)
  generalize w.alloc (.cells #[.slice m.op m.n m.cp, .slice m.oe m.es.length m.ce] 43) = W0 at hbx_ hE HB ⊢
  obtain ⟨r1, hbel_⟩ := hbx_
  obtain ⟨n1, hn_⟩ : ∃ n, n = w.heap.size := ⟨_, rfl⟩
  rw [← hn_] at r1 ⊢
  clear hn_ hbel_
  have HE := Lib.hid hE
  have HR1 := Lib.hid r1
  have a0 : W0.cell? ⟨n1, 0, none⟩ = some (.slice m.op m.n m.cp) := r1.c 0 _ rfl
  have a1 : W0.cell? ⟨n1, 1, none⟩ = some (.slice m.oe m.es.length m.ce) := r1.c 1 _ rfl
  have l1 := r1.lt
  clear hE r1
  go_wp2_with fail
  clear a0 a1 l1
  go_loopw [3, 4, 20] (fun p q i W => ∃ (k : Nat) (pu pv : Int), i = .int .i64 (k : Nat) ∧ k ≤ m.es.length ∧ p = .int .i64 pu ∧ q = .int .i64 pv ∧ Below W0.heap.size W0 W ∧ WFto m k ∧ ((k = 0 ∧ pu = -1) ∨ (k ≠ 0 ∧ ∃ e, m.es[k - 1]? = some e ∧ pu = e.u ∧ pv = e.v))) (fun _ _ i _ => m.es.length - (intOf i).toNat)
  case atStart => exact ⟨0, -1, -1, rfl, Nat.zero_le _, rfl, rfl, Below.refl _ _, WFto.zero m, .inl ⟨rfl, rfl⟩⟩
  case round =>
    obtain ⟨k, pu, pv, rfl, hk, rfl, rfl, hW, hto, hpre⟩ := hrel
    obtain ⟨Wa, rfl⟩ : ∃ X, X = wr := ⟨_, rfl⟩
    have HTO := Lib.hid hto
    have HPRE := Lib.hid hpre
    have HW := Lib.hid hW
    have r1 := HR1.out.keep hW
    have HR1a := Lib.hid r1
    have a0 : Wa.cell? ⟨n1, 0, none⟩ = some (.slice m.op m.n m.cp) := r1.c 0 _ rfl
    have a1 : Wa.cell? ⟨n1, 1, none⟩ = some (.slice m.oe m.es.length m.ce) := r1.c 1 _ rfl
    have l1 := r1.lt
    clear hto hpre hW r1
    by_cases hlt : k < m.es.length
    · obtain ⟨e, he⟩ : ∃ e, m.es[k]? = some e := ⟨_, List.getElem?_eq_getElem hlt⟩
      obtain ⟨be, offe, hoe, hEr⟩ := (HE.out.keep HW.out) (map_ne hlt)
      have x0 : Wa.cell? ⟨be, offe + k * 12, none⟩ = some (.int .i64 e.u) := hEr.c k _ (map_get he) 0 _ rfl
      have x1 : Wa.cell? ⟨be, offe + k * 12 + 1, none⟩ = some (.int .i64 e.v) := hEr.c k _ (map_get he) 1 _ rfl
      have x2 : Wa.cell? ⟨be, offe + k * 12 + 2, none⟩ = some (.int .i64 e.c) := hEr.c k _ (map_get he) 2 _ rfl
      have x3 : Wa.cell? ⟨be, offe + k * 12 + 3, none⟩ = some (.int .i64 e.st) := hEr.c k _ (map_get he) 3 _ rfl
      have x4 : Wa.cell? ⟨be, offe + k * 12 + 4, none⟩ = some (.int .i64 e.k0) := hEr.c k _ (map_get he) 4 _ rfl
      have x5 : Wa.cell? ⟨be, offe + k * 12 + 5, none⟩ = some (.slice e.s1.a e.s1.n e.s1.c) := hEr.c k _ (map_get he) 5 _ rfl
      have x6 : Wa.cell? ⟨be, offe + k * 12 + 6, none⟩ = some (.int .i64 e.k2) := hEr.c k _ (map_get he) 6 _ rfl
      have x7 : Wa.cell? ⟨be, offe + k * 12 + 7, none⟩ = some (.int .i64 e.k3) := hEr.c k _ (map_get he) 7 _ rfl
      have x8 : Wa.cell? ⟨be, offe + k * 12 + 8, none⟩ = some (.slice e.s4.a e.s4.n e.s4.c) := hEr.c k _ (map_get he) 8 _ rfl
      have x9 : Wa.cell? ⟨be, offe + k * 12 + 9, none⟩ = some (.int .i64 e.k5) := hEr.c k _ (map_get he) 9 _ rfl
      have x10 : Wa.cell? ⟨be, offe + k * 12 + 10, none⟩ = some (.slice e.s6.a e.s6.n e.s6.c) := hEr.c k _ (map_get he) 10 _ rfl
      have x11 : Wa.cell? ⟨be, offe + k * 12 + 11, none⟩ = some (.slice e.s7.a e.s7.n e.s7.c) := hEr.c k _ (map_get he) 11 _ rfl
      have lbe := hEr.lt
      have HEk := Lib.hid he
      clear hEr he
      rw [hoe]
      go_upto_region 7 with fail
      clear x0 x1 x2 x3 x4 x5 x6 x7 x8 x9 x10 x11 lbe a0 a1 l1 hoe
      have hbx_ := boxes1 Wa [.int .i64 e.u, .int .i64 e.v, .int .i64 e.c, .int .i64 e.st, .int .i64 e.k0, .slice e.s1.a e.s1.n e.s1.c, .int .i64 e.k2, .int .i64 e.k3, .slice e.s4.a e.s4.n e.s4.c, .int .i64 e.k5, .slice e.s6.a e.s6.n e.s6.c, .slice e.s7.a e.s7.n e.s7.c] 54
      replace HR1a := Lib.hid (HR1a.out.keep hbx_.2)
      have HW3 := Lib.hid (below_call HW.out (hbx_.2))
      generalize Wa.alloc (.cells #[.int .i64 e.u, .int .i64 e.v, .int .i64 e.c, .int .i64 e.st, .int .i64 e.k0, .slice e.s1.a e.s1.n e.s1.c, .int .i64 e.k2, .int .i64 e.k3, .slice e.s4.a e.s4.n e.s4.c, .int .i64 e.k5, .slice e.s6.a e.s6.n e.s6.c, .slice e.s7.a e.s7.n e.s7.c] 54) = W3 at hbx_ HR1a HW3 ⊢
      obtain ⟨r6, hbel_⟩ := hbx_
      obtain ⟨n6, hn_⟩ : ∃ n, n = Wa.heap.size := ⟨_, rfl⟩
      rw [← hn_] at r6 ⊢
      clear hn_ hbel_
      have y0 : W3.cell? ⟨n6, 0, none⟩ = some (.int .i64 e.u) := r6.c 0 _ rfl
      have y1 : W3.cell? ⟨n6, 1, none⟩ = some (.int .i64 e.v) := r6.c 1 _ rfl
      have y2 : W3.cell? ⟨n6, 2, none⟩ = some (.int .i64 e.c) := r6.c 2 _ rfl
      have a0 : W3.cell? ⟨n1, 0, none⟩ = some (.slice m.op m.n m.cp) := HR1a.out.c 0 _ rfl
      have l6 := r6.lt
      have l1 := HR1a.out.lt
      clear r6
      by_cases q0 : e.u < 0
      · have d0 : decide (e.u < 0) = true := decide_eq_true q0
        have HNO : Hid (¬ WF m) := Lib.hid fun h => by have := (h.ed k e HEk.out).1; omega
        clear q0
        go_wp2_with fail
        go_ret
        exact verP_no HNO.out (below_call HB.out HW3.out)
      · have d0 : decide (e.u < 0) = false := decide_eq_false q0
        by_cases q1 : e.u ≥ e.v
        · have d1 : decide (e.u ≥ e.v) = true := decide_eq_true q1
          have HNO : Hid (¬ WF m) := Lib.hid fun h => by have := (h.ed k e HEk.out).2.1; omega
          clear q0 q1
          go_wp2_with fail
          go_ret
          exact verP_no HNO.out (below_call HB.out HW3.out)
        · have d1 : decide (e.u ≥ e.v) = false := decide_eq_false q1
          by_cases q2 : e.v ≥ (m.n : Int)
          · have d2 : decide (e.v ≥ (m.n : Int)) = true := decide_eq_true q2
            have HNO : Hid (¬ WF m) := Lib.hid fun h => by have := (h.ed k e HEk.out).2.2.1; omega
            clear q0 q1 q2
            go_wp2_with fail
            go_ret
            exact verP_no HNO.out (below_call HB.out HW3.out)
          · have d2 : decide (e.v ≥ (m.n : Int)) = false := decide_eq_false q2
            by_cases q3 : e.c < 0
            · have d3 : decide (e.c < 0) = true := decide_eq_true q3
              have HNO : Hid (¬ WF m) := Lib.hid fun h => by have := (h.ed k e HEk.out).2.2.2.1; omega
              clear q0 q1 q2 q3
              go_wp2_with fail
              go_ret
              exact verP_no HNO.out (below_call HB.out HW3.out)
            · have d3 : decide (e.c < 0) = false := decide_eq_false q3
              by_cases q4 : e.c > 1099511627776
              · have d4 : decide (e.c > 1099511627776) = true := decide_eq_true q4
                have HNO : Hid (¬ WF m) := Lib.hid fun h => by have := (h.ed k e HEk.out).2.2.2.2; omega
                clear q0 q1 q2 q3 q4
                go_wp2_with fail
                go_ret
                exact verP_no HNO.out (below_call HB.out HW3.out)
              · have d4 : decide (e.c > 1099511627776) = false := decide_eq_false q4
                have HOK : Hid (okE m.n e) := Lib.hid ⟨by omega, by omega, by omega, by omega, by omega⟩
                have HAS : Hid ((pu < e.u ∨ (pu = e.u ∧ pv < e.v)) → WFto m (k + 1)) := Lib.hid fun h => HTO.out.next HEk.out HOK.out fun p hk0 hp => by
                  rcases HPRE.out with ⟨h1, -⟩ | ⟨-, f, hf, h1, h2⟩
                  · exact absurd h1 hk0
                  · rw [hf] at hp; injection hp with hp; subst hp
                    unfold ascE
                    rw [← h1, ← h2]; exact h
                have HNA : Hid (¬ (pu < e.u ∨ (pu = e.u ∧ pv < e.v)) → ¬ WF m) := Lib.hid fun h hwf => by
                  rcases HPRE.out with ⟨-, h1⟩ | ⟨hk0, f, hf, h1, h2⟩
                  · omega
                  · have := hwf.asc (k - 1) f e hf (by rw [show k - 1 + 1 = k by omega]; exact HEk.out)
                    unfold ascE at this
                    rw [← h1, ← h2] at this
                    exact h this
                clear q0 q1 q2 q3 q4
                go_upto_region 9 with fail
                clear d0 d1 d2 d3 d4
                by_cases g1 : e.u < pu
                · have d1 : decide (e.u < pu) = true := decide_eq_true g1
                  have HNO : Hid (¬ WF m) := Lib.hid (HNA.out (by omega))
                  clear g1
                  go_wp2_with fail
                  go_ret
                  exact verP_no HNO.out (below_call HB.out HW3.out)
                · have d1 : decide (e.u < pu) = false := decide_eq_false g1
                  by_cases g2 : e.u = pu
                  · have d2 := int_beq e.u pu
                    rw [decide_eq_true g2] at d2
                    by_cases g3 : e.v ≤ pv
                    · have d3 : decide (e.v ≤ pv) = true := decide_eq_true g3
                      have HNO : Hid (¬ WF m) := Lib.hid (HNA.out (by omega))
                      clear g1 g2 g3
                      go_wp2_with fail
                      go_ret
                      exact verP_no HNO.out (below_call HB.out HW3.out)
                    · have d3 : decide (e.v ≤ pv) = false := decide_eq_false g3
                      have HTN := Lib.hid (HAS.out (by omega))
                      clear g1 g2 g3
                      go_upto_region 11 with fail
                      go_quiet (fail)
                      have HW4 := Lib.hid (below_call HW3.out ((below_drew W3 nq)))
                      generalize W3.drewN nq = W4 at HW4  ⊢
                      clear y0 y1 y2 a0 l6 l1 d1 d2 d3
                      go_wp2
                      go_roundw
                      case rel => exact ⟨k + 1, e.u, e.v, by simp, by omega, rfl, rfl, HW4.out, HTN.out, .inr ⟨by omega, e, by simpa using HEk.out, rfl, rfl⟩⟩
                      case measure => simp [intOf]; omega
                  · have d2 := int_beq e.u pu
                    rw [decide_eq_false g2] at d2
                    have HTN := Lib.hid (HAS.out (by omega))
                    clear g1 g2
                    go_upto_region 11 with fail
                    go_quiet (fail)
                    have HW4 := Lib.hid (below_call HW3.out ((below_drew W3 nq)))
                    generalize W3.drewN nq = W4 at HW4  ⊢
                    clear y0 y1 y2 a0 l6 l1 d1 d2
                    go_wp2
                    go_roundw
                    case rel => exact ⟨k + 1, e.u, e.v, by simp, by omega, rfl, rfl, HW4.out, HTN.out, .inr ⟨by omega, e, by simpa using HEk.out, rfl, rfl⟩⟩
                    case measure => simp [intOf]; omega
    · have hkl : k = m.es.length := by omega
      have HWF : Hid (WF m) := Lib.hid (by have := HTO.out; rw [hkl] at this; exact this.all)
      have HEND := Lib.hid (below_call HB.out HW.out)
      clear hkl
      go_wp2_with fail
      go_ret
      exact verP_yes HWF.out HEND.out
end Go.Proofs.Jn
end

section
/-
  The library's sort and its binary search, laid at this program in plain words (printed by lay-plain.mjs).
-/
namespace Go.Proofs
open Go.Shelf
def Try.sortL_ren : Go.Shelf.Ren := ⟨fun | 189 => 63 | 125 => 73 | 257 => 72 | 128 => 83 | 129 => 84 | 294 => 74 | 295 => 75 | 296 => 76 | 297 => 77 | 298 => 78 | 299 => 79 | 216 => 80 | 300 => 81 | 301 => 82 | 328 => 85 | 329 => 86 | 330 => 87 | 331 => 88 | 332 => 89 | 215 => 90 | 343 => 91 | n => n, fun | 28 => 22 | 3 => 3 | 46 => 138 | 0 => 0 | 51 => 148 | 53 => 150 | 4 => 4 | 183 => 141 | 182 => 140 | 131 => 145 | 5 => 5 | 9 => 9 | 218 => 151 | 222 => 155 | 228 => 157 | 229 => 158 | n => n, fun | n => n⟩
theorem Try.sortL : Go.Proofs.Lays.n189 Try.prog Try.sortL_ren := {
  mixed := by kernel_rfl
  f125 := Try.func73.trans (congrArg some (by kernel_rfl))
  f128 := Try.func83.trans (congrArg some (by kernel_rfl))
  f129 := Try.func84.trans (congrArg some (by kernel_rfl))
  f189 := Try.func63.trans (congrArg some (by kernel_rfl))
  f215 := Try.func90.trans (congrArg some (by kernel_rfl))
  f216 := Try.func80.trans (congrArg some (by kernel_rfl))
  f257 := Try.func72.trans (congrArg some (by kernel_rfl))
  f294 := Try.func74.trans (congrArg some (by kernel_rfl))
  f295 := Try.func75.trans (congrArg some (by kernel_rfl))
  f296 := Try.func76.trans (congrArg some (by kernel_rfl))
  f297 := Try.func77.trans (congrArg some (by kernel_rfl))
  f298 := Try.func78.trans (congrArg some (by kernel_rfl))
  f299 := Try.func79.trans (congrArg some (by kernel_rfl))
  f300 := Try.func81.trans (congrArg some (by kernel_rfl))
  f301 := Try.func82.trans (congrArg some (by kernel_rfl))
  f328 := Try.func85.trans (congrArg some (by kernel_rfl))
  f329 := Try.func86.trans (congrArg some (by kernel_rfl))
  f330 := Try.func87.trans (congrArg some (by kernel_rfl))
  f331 := Try.func88.trans (congrArg some (by kernel_rfl))
  f332 := Try.func89.trans (congrArg some (by kernel_rfl))
  f343 := Try.func91.trans (congrArg some (by kernel_rfl))
  t0 := Try.underlying0
  a0 := Try.isAgg0
  z0 := Try.sizeOf0
  v0 := Try.zeroValue0
  t3 := Try.underlying3
  a3 := Try.isAgg3
  z3 := Try.sizeOf3
  v3 := Try.zeroValue3
  t4 := Try.underlying4
  a4 := Try.isAgg4
  z4 := Try.sizeOf4
  v4 := Try.zeroValue4
  t5 := Try.underlying5
  a5 := Try.isAgg5
  z5 := Try.sizeOf5
  v5 := Try.zeroValue5
  t9 := Try.underlying9
  a9 := Try.isAgg9
  z9 := Try.sizeOf9
  v9 := Try.zeroValue9
  t28 := Try.underlying22
  a28 := Try.isAgg22
  z28 := Try.sizeOf22
  v28 := Try.zeroValue22
  t46 := Try.underlying138
  a46 := Try.isAgg138
  z46 := Try.sizeOf138
  v46 := Try.zeroValue138
  t51 := Try.underlying148
  a51 := Try.isAgg148
  z51 := Try.sizeOf148
  v51 := Try.zeroValue148
  t53 := Try.underlying150
  a53 := Try.isAgg150
  z53 := Try.sizeOf150
  v53 := Try.zeroValue150
  t131 := Try.underlying145
  a131 := Try.isAgg145
  z131 := Try.sizeOf145
  v131 := Try.zeroValue145
  t182 := Try.underlying140
  a182 := Try.isAgg140
  z182 := Try.sizeOf140
  v182 := Try.zeroValue140
  t183 := Try.underlying141
  a183 := Try.isAgg141
  z183 := Try.sizeOf141
  v183 := Try.zeroValue141
  t218 := Try.underlying151
  a218 := Try.isAgg151
  z218 := Try.sizeOf151
  v218 := Try.zeroValue151
  t222 := Try.underlying155
  a222 := Try.isAgg155
  z222 := Try.sizeOf155
  v222 := Try.zeroValue155
  t228 := Try.underlying157
  a228 := Try.isAgg157
  z228 := Try.sizeOf157
  v228 := Try.zeroValue157
  t229 := Try.underlying158
  a229 := Try.isAgg158
  z229 := Try.sizeOf158
  v229 := Try.zeroValue158 }
def Try.searchL_ren : Go.Shelf.Ren := ⟨fun | 16 => 65 | n => n, fun | 3 => 3 | 35 => 133 | 4 => 4 | 38 => 138 | n => n, fun | n => n⟩
theorem Try.searchL : Go.Proofs.SlLaysO.n16 Try.prog Try.searchL_ren := {
  mixed := by kernel_rfl
  f16 := Try.func65.trans (congrArg some (by kernel_rfl))
  t3 := Try.underlying3
  a3 := Try.isAgg3
  z3 := Try.sizeOf3
  v3 := Try.zeroValue3
  t4 := Try.underlying4
  a4 := Try.isAgg4
  z4 := Try.sizeOf4
  v4 := Try.zeroValue4
  t35 := Try.underlying133
  a35 := Try.isAgg133
  z35 := Try.sizeOf133
  v35 := Try.zeroValue133
  t38 := Try.underlying138
  a38 := Try.isAgg138
  z38 := Try.sizeOf138
  v38 := Try.zeroValue138 }
end Go.Proofs
end

section
/-
  Walks: search, by the library's binary search out of the shelf.
-/
namespace Go.Proofs.Jn
open Go.RowKit Go.Shelf Go.Sort Go.Lib

/-- The closure of search. -/
def geB (es : List Ed) (u v i : Nat) : Bool := match es[i]? with
  | some e => decide (u < e.u) || (decide (e.u = u) && decide (v ≤ e.v))
  | none => true
def hitB (es : List Ed) (u v : Nat) : Bool := es.any fun e => decide (e.u = u) && decide (e.v = v) && decide (e.st = 1)

theorem asc_lt {es : List Ed} (h : ∀ (k : Nat) (e f : Ed), es[k]? = some e → es[k + 1]? = some f → e.u < f.u ∨ (e.u = f.u ∧ e.v < f.v)) :
    ∀ (d i : Nat) (e f : Ed), es[i]? = some e → es[i + d + 1]? = some f → e.u < f.u ∨ (e.u = f.u ∧ e.v < f.v)
  | 0, i, e, f, h1, h2 => h i e f h1 h2
  | d + 1, i, e, f, h1, h2 => by
    obtain ⟨g, hg⟩ : ∃ g, es[i + d + 1]? = some g := ⟨_, List.getElem?_eq_getElem (by have := (List.getElem?_eq_some_iff.1 h2).1; omega)⟩
    have a1 := asc_lt h d i e g h1 hg
    have a2 := h (i + d + 1) g f hg h2
    omega
theorem geB_mono {m : Mp} (hm : MapOk m) (u v : Nat) : ∀ a b, a ≤ b → b < m.es.length → geB m.es u v a = true → geB m.es u v b = true := by
  intro a b hab hb h
  rcases Nat.eq_or_lt_of_le hab with rfl | hlt
  · exact h
  · obtain ⟨e, he⟩ : ∃ e, m.es[a]? = some e := ⟨_, List.getElem?_eq_getElem (by omega)⟩
    obtain ⟨f, hf⟩ : ∃ f, m.es[b]? = some f := ⟨_, List.getElem?_eq_getElem hb⟩
    have := asc_lt hm.asc (b - a - 1) a e f he (by rw [show a + (b - a - 1) + 1 = b by omega]; exact hf)
    simp only [geB, he, hf, Bool.or_eq_true, Bool.and_eq_true, decide_eq_true_eq] at h ⊢
    omega
theorem count_mono (p : Nat → Bool) : ∀ n, (∀ a b, a ≤ b → b < n → p a = true → p b = true) → (List.range n).countP (fun i => !p i) ≤ n ∧ ∀ i, i < n → (p i = false ↔ i < (List.range n).countP (fun i => !p i))
  | 0, _ => ⟨by simp, fun i h => by omega⟩
  | n + 1, hm => by
    obtain ⟨h1, h2⟩ := count_mono p n fun a b hab hb h => hm a b hab (by omega) h
    rw [List.range_succ, List.countP_append]
    cases hp : p n with
    | true =>
      simp only [List.countP_cons, List.countP_nil, hp, Bool.not_true, Bool.false_eq_true, if_false, Nat.add_zero]
      refine ⟨by omega, fun i hi => ?_⟩
      rcases Nat.lt_or_ge i n with h | h
      · exact h2 i h
      · have : i = n := by omega
        subst this
        rw [hp]
        constructor
        · intro h; cases h
        · intro h; omega
    | false =>
      have hall : ∀ i, i ≤ n → p i = false := fun i hi => by
        cases hpi : p i with
        | false => rfl
        | true => rw [hm i n hi (by omega) hpi] at hp; cases hp
      have hn : (List.range n).countP (fun i => !p i) = n := by
        rcases Nat.eq_zero_or_pos n with rfl | hpos
        · rfl
        · have := (h2 (n - 1) (by omega)).1 (hall _ (by omega))
          omega
      simp only [List.countP_cons, List.countP_nil, hp, Bool.not_false, if_true, Nat.zero_add]
      refine ⟨by omega, fun i hi => ?_⟩
      rw [hn]
      exact ⟨fun _ => hi, fun _ => hall i (by omega)⟩
theorem geB_hit {m : Mp} (hm : MapOk m) (u v : Nat) : hitB m.es u v = match m.es[(List.range m.es.length).countP (fun i => !geB m.es u v i)]? with
    | some e => decide (e.u = u) && decide (e.v = v) && decide (e.st = 1)
    | none => false := by
  obtain ⟨h1, h2⟩ := count_mono (geB m.es u v) m.es.length (geB_mono hm u v)
  generalize (List.range m.es.length).countP (fun i => !geB m.es u v i) = c at h1 h2
  have key : ∀ (j : Nat) (e : Ed), m.es[j]? = some e → e.u = u → e.v = v → j = c := by
    intro j e he hu hv
    have hj := (List.getElem?_eq_some_iff.1 he).1
    have hge : geB m.es u v j = true := by simp [geB, he, hu, hv]
    have hcj : c ≤ j := by
      rcases Nat.lt_or_ge j c with h | h
      · have := (h2 j hj).2 h; rw [hge] at this; cases this
      · exact h
    rcases Nat.eq_or_lt_of_le hcj with h | h
    · exact h.symm
    · obtain ⟨f, hf⟩ : ∃ f, m.es[c]? = some f := ⟨_, List.getElem?_eq_getElem (by omega)⟩
      have a := asc_lt hm.asc (j - c - 1) c f e hf (by rw [show c + (j - c - 1) + 1 = j by omega]; exact he)
      have hgc : geB m.es u v c = true := by
        cases hg : geB m.es u v c with
        | true => rfl
        | false => have := (h2 c (by omega)).1 hg; omega
      simp only [geB, hf, Bool.or_eq_true, Bool.and_eq_true, decide_eq_true_eq] at hgc
      omega
  cases hb : hitB m.es u v with
  | true =>
    unfold hitB at hb
    rw [List.any_eq_true] at hb
    obtain ⟨e, he, hp⟩ := hb
    obtain ⟨j, hj⟩ := List.getElem?_of_mem he
    simp only [Bool.and_eq_true, decide_eq_true_eq] at hp
    have := key j e hj hp.1.1 hp.1.2
    subst this
    rw [hj]
    simp [hp]
  | false =>
    split
    · rename_i e he
      unfold hitB at hb
      rw [List.any_eq_false] at hb
      have := hb e (List.mem_of_getElem? he)
      simp only [Bool.not_eq_true] at this
      exact this.symm
    · rfl

set_option maxRecDepth 100000 in
set_option maxHeartbeats 4000000 in
theorem closure66 (n3 n4 n5 : Nat) (oe : Option Addr) (ce : Nat) (es : List Ed) (u v i : Nat) (W : World) (hi : i < es.length) (hE : Sl W oe 12 (es.map Ed.vals))
    (c3 : W.cell? ⟨n3, 0, none⟩ = some (.slice oe es.length ce)) (c4 : W.cell? ⟨n4, 0, none⟩ = some (.int .i64 (u : Nat))) (c5 : W.cell? ⟨n5, 0, none⟩ = some (.int .i64 (v : Nat))) :
    Calls Try.prog 66 (#[.int .i64 (i : Nat)] ++ #[.pointer (some ⟨n3, 0, none⟩), .pointer (some ⟨n4, 0, none⟩), .pointer (some ⟨n5, 0, none⟩)]) W fun e w' => e = .returned (.bool (geB es u v i)) ∧ ∃ q os', w' = grow (W.drewN q) os' := by
  obtain ⟨e, he⟩ : ∃ r, es[i]? = some r := ⟨_, List.getElem?_eq_getElem hi⟩
  obtain ⟨b, off, rfl, hEr⟩ := hE (map_ne hi)
  have x0 : W.cell? ⟨b, off + i * 12, none⟩ = some (.int .i64 (e.u : Nat)) := hEr.c i _ (map_get he) 0 _ rfl
  have x1 : W.cell? ⟨b, off + i * 12 + 1, none⟩ = some (.int .i64 (e.v : Nat)) := hEr.c i _ (map_get he) 1 _ rfl
  have hp : geB es u v i = (decide (u < e.u) || (decide (e.u = u) && decide (v ≤ e.v))) := by simp [geB, he]
  rw [hp]
  clear hE hEr hp he
  have g2 : ((e.u : Int) == (u : Int)) = decide (e.u = u) := nat_beq _ _
  by_cases h1 : u < e.u
  · rw [decide_eq_true h1]
    go_enter Try.func66, Try.ntmps66
    go_wp2_with fail
    go_quiet (fail)
    go_wp2
    go_ret
    exact ⟨by simp, nq, #[], by rw [grow_empty]⟩
  · rw [decide_eq_false h1]
    by_cases h2 : e.u = u
    · rw [decide_eq_true h2] at g2 ⊢
      by_cases h3 : v ≤ e.v
      · rw [decide_eq_true h3]
        clear h2
        go_enter Try.func66, Try.ntmps66
        go_wp2_with fail
        go_quiet (fail)
        go_wp2
        go_ret
        exact ⟨by simp [], nq, #[], by rw [grow_empty]⟩
      · rw [decide_eq_false h3]
        clear h2
        go_enter Try.func66, Try.ntmps66
        go_wp2_with fail
        go_quiet (fail)
        go_wp2
        go_ret
        exact ⟨by simp, nq, #[], by rw [grow_empty]⟩
    · rw [decide_eq_false h2] at g2 ⊢
      clear h2
      go_enter Try.func66, Try.ntmps66
      go_wp2_with fail
      go_quiet (fail)
      go_wp2
      go_ret
      exact ⟨by simp, nq, #[], by rw [grow_empty]⟩

theorem enters66 : ∀ args w, (callFunc 66 args).run Try.prog w = .ok (.enter 66 args) w := enters_of Try.func66 (by kernel_rfl) rfl

set_option maxRecDepth 100000 in
set_option maxHeartbeats 4000000 in
theorem search_any (m : Mp) (u v : Nat) (w : World) (hm : MapOk m) (hE : Sl w m.oe 12 (m.es.map Ed.vals)) :
    Calls Try.prog 55 #[.slice m.oe m.es.length m.ce, .int .i64 (u : Nat), .int .i64 (v : Nat)] w (BoolP (hitB m.es u v) w) := by
  have hlen := hm.len
  go_enter Try.func55, Try.ntmps55
  go_upto_region 1 with fail
  have hbx := boxes3 w [.slice m.oe m.es.length m.ce] [.int .i64 (u : Nat)] [.int .i64 (v : Nat)] 41 3 3
  have hE' := hE.keep hbx.2.2.2
  clear hE
  generalize ((w.alloc (.cells #[.slice m.oe m.es.length m.ce] 41)).alloc (.cells #[.int .i64 (u : Nat)] 3)).alloc (.cells #[.int .i64 (v : Nat)] 3) = W0 at hbx hE' ⊢
  obtain ⟨r3, r4, r5, hB0⟩ := hbx
  generalize w.heap.size + 1 + 1 = n5 at r5 ⊢
  generalize w.heap.size + 1 = n4 at r4 ⊢
  obtain ⟨n3, hn3⟩ : ∃ n, n = w.heap.size := ⟨_, rfl⟩
  rw [← hn3] at r3 ⊢
  clear hn3
  have a3 : W0.cell? ⟨n3, 0, none⟩ = some (.slice m.oe m.es.length m.ce) := r3.c 0 _ rfl
  have a4 : W0.cell? ⟨n4, 0, none⟩ = some (.int .i64 (u : Nat)) := r4.c 0 _ rfl
  have a5 : W0.cell? ⟨n5, 0, none⟩ = some (.int .i64 (v : Nat)) := r5.c 0 _ rfl
  have l3 := r3.lt; have l4 := r4.lt; have l5 := r5.lt
  have hgb : ∀ (q : Nat) (os : Array Obj), Below W0.heap.size W0 (grow (W0.drewN q) os) := fun q os => below_grown_sl _ W0 q os (Nat.le_refl _)
  have hS := Any.sort_Search Try.searchL 66 #[.pointer (some ⟨n3, 0, none⟩), .pointer (some ⟨n4, 0, none⟩), .pointer (some ⟨n5, 0, none⟩)] m.es.length (geB m.es u v) W0 enters66 (by omega)
    (fun q os i hi => closure66 n3 n4 n5 m.oe m.ce m.es u v i _ hi (hE'.keep (hgb q os)) ((r3.keep (hgb q os)).c 0 _ rfl) ((r4.keep (hgb q os)).c 0 _ rfl) ((r5.keep (hgb q os)).c 0 _ rfl)) (geB_mono hm u v)
  change Calls Try.prog 65 _ _ _ at hS
  have hhit := geB_hit hm u v
  have hcl := (count_mono (geB m.es u v) m.es.length (geB_mono hm u v)).1
  generalize (List.range m.es.length).countP (fun i => !geB m.es u v i) = c at hS hhit hcl
  have HS := Lib.hid hS
  have HH := Lib.hid hhit
  clear hS hhit
  have hmf : ∀ (fn : Fn) (first cap : Array Value) (w : World), (Instr.makeFunc fn first cap).run Try.prog w = .ok (.func fn first cap) w := fun _ _ _ _ => rfl
  go_wp2_with fail
  refine HS.out.mono ?_
  rintro e w' ⟨rfl, q, os, rfl⟩
  have hgq := hgb q os
  have hE2 := hE'.keep hgq
  replace r3 := r3.keep hgq
  replace r4 := r4.keep hgq
  replace r5 := r5.keep hgq
  have HB1 := Lib.hid (below_call hB0 hgq)
  clear a3 a4 a5 l3 l4 l5 hE' hgq hgb HS
  generalize grow (W0.drewN q) os = V at hE2 r3 r4 r5 HB1 ⊢
  have a3 : V.cell? ⟨n3, 0, none⟩ = some (.slice m.oe m.es.length m.ce) := r3.c 0 _ rfl
  have a4 : V.cell? ⟨n4, 0, none⟩ = some (.int .i64 (u : Nat)) := r4.c 0 _ rfl
  have a5 : V.cell? ⟨n5, 0, none⟩ = some (.int .i64 (v : Nat)) := r5.c 0 _ rfl
  have l3 := r3.lt; have l4 := r4.lt; have l5 := r5.lt
  clear r3 r4 r5
  by_cases hc : c < m.es.length
  · obtain ⟨e, he⟩ : ∃ r, m.es[c]? = some r := ⟨_, List.getElem?_eq_getElem hc⟩
    obtain ⟨b, off, hoe, hEr⟩ := hE2 (map_ne hc)
    rw [hoe] at a3
    have x0 : V.cell? ⟨b, off + c * 12, none⟩ = some (.int .i64 (e.u : Nat)) := hEr.c c _ (map_get he) 0 _ rfl
    have x1 : V.cell? ⟨b, off + c * 12 + 1, none⟩ = some (.int .i64 (e.v : Nat)) := hEr.c c _ (map_get he) 1 _ rfl
    have x3 : V.cell? ⟨b, off + c * 12 + 3, none⟩ = some (.int .i64 e.st) := hEr.c c _ (map_get he) 3 _ rfl
    have g1 : ((e.u : Int) == (u : Int)) = decide (e.u = u) := nat_beq _ _
    have g2 : ((e.v : Int) == (v : Int)) = decide (e.v = v) := nat_beq _ _
    have HE := Lib.hid he
    rw [hoe]
    clear he hEr hE2 hm
    by_cases h1 : e.u = u
    · rw [decide_eq_true h1] at g1
      have H1 := Lib.hid h1
      clear h1
      have g3 : ((e.st : Int) == 1) = decide (e.st = 1) := int_beq _ _
      by_cases h2 : e.v = v
      · rw [decide_eq_true h2] at g2
        have H2 := Lib.hid h2
        clear h2
        cases h3 : decide (e.st = 1) <;> rw [h3] at g3 <;> (have H3 := Lib.hid h3; clear h3)
        all_goals
          go_wp2_with fail
          go_quiet (fail)
          have HB2 := Lib.hid (below_call HB1.out (below_drew V nq))
          generalize V.drewN nq = V2 at HB2 ⊢
          go_wp2
          go_ret
          refine boolP_mk ?_ HB2.out
          rw [HH.out, HE.out]
          simp [H1.out, H2.out, H3.out]
      · rw [decide_eq_false h2] at g2
        have H2 := Lib.hid h2
        clear h2
        go_wp2_with fail
        go_quiet (fail)
        have HB2 := Lib.hid (below_call HB1.out (below_drew V nq))
        generalize V.drewN nq = V2 at HB2 ⊢
        go_wp2
        go_ret
        refine boolP_mk ?_ HB2.out
        rw [HH.out, HE.out]
        simp [H2.out]
    · rw [decide_eq_false h1] at g1
      have H1 := Lib.hid h1
      clear h1
      go_wp2_with fail
      go_quiet (fail)
      have HB2 := Lib.hid (below_call HB1.out (below_drew V nq))
      generalize V.drewN nq = V2 at HB2 ⊢
      go_wp2
      go_ret
      refine boolP_mk ?_ HB2.out
      rw [HH.out, HE.out]
      simp [H1.out]
  · have hcn : m.es[c]? = none := List.getElem?_eq_none (by omega)
    have HN := Lib.hid hcn
    clear hE2 hm hcn
    go_wp2_with fail
    go_quiet (fail)
    have HB2 := Lib.hid (below_call HB1.out (below_drew V nq))
    generalize V.drewN nq = V2 at HB2 ⊢
    go_wp2
    go_ret
    refine boolP_mk ?_ HB2.out
    rw [HH.out, HN.out]
end Go.Proofs.Jn
end

section
/-
  Walks: Clash.
-/
namespace Go.Proofs.Jn
open Go.RowKit

theorem guard65 : Try.prog.eqGuardType Try.prog.depth 65 = false := by kernel_rfl
def mvV (m : Mv) : Value := .agg #[.int .i64 (m.arm : Nat), .int .i64 (m.x : Nat), .int .i64 (m.y : Nat)]
theorem eq65 (a b : Mv) (w : World) : (binOp .eql 65 (.agg #[.int .i64 (a.arm : Nat), .int .i64 (a.x : Nat), .int .i64 (a.y : Nat)]) (.agg #[.int .i64 (b.arm : Nat), .int .i64 (b.x : Nat), .int .i64 (b.y : Nat)])).run Try.prog w = .ok (.bool (decide (a = b))) w := by
  have h0 : Try.prog.stoodInHeld 65 = false := by kernel_rfl
  simp [go_sem, h0, Try.underlying65]
  obtain ⟨a1, a2, a3⟩ := a
  obtain ⟨b1, b2, b3⟩ := b
  simp only [Mv.mk.injEq, Int.ofNat_inj]
  by_cases h1 : a1 = b1 <;> by_cases h2 : a2 = b2 <;> by_cases h3 : a3 = b3 <;> simp [h1, h2, h3]

attribute [-go_sem] run_eql_struct
set_option maxHeartbeats 4000000 in
theorem clash_any (om oc : Option Addr) (cm cc : Nat) (T : Tm) (a b : Mv) (w : World) (hc : T.cs.length ≤ 100) (hT : TeamAt w om oc T) :
    Calls Try.prog 24 #[T.val om oc cm cc, .agg #[.int .i64 (a.arm : Nat), .int .i64 (a.x : Nat), .int .i64 (a.y : Nat)], .agg #[.int .i64 (b.arm : Nat), .int .i64 (b.x : Nat), .int .i64 (b.y : Nat)]] w (BoolP (clashB T.cs a b) w) := by
  unfold Tm.val
  have hcs := hT.cs
  clear hT
  go_enter Try.func24, Try.ntmps24
  go_wp2_with fail
  have hbx := boxes3 w [.slice om T.ms.length cm, .slice oc T.cs.length cc] [.int .i64 (a.arm : Nat), .int .i64 (a.x : Nat), .int .i64 (a.y : Nat)] [.int .i64 (b.arm : Nat), .int .i64 (b.x : Nat), .int .i64 (b.y : Nat)] 26 65 65
  have hcs' := hcs.keep hbx.2.2.2
  clear hcs
  generalize ((w.alloc (.cells #[.slice om T.ms.length cm, .slice oc T.cs.length cc] 26)).alloc (.cells #[.int .i64 (a.arm : Nat), .int .i64 (a.x : Nat), .int .i64 (a.y : Nat)] 65)).alloc (.cells #[.int .i64 (b.arm : Nat), .int .i64 (b.x : Nat), .int .i64 (b.y : Nat)] 65) = W0 at hbx hcs' ⊢
  obtain ⟨r3, r4, r5, hB0⟩ := hbx
  generalize w.heap.size + 1 + 1 = n5 at r5 ⊢
  generalize w.heap.size + 1 = n4 at r4 ⊢
  obtain ⟨n3, hn3⟩ : ∃ n, n = w.heap.size := ⟨_, rfl⟩
  rw [← hn3] at r3 ⊢
  have HN3 := Lib.hid hn3
  clear hn3
  go_loopw [7] (fun i W => ∃ k : Nat, k ≤ T.cs.length ∧ i = .int .i64 k ∧ Below W0.heap.size W0 W ∧ clashB (T.cs.take k) a b = false) (fun i _ => T.cs.length - (intOf i).toNat)
  case atStart => exact ⟨0, by omega, rfl, Below.refl _ _, rfl⟩
  case round =>
    obtain ⟨k, hk, rfl, hW, hF⟩ := hrel
    have R3 := r3.keep hW
    have R4 := r4.keep hW
    have R5 := r5.keep hW
    have s0 : wr.cell? ⟨n3, 1, none⟩ = some (.slice oc T.cs.length cc) := R3.c 1 _ rfl
    have l3 := R3.lt
    have HW := Lib.hid hW
    have HF := Lib.hid hF
    clear hF
    by_cases hlt : k < T.cs.length
    · obtain ⟨c, hc'⟩ : ∃ r, T.cs[k]? = some r := ⟨_, List.getElem?_eq_getElem hlt⟩
      obtain ⟨bc, offc, rfl, hCr⟩ := hcs' (map_ne hlt)
      have hCr' := hCr.keep hW
      have x0 : wr.cell? ⟨bc, offc + k * 6, none⟩ = some (.int .i64 (c.a.arm : Nat)) := hCr'.c k _ (map_get hc') 0 _ rfl
      have x1 : wr.cell? ⟨bc, offc + k * 6 + 1, none⟩ = some (.int .i64 (c.a.x : Nat)) := hCr'.c k _ (map_get hc') 1 _ rfl
      have x2 : wr.cell? ⟨bc, offc + k * 6 + 2, none⟩ = some (.int .i64 (c.a.y : Nat)) := hCr'.c k _ (map_get hc') 2 _ rfl
      have x3 : wr.cell? ⟨bc, offc + k * 6 + 3, none⟩ = some (.int .i64 (c.b.arm : Nat)) := hCr'.c k _ (map_get hc') 3 _ rfl
      have x4 : wr.cell? ⟨bc, offc + k * 6 + 4, none⟩ = some (.int .i64 (c.b.x : Nat)) := hCr'.c k _ (map_get hc') 4 _ rfl
      have x5 : wr.cell? ⟨bc, offc + k * 6 + 5, none⟩ = some (.int .i64 (c.b.y : Nat)) := hCr'.c k _ (map_get hc') 5 _ rfl
      have HC := Lib.hid hc'
      have hclash : clashB (T.cs.take (k + 1)) a b = ((decide (c.a = a) && decide (c.b = b)) || (decide (c.a = b) && decide (c.b = a))) := by
        have h := HF.out
        unfold clashB at h ⊢
        rw [List.take_add_one, HC.out]
        simp only [Option.toList_some, List.any_append, h, Bool.false_or, List.any_cons, List.any_nil, Bool.or_false]
      have HCL := Lib.hid hclash
      have y0 : wr.cell? ⟨n4, 0, none⟩ = some (.int .i64 (a.arm : Nat)) := R4.c 0 _ rfl
      have y1 : wr.cell? ⟨n4, 1, none⟩ = some (.int .i64 (a.x : Nat)) := R4.c 1 _ rfl
      have y2 : wr.cell? ⟨n4, 2, none⟩ = some (.int .i64 (a.y : Nat)) := R4.c 2 _ rfl
      have z0 : wr.cell? ⟨n5, 0, none⟩ = some (.int .i64 (b.arm : Nat)) := R5.c 0 _ rfl
      have z1 : wr.cell? ⟨n5, 1, none⟩ = some (.int .i64 (b.x : Nat)) := R5.c 1 _ rfl
      have z2 : wr.cell? ⟨n5, 2, none⟩ = some (.int .i64 (b.y : Nat)) := R5.c 2 _ rfl
      have l4 := R4.lt
      have l5 := R5.lt
      have q1 := eq65 c.a a
      have q2 := eq65 c.b b
      have q3 := eq65 c.a b
      have q4 := eq65 c.b a
      have hg := guard65
      clear hclash hc' hCr hCr' hcs' hW R3 R4 R5 r3 r4 r5
      generalize hp1 : decide (c.a = a) = p1 at q1 HCL
      generalize hp2 : decide (c.b = b) = p2 at q2 HCL
      generalize hp3 : decide (c.a = b) = p3 at q3 HCL
      generalize hp4 : decide (c.b = a) = p4 at q4 HCL
      clear hp1 hp2 hp3 hp4
      have HB := Lib.hid (below_call HW.out (((Below.refl wr.heap.size wr).alloc (Nat.le_refl _) (.cells #[.int .i64 (c.a.arm : Nat), .int .i64 (c.a.x : Nat), .int .i64 (c.a.y : Nat), .int .i64 (c.b.arm : Nat), .int .i64 (c.b.x : Nat), .int .i64 (c.b.y : Nat)] 74))))
      cases p1 <;> cases p2 <;> cases p3 <;> cases p4
      all_goals
        go_wp2
        first
        | (go_roundw
           case rel => exact ⟨k + 1, by omega, by simp, HB.out, HCL.out⟩
           case measure => simp [intOf]; omega)
        | (go_ret
           refine boolP_mk ?_ (below_call hB0 HB.out)
           have h := HCL.out
           have h2 : clashB (T.cs.take (k + 1)) a b = true → clashB T.cs a b = true := by
             unfold clashB
             intro h
             rw [List.any_eq_true] at h ⊢
             obtain ⟨x, hx, hp⟩ := h
             exact ⟨x, List.mem_of_mem_take hx, hp⟩
           exact (h2 h).symm)
    · go_wp2
      go_ret
      refine boolP_mk ?_ (below_call hB0 HW.out)
      have h := HF.out
      rw [List.take_of_length_le (by omega)] at h
      exact h.symm
end Go.Proofs.Jn
end

section
/-
  Walks: legal, Check.
-/
namespace Go.Proofs.Jn
open Go.RowKit

theorem keep5 {V W W' : World} {n3 n4 bm o1 : Nat} {a b c d e : Value} (l3 : n3 < V.heap.size) (l4 : n4 < V.heap.size) (lm : bm < V.heap.size)
    (h : W.cell? ⟨n3, 0, none⟩ = some a ∧ W.cell? ⟨n4, 0, none⟩ = some b ∧ W.cell? ⟨n4, 1, none⟩ = some c ∧ W.cell? ⟨n4, 2, none⟩ = some d ∧ W.cell? ⟨bm, o1, none⟩ = some e ∧ Below V.heap.size V W) (hb : Below W.heap.size W W') :
    W'.cell? ⟨n3, 0, none⟩ = some a ∧ W'.cell? ⟨n4, 0, none⟩ = some b ∧ W'.cell? ⟨n4, 1, none⟩ = some c ∧ W'.cell? ⟨n4, 2, none⟩ = some d ∧ W'.cell? ⟨bm, o1, none⟩ = some e ∧ Below V.heap.size V W' := by
  obtain ⟨h1, h2, h3, h4, h5, h6⟩ := h
  have m3 := Nat.lt_of_lt_of_le l3 h6.size
  have m4 := Nat.lt_of_lt_of_le l4 h6.size
  have mm := Nat.lt_of_lt_of_le lm h6.size
  exact ⟨(hb.cell (p := ⟨n3, 0, none⟩) m3).trans h1, (hb.cell (p := ⟨n4, 0, none⟩) m4).trans h2, (hb.cell (p := ⟨n4, 1, none⟩) m4).trans h3, (hb.cell (p := ⟨n4, 2, none⟩) m4).trans h4, (hb.cell (p := ⟨bm, o1, none⟩) mm).trans h5, below_call h6 hb⟩

theorem search_edge (m : Mp) (x y : Nat) (w : World) (hm : MapOk m) (hE : Sl w m.oe 12 (m.es.map Ed.vals)) :
    Calls Try.prog 55 #[.slice m.oe m.es.length m.ce, .int .i64 (min (x : Int) (y : Int)), .int .i64 (max (x : Int) (y : Int))] w (BoolP (edgeB m.es x y) w) := by
  rw [show min (x : Int) (y : Int) = ((min x y : Nat) : Int) by omega, show max (x : Int) (y : Int) = ((max x y : Nat) : Int) by omega]
  exact search_any m (min x y) (max x y) w hm hE

set_option maxRecDepth 100000 in
set_option maxHeartbeats 4000000 in
theorem legal_any (om oc : Option Addr) (cm cc : Nat) (T : Tm) (m : Mp) (a : Mv) (w : World) (hl : T.ms.length ≤ 100) (hm : T.ms[a.arm]? = some m) (hx : a.x < m.n) (hy : a.y < m.n) (ho : MapOk m) (hT : TeamAt w om oc T) :
    Calls Try.prog 54 #[T.val om oc cm cc, .agg #[.int .i64 (a.arm : Nat), .int .i64 (a.x : Nat), .int .i64 (a.y : Nat)], .func (.func 55) #[] #[]] w (BoolP (decide (a.x = a.y) || edgeB m.es a.x a.y) w) := by
  unfold Tm.val
  have hms := hT.ms
  have hes := hT.es m (List.mem_of_getElem? hm)
  have hlt : a.arm < T.ms.length := (List.getElem?_eq_some_iff.1 hm).1
  have hn := ho.n2
  have hel := ho.len
  clear hT
  go_enter Try.func54, Try.ntmps54
  go_upto_region 1 with fail
  have hbx := boxes2 w [.slice om T.ms.length cm, .slice oc T.cs.length cc] [.int .i64 (a.arm : Nat), .int .i64 (a.x : Nat), .int .i64 (a.y : Nat)] 26 65
  have hms' := hms.keep hbx.2.2
  have hes' := hes.keep hbx.2.2
  clear hms hes
  generalize (w.alloc (.cells #[.slice om T.ms.length cm, .slice oc T.cs.length cc] 26)).alloc (.cells #[.int .i64 (a.arm : Nat), .int .i64 (a.x : Nat), .int .i64 (a.y : Nat)] 65) = W0 at hbx hms' hes' ⊢
  obtain ⟨r3, r4, hB0⟩ := hbx
  generalize w.heap.size + 1 = n4 at r4 ⊢
  obtain ⟨n3, hn3⟩ : ∃ n, n = w.heap.size := ⟨_, rfl⟩
  rw [← hn3] at r3 ⊢
  clear hn3
  have a0 : W0.cell? ⟨n3, 0, none⟩ = some (.slice om T.ms.length cm) := r3.c 0 _ rfl
  have a1 : W0.cell? ⟨n4, 0, none⟩ = some (.int .i64 (a.arm : Nat)) := r4.c 0 _ rfl
  have a2 : W0.cell? ⟨n4, 1, none⟩ = some (.int .i64 (a.x : Nat)) := r4.c 1 _ rfl
  have a3 : W0.cell? ⟨n4, 2, none⟩ = some (.int .i64 (a.y : Nat)) := r4.c 2 _ rfl
  have l3 := r3.lt
  have l4 := r4.lt
  obtain ⟨bm, offm, rfl, hMr⟩ := hms' (map_ne hlt)
  have x0 : W0.cell? ⟨bm, offm + a.arm * 2, none⟩ = some (.slice m.op m.n m.cp) := hMr.c _ _ (map_get hm) 0 _ rfl
  have x1 : W0.cell? ⟨bm, offm + a.arm * 2 + 1, none⟩ = some (.slice m.oe m.es.length m.ce) := hMr.c _ _ (map_get hm) 1 _ rfl
  have lm := hMr.lt
  have HE := Lib.hid hes'
  clear hMr hms' hm hes' r3 r4
  have e0 : ((a.x : Int) == (a.y : Int)) = decide (a.x = a.y) := nat_beq _ _
  by_cases hxy : a.x = a.y
  · rw [decide_eq_true hxy] at e0
    have HX := Lib.hid hxy
    clear hxy
    go_upto_region 6 with fail
    go_quiet (fail)
    have HB := Lib.hid (below_call hB0 (below_drew W0 nq))
    generalize W0.drewN nq = V at HB ⊢
    go_wp2
    go_ret
    exact boolP_mk (by rw [decide_eq_true HX.out]; rfl) HB.out
  · rw [decide_eq_false hxy] at e0
    have HX := Lib.hid hxy
    clear hxy
    go_upto_region 6 with fail
    go_region_held3 (fun W => W.cell? ⟨n3, 0, none⟩ = some (.slice (some ⟨bm, offm, none⟩) T.ms.length cm) ∧ W.cell? ⟨n4, 0, none⟩ = some (.int .i64 (a.arm : Nat)) ∧ W.cell? ⟨n4, 1, none⟩ = some (.int .i64 (a.x : Nat)) ∧ W.cell? ⟨n4, 2, none⟩ = some (.int .i64 (a.y : Nat)) ∧ W.cell? ⟨bm, offm + a.arm * 2 + 1, none⟩ = some (.slice m.oe m.es.length m.ce) ∧ Below W0.heap.size W0 W)
      (first
        | exact keep5 l3 l4 lm ⟨a0, a1, a2, a3, x1, Below.refl _ _⟩ (Below.refl _ _).drew
        | exact keep5 l3 l4 lm (by assumption) (by assumption)
        | exact keep5 l3 l4 lm (by assumption) (Below.refl _ _).drew)
      (first
        | (go_at_call 55; refine (search_edge m a.x a.y _ ho (HE.out.keep (by first | exact (Below.refl _ _).drew | assumption | exact (by assumption : _ ∧ _ ∧ _ ∧ _ ∧ _ ∧ Below W0.heap.size W0 _).2.2.2.2.2))).mono ?_; rintro e X1 ⟨rfl, hb1⟩; have HB1 := Lib.hid (below_call (Below.refl _ _).drew hb1)))
    all_goals
      go_wp2
      go_ret
      exact boolP_mk (by rw [decide_eq_false HX.out]; rfl) (below_call hB0 HB1.out)
end Go.Proofs.Jn
end

section
/-
  Walks: Check.
-/
namespace Go.Proofs.Jn
open Go.RowKit

/-- A move that is legal. -/
def legB (T : Tm) (a : Mv) : Bool := match T.ms[a.arm]? with
  | some m => decide (a.x < m.n) && decide (a.y < m.n) && (decide (a.x = a.y) || edgeB m.es a.x a.y)
  | none => false
theorem legB_of {T : Tm} {a : Mv} (h : legB T a = true) : ∃ m, T.ms[a.arm]? = some m ∧ a.x < m.n ∧ a.y < m.n ∧ (decide (a.x = a.y) || edgeB m.es a.x a.y) = true := by
  unfold legB at h
  split at h
  · rename_i m hm
    simp only [Bool.and_eq_true, decide_eq_true_eq] at h
    exact ⟨m, hm, h.1.1, h.1.2, h.2⟩
  · cases h
/-- A team that is in order. -/
structure TeamOk (T : Tm) : Prop where
  n1 : 1 ≤ T.ms.length
  n2 : T.ms.length ≤ 4
  mo : ∀ m ∈ T.ms, MapOk m
  cn : T.cs.length ≤ 100
  cf : ∀ c ∈ T.cs, c.a.arm ≠ c.b.arm ∧ legB T c.a = true ∧ legB T c.b = true

theorem legal_ok (om oc : Option Addr) (cm cc : Nat) (T : Tm) (a : Mv) (w : World) (hO : TeamOk T) (h : legB T a = true) (hT : TeamAt w om oc T) :
    Calls Try.prog 54 #[.agg #[.slice om T.ms.length cm, .slice oc T.cs.length cc], .agg #[.int .i64 (a.arm : Nat), .int .i64 (a.x : Nat), .int .i64 (a.y : Nat)], .func (.func 55) #[] #[]] w (BoolP true w) := by
  obtain ⟨m, hm, hx, hy, h⟩ := legB_of h
  have := legal_any om oc cm cc T m a w (by have := hO.n2; omega) hm hx hy (hO.mo m (List.mem_of_getElem? hm)) hT
  rw [h] at this
  unfold Tm.val at this
  exact this

theorem nat_bne {a b : Nat} (h : a ≠ b) : ((a : Int) == (b : Int)) = false := by rw [nat_beq, decide_eq_false h]

set_option maxRecDepth 100000 in
set_option maxHeartbeats 4000000 in
theorem check_any (om oc : Option Addr) (cm cc : Nat) (T : Tm) (w : World) (hO : TeamOk T) (hT : TeamAt w om oc T) :
    Calls Try.prog 29 #[T.val om oc cm cc] w (BoolP true w) := by
  unfold Tm.val
  obtain ⟨n1, n2, mo, cn, cf⟩ := id hO
  have HO := Lib.hid hO
  have HMO := Lib.hid mo
  have HCF := Lib.hid cf
  clear hO mo cf
  go_enter Try.func29, Try.ntmps29
  go_upto_region 1 with fail
  have hbx := boxes1 w [.slice om T.ms.length cm, .slice oc T.cs.length cc] 26
  have hT' := hT.keep hbx.2
  clear hT
  generalize w.alloc (.cells #[.slice om T.ms.length cm, .slice oc T.cs.length cc] 26) = W0 at hbx hT' ⊢
  obtain ⟨r1, hB0⟩ := hbx
  obtain ⟨n1', hn1'⟩ : ∃ n, n = w.heap.size := ⟨_, rfl⟩
  rw [← hn1'] at r1 ⊢
  clear hn1'
  have a0 : W0.cell? ⟨n1', 0, none⟩ = some (.slice om T.ms.length cm) := r1.c 0 _ rfl
  have a1 : W0.cell? ⟨n1', 1, none⟩ = some (.slice oc T.cs.length cc) := r1.c 1 _ rfl
  have l1 := r1.lt
  have e1 : decide ((T.ms.length : Int) < 1) = false := decide_eq_false (by omega)
  have e2 : decide ((4 : Int) < (T.ms.length : Int)) = false := decide_eq_false (by omega)
  have e3 : decide ((4096 : Int) < (T.cs.length : Int)) = false := decide_eq_false (by omega)
  have HT := Lib.hid hT'
  clear hT'
  go_wp2_with fail
  go_loopw [26] (fun i W => ∃ k : Nat, k ≤ T.ms.length ∧ i = .int .i64 k ∧ Below W0.heap.size W0 W) (fun i _ => T.ms.length - (intOf i).toNat)
  case atStart => exact ⟨0, by omega, rfl, Below.refl _ _⟩
  case round =>
    obtain ⟨k, hk, rfl, hW⟩ := hrel
    have HW := Lib.hid hW
    by_cases hlt : k < T.ms.length
    · obtain ⟨m, hm⟩ : ∃ r, T.ms[k]? = some r := ⟨_, List.getElem?_eq_getElem hlt⟩
      obtain ⟨bm, offm, rfl, hMr⟩ := (HT.out.keep hW).ms (map_ne hlt)
      have x0 : wr.cell? ⟨bm, offm + k * 2, none⟩ = some (.slice m.op m.n m.cp) := hMr.c _ _ (map_get hm) 0 _ rfl
      have x1 : wr.cell? ⟨bm, offm + k * 2 + 1, none⟩ = some (.slice m.oe m.es.length m.ce) := hMr.c _ _ (map_get hm) 1 _ rfl
      have HM := Lib.hid (HMO.out m (List.mem_of_getElem? hm))
      have HES := Lib.hid ((HT.out.keep hW).es m (List.mem_of_getElem? hm))
      clear hMr hm hW r1 a0 a1 l1
      go_upto_region 6 with fail
      have hbx := boxes1 wr [.slice m.op m.n m.cp, .slice m.oe m.es.length m.ce] 43
      have HB1 := Lib.hid (below_call HW.out hbx.2)
      have HES1 := Lib.hid (HES.out.keep hbx.2)
      clear HES x0 x1
      generalize wr.alloc (.cells #[.slice m.op m.n m.cp, .slice m.oe m.es.length m.ce] 43) = V at hbx HB1 HES1 ⊢
      obtain ⟨rV, _⟩ := hbx
      generalize wr.heap.size = nV at rV ⊢
      have y0 : V.cell? ⟨nV, 0, none⟩ = some (.slice m.op m.n m.cp) := rV.c 0 _ rfl
      have y1 : V.cell? ⟨nV, 1, none⟩ = some (.slice m.oe m.es.length m.ce) := rV.c 1 _ rfl
      have lV := rV.lt
      go_wp2_with fail
      refine (wellFormed_any m V HM.out HES1.out).mono ?_
      rintro e X ⟨rfl, hb⟩
      have HB2 := Lib.hid (below_call HB1.out hb)
      clear hb y0 y1 lV rV
      go_wp2
      go_roundw
      case rel => exact ⟨k + 1, by omega, by simp, HB2.out⟩
      case measure => simp [intOf]; omega
    · have R1 := r1.keep hW
      have a0 : wr.cell? ⟨n1', 0, none⟩ = some (.slice om T.ms.length cm) := R1.c 0 _ rfl
      have a1 : wr.cell? ⟨n1', 1, none⟩ = some (.slice oc T.cs.length cc) := R1.c 1 _ rfl
      have l1 := R1.lt
      have HT1 := Lib.hid (HT.out.keep hW)
      clear hW
      go_wp2_with fail
      clear a0 a1 l1 R1 HT1
      go_loopw [37] (fun i W => ∃ k : Nat, k ≤ T.cs.length ∧ i = .int .i64 k ∧ Below W0.heap.size W0 W) (fun i _ => T.cs.length - (intOf i).toNat)
      case atStart => exact ⟨0, by omega, rfl, HW.out⟩
      case round =>
        obtain ⟨k, hk, rfl, hW⟩ := hrel
        have HV := Lib.hid hW
        by_cases hlt : k < T.cs.length
        · obtain ⟨c, hc⟩ : ∃ r, T.cs[k]? = some r := ⟨_, List.getElem?_eq_getElem hlt⟩
          obtain ⟨bc, offc, rfl, hCr⟩ := (HT.out.keep hW).cs (map_ne hlt)
          have x0 : wr.cell? ⟨bc, offc + k * 6, none⟩ = some (.int .i64 (c.a.arm : Nat)) := hCr.c k _ (map_get hc) 0 _ rfl
          have x1 : wr.cell? ⟨bc, offc + k * 6 + 1, none⟩ = some (.int .i64 (c.a.x : Nat)) := hCr.c k _ (map_get hc) 1 _ rfl
          have x2 : wr.cell? ⟨bc, offc + k * 6 + 2, none⟩ = some (.int .i64 (c.a.y : Nat)) := hCr.c k _ (map_get hc) 2 _ rfl
          have x3 : wr.cell? ⟨bc, offc + k * 6 + 3, none⟩ = some (.int .i64 (c.b.arm : Nat)) := hCr.c k _ (map_get hc) 3 _ rfl
          have x4 : wr.cell? ⟨bc, offc + k * 6 + 4, none⟩ = some (.int .i64 (c.b.x : Nat)) := hCr.c k _ (map_get hc) 4 _ rfl
          have x5 : wr.cell? ⟨bc, offc + k * 6 + 5, none⟩ = some (.int .i64 (c.b.y : Nat)) := hCr.c k _ (map_get hc) 5 _ rfl
          obtain ⟨hne, hla, hlb⟩ := HCF.out c (List.mem_of_getElem? hc)
          have g0 := nat_bne hne
          have HLA := Lib.hid hla
          have HLB := Lib.hid hlb
          have RT := r1.keep (HV.out)
          have HT2 := Lib.hid (HT.out.keep hW)
          clear hne hla hlb hCr hc hW
          go_upto_region 12 with fail
          have hbx := boxes1 wr [.int .i64 (c.a.arm : Nat), .int .i64 (c.a.x : Nat), .int .i64 (c.a.y : Nat), .int .i64 (c.b.arm : Nat), .int .i64 (c.b.x : Nat), .int .i64 (c.b.y : Nat)] 74
          have HB1 := Lib.hid (below_call HV.out hbx.2)
          have HT3 := Lib.hid (HT2.out.keep hbx.2)
          have RU := RT.keep hbx.2
          clear HT2 x0 x1 x2 x3 x4 x5 RT
          generalize wr.alloc (.cells #[.int .i64 (c.a.arm : Nat), .int .i64 (c.a.x : Nat), .int .i64 (c.a.y : Nat), .int .i64 (c.b.arm : Nat), .int .i64 (c.b.x : Nat), .int .i64 (c.b.y : Nat)] 74) = V at hbx HB1 HT3 RU ⊢
          obtain ⟨rV, _⟩ := hbx
          generalize wr.heap.size = nV at rV ⊢
          have y0 : V.cell? ⟨nV, 0, none⟩ = some (.int .i64 (c.a.arm : Nat)) := rV.c 0 _ rfl
          have y1 : V.cell? ⟨nV, 1, none⟩ = some (.int .i64 (c.a.x : Nat)) := rV.c 1 _ rfl
          have y2 : V.cell? ⟨nV, 2, none⟩ = some (.int .i64 (c.a.y : Nat)) := rV.c 2 _ rfl
          have y3 : V.cell? ⟨nV, 3, none⟩ = some (.int .i64 (c.b.arm : Nat)) := rV.c 3 _ rfl
          have y4 : V.cell? ⟨nV, 4, none⟩ = some (.int .i64 (c.b.x : Nat)) := rV.c 4 _ rfl
          have y5 : V.cell? ⟨nV, 5, none⟩ = some (.int .i64 (c.b.y : Nat)) := rV.c 5 _ rfl
          have b0 : V.cell? ⟨n1', 0, none⟩ = some (.slice om T.ms.length cm) := RU.c 0 _ rfl
          have b1 : V.cell? ⟨n1', 1, none⟩ = some (.slice (some ⟨bc, offc, none⟩) T.cs.length cc) := RU.c 1 _ rfl
          have lV := rV.lt
          have lU := RU.lt
          go_wp2_with fail
          refine (legal_ok om _ cm cc T c.a V HO.out HLA.out HT3.out).mono ?_
          rintro e X ⟨rfl, hb⟩
          have HB2 := Lib.hid (below_call HB1.out hb)
          have HT4 := Lib.hid (HT3.out.keep hb)
          have rX := rV.keep hb
          have RX := RU.keep hb
          clear hb y0 y1 y2 y3 y4 y5 b0 b1 lV lU rV RU HT3
          have y3 : X.cell? ⟨nV, 3, none⟩ = some (.int .i64 (c.b.arm : Nat)) := rX.c 3 _ rfl
          have y4 : X.cell? ⟨nV, 4, none⟩ = some (.int .i64 (c.b.x : Nat)) := rX.c 4 _ rfl
          have y5 : X.cell? ⟨nV, 5, none⟩ = some (.int .i64 (c.b.y : Nat)) := rX.c 5 _ rfl
          have b0 : X.cell? ⟨n1', 0, none⟩ = some (.slice om T.ms.length cm) := RX.c 0 _ rfl
          have b1 : X.cell? ⟨n1', 1, none⟩ = some (.slice (some ⟨bc, offc, none⟩) T.cs.length cc) := RX.c 1 _ rfl
          have lV := rX.lt
          have lU := RX.lt
          go_wp2_with fail
          refine (legal_ok om _ cm cc T c.b X HO.out HLB.out HT4.out).mono ?_
          rintro e Y ⟨rfl, hb⟩
          have HB3 := Lib.hid (below_call HB2.out hb)
          clear hb y3 y4 y5 b0 b1 lV lU rX RX HT4
          go_wp2
          go_roundw
          case rel => exact ⟨k + 1, by omega, by simp, HB3.out⟩
          case measure => simp [intOf]; omega
        · go_wp2
          go_ret
          exact boolP_mk rfl (below_call hB0 HV.out)
end Go.Proofs.Jn
end

