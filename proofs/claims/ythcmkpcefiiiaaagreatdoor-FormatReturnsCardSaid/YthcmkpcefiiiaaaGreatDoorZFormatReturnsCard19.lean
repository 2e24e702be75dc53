/-
  Texts put together: Cr Cs Da Ai.
-/
import Derived.Test.YthcmkpcefiiiaaaGreatDoorZFormatReturnsCard12
import Derived.Test.YthcmkpcefiiiaaaGreatDoorZFormatReturnsCard9
import Derived.Deep.CutRange
import Derived.StillTailTactics
import Derived.Laws.Closers25b
import Derived.Test.YthcmkpcefiiiaaaGreatDoorZFormatReturnsCard4
import Derived.Deep.RegionHeldLaw
set_option linter.unusedVariables false
section
/-
  Walks: equal data is the same. Printed by gen_cr.py.
-/
namespace Go.Proofs.Ng
open Go.RowKit

theorem run_isAgg2 (w : World) : (isAgg 2).run Tryz.prog w = .ok false w := by
  simp [isAgg, go_sem, Tryz.underlying2]
theorem run_sizeOf2 (w : World) : (Go.sizeOf 2).run Tryz.prog w = .ok 1 w := by
  obtain ⟨i, hi, _, hs, _⟩ := info_parts info2
  simp [Go.sizeOf, typeInfo, go_sem, hi, hs]
theorem run_part2 (cs : Array Value) (i : Nat) (v : Value) (h : cs[i]? = some v) (w : World) : (part 2 cs i).run Tryz.prog w = .ok v w := by
  simp [part, go_sem, run_isAgg2, h]
theorem eq2d (n : Nat) (a b : Int) (w : World) : (Op.equalIn (n + 1) 2 (.int .i64 a) (.int .i64 b)).run Tryz.prog w = .ok (a == b) w := by
  simp [Op.equalIn, go_sem, Tryz.underlying2]
theorem r3 : List.range' 0 3 = [0, 1, 2] := rfl
theorem eq38d (n : Nat) (a b c : Int) (w : World) : (Op.equalIn (n + 2) 40 (.agg #[.int .i64 a, .int .i64 b, .int .i64 c]) (.agg #[.int .i64 a, .int .i64 b, .int .i64 c])).run Tryz.prog w = .ok true w := by
  rw [Op.equalIn]
  simp [r3, go_sem, Tryz.underlying40, run_sizeOf2, run_part2, eq2d]
set_option maxRecDepth 100000 in
set_option maxHeartbeats 4000000 in
theorem same69 (w : World) (oa ob : Option Addr) (ca cb : Nat) (ns : List Int) (h1 : Sl w oa 1 (pvals ns)) (h2 : Sl w ob 1 (pvals ns)) (hm : ns.length ≤ 1000000000) :
    Calls Tryz.prog 85 #[.slice oa ns.length ca, .slice ob ns.length cb] w (BoolP true w) := by
  have H1 := Lib.hid h1
  have H2 := Lib.hid h2
  have hq : ((ns.length : Int) != (ns.length : Int)) = false := by simp
  clear h1 h2
  go_enter Tryz.func85, Tryz.ntmps85
  go_wp2_with fail
  clear hq
  go_loopw [5] (fun i W => ∃ k : Nat, k ≤ ns.length ∧ i = .int .i64 (k : Nat) ∧ Below w.heap.size w W) (fun i _ => ns.length - (intOf i).toNat)
  case atStart => exact ⟨0, Nat.zero_le _, rfl, Below.refl _ _⟩
  case round =>
    obtain ⟨k, hk, rfl, hB⟩ := hrel
    by_cases hlt : k < ns.length
    · obtain ⟨x, hx⟩ : ∃ x, ns[k]? = some x := ⟨_, List.getElem?_eq_getElem hlt⟩
      obtain ⟨g1, o1, e1, x1, l1⟩ := pv_get (H1.out.keep hB) hx
      obtain ⟨g2, o2, e2, x2, l2⟩ := pv_get (H2.out.keep hB) hx
      subst e1 e2
      have hxx : (x != x) = false := by simp
      have hkl : (k : Int) < (ns.length : Int) := by omega
      have HB := Lib.hid hB
      clear hB hx
      go_wp2_with fail
      go_quiet (fail)
      have HB2 := Lib.hid (below_call HB.out (below_drew wr nq))
      clear x1 x2 l1 l2 hxx
      go_wp2_with fail
      go_roundw
      case rel => exact ⟨k + 1, by omega, by simp, HB2.out⟩
      case measure => simp [intOf]; omega
    · have hke : k = ns.length := by omega
      subst hke
      go_wp2
      go_ret
      exact boolP_mk rfl hB
set_option maxRecDepth 100000 in
set_option maxHeartbeats 4000000 in
theorem same71 (w : World) (oa ob : Option Addr) (ca cb : Nat) (ns : List Int) (h1 : Sl w oa 1 (pvals ns)) (h2 : Sl w ob 1 (pvals ns)) (hm : ns.length ≤ 1000000000) :
    Calls Tryz.prog 87 #[.slice oa ns.length ca, .slice ob ns.length cb] w (BoolP true w) := by
  have H1 := Lib.hid h1
  have H2 := Lib.hid h2
  have hq : ((ns.length : Int) != (ns.length : Int)) = false := by simp
  clear h1 h2
  go_enter Tryz.func87, Tryz.ntmps87
  go_wp2_with fail
  clear hq
  go_loopw [5] (fun i W => ∃ k : Nat, k ≤ ns.length ∧ i = .int .i64 (k : Nat) ∧ Below w.heap.size w W) (fun i _ => ns.length - (intOf i).toNat)
  case atStart => exact ⟨0, Nat.zero_le _, rfl, Below.refl _ _⟩
  case round =>
    obtain ⟨k, hk, rfl, hB⟩ := hrel
    by_cases hlt : k < ns.length
    · obtain ⟨x, hx⟩ : ∃ x, ns[k]? = some x := ⟨_, List.getElem?_eq_getElem hlt⟩
      obtain ⟨g1, o1, e1, x1, l1⟩ := pv_get (H1.out.keep hB) hx
      obtain ⟨g2, o2, e2, x2, l2⟩ := pv_get (H2.out.keep hB) hx
      subst e1 e2
      have hxx : (x != x) = false := by simp
      have hkl : (k : Int) < (ns.length : Int) := by omega
      have HB := Lib.hid hB
      clear hB hx
      go_wp2_with fail
      go_quiet (fail)
      have HB2 := Lib.hid (below_call HB.out (below_drew wr nq))
      clear x1 x2 l1 l2 hxx
      go_wp2_with fail
      go_roundw
      case rel => exact ⟨k + 1, by omega, by simp, HB2.out⟩
      case measure => simp [intOf]; omega
    · have hke : k = ns.length := by omega
      subst hke
      go_wp2
      go_ret
      exact boolP_mk rfl hB
set_option maxRecDepth 100000 in
set_option maxHeartbeats 4000000 in
theorem same70 (w : World) (oa ob : Option Addr) (ca cb : Nat) (ns : List (Int × Int × Int)) (h1 : Sl w oa 3 (vecsV ns)) (h2 : Sl w ob 3 (vecsV ns)) (hm : ns.length ≤ 1000000000) :
    Calls Tryz.prog 86 #[.slice oa ns.length ca, .slice ob ns.length cb] w (BoolP true w) := by
  have H1 := Lib.hid h1
  have H2 := Lib.hid h2
  have hq : ((ns.length : Int) != (ns.length : Int)) = false := by simp
  clear h1 h2
  go_enter Tryz.func86, Tryz.ntmps86
  go_wp2_with fail
  clear hq
  go_loopw [5] (fun i W => ∃ k : Nat, k ≤ ns.length ∧ i = .int .i64 (k : Nat) ∧ Below w.heap.size w W) (fun i _ => ns.length - (intOf i).toNat)
  case atStart => exact ⟨0, Nat.zero_le _, rfl, Below.refl _ _⟩
  case round =>
    obtain ⟨k, hk, rfl, hB⟩ := hrel
    by_cases hlt : k < ns.length
    · obtain ⟨x, hx⟩ : ∃ x, ns[k]? = some x := ⟨_, List.getElem?_eq_getElem hlt⟩
      obtain ⟨g1, o1, e1, l1, x1, x2, x3⟩ := vec_get (H1.out.keep hB) hx
      obtain ⟨g2, o2, e2, l2, y1, y2, y3⟩ := vec_get (H2.out.keep hB) hx
      subst e1 e2
      have hcmp : ∀ u, (Op.equalIn 10000 40 (.agg #[.int .i64 x.1, .int .i64 x.2.1, .int .i64 x.2.2]) (.agg #[.int .i64 x.1, .int .i64 x.2.1, .int .i64 x.2.2])).run Tryz.prog u = .ok true u := fun u => eq38d 9998 _ _ _ u
      have hkl : (k : Int) < (ns.length : Int) := by omega
      have HB := Lib.hid hB
      clear hB hx
      go_wp2_with fail
      go_quiet (fail)
      have HB2 := Lib.hid (below_call HB.out (below_drew wr nq))
      clear x1 x2 x3 y1 y2 y3 l1 l2 hcmp
      go_wp2_with fail
      go_roundw
      case rel => exact ⟨k + 1, by omega, by simp, HB2.out⟩
      case measure => simp [intOf]; omega
    · have hke : k = ns.length := by omega
      subst hke
      go_wp2
      go_ret
      exact boolP_mk rfl hB
end Go.Proofs.Ng
end

section
/-
  Walks: equal paths are the same.
-/
namespace Go.Proofs.Ng
open Go.RowKit

set_option maxRecDepth 100000 in
set_option maxHeartbeats 4000000 in
theorem sameLists41 (w : World) (oa ob : Option Addr) (ca cb : Nat) (ps : List (List Int)) (h1 : Pts w oa ps) (h2 : Pts w ob ps) (hm : ps.length ≤ 1000000000) (hr : ∀ q ∈ ps, q.length ≤ 1000000000) :
    Calls Tryz.prog 55 #[.slice oa ps.length ca, .slice ob ps.length cb] w (BoolP true w) := by
  have H1 := Lib.hid h1
  have H2 := Lib.hid h2
  have HR := Lib.hid hr
  have hq : ((ps.length : Int) != (ps.length : Int)) = false := by simp
  clear h1 h2 hr
  go_enter Tryz.func55, Tryz.ntmps55
  go_wp2_with fail
  clear hq
  go_loopw [5] (fun i W => ∃ k : Nat, k ≤ ps.length ∧ i = .int .i64 (k : Nat) ∧ Below w.heap.size w W) (fun i _ => ps.length - (intOf i).toNat)
  case atStart => exact ⟨0, Nat.zero_le _, rfl, Below.refl _ _⟩
  case round =>
    obtain ⟨k, hk, rfl, hB⟩ := hrel
    by_cases hlt : k < ps.length
    · obtain ⟨x, hx⟩ : ∃ x, ps[k]? = some x := ⟨_, List.getElem?_eq_getElem hlt⟩
      obtain ⟨g1, o1, q1, c1, e1, x1, l1, s1⟩ := (H1.out.keep hB).get hx
      obtain ⟨g2, o2, q2, c2, e2, x2, l2, s2⟩ := (H2.out.keep hB).get hx
      subst e1 e2
      have hkl : (k : Int) < (ps.length : Int) := by omega
      have HC := Lib.hid (same69 wr.drew q1 q2 c1 c2 x (s1.keep (Below.refl _ _).drew) (s2.keep (Below.refl _ _).drew) (HR.out x (List.mem_of_getElem? hx)))
      have HB := Lib.hid (below_call hB (Below.refl wr.heap.size wr).drew)
      clear hB hx s1 s2
      go_upto_region 6 with fail
      go_still_tail 8, (by kernel_rfl)
      change wpList _ _ _ _ _ wr.drew
      clear x1 x2 l1 l2
      generalize wr.drew = V at HC HB ⊢
      go_wp2_with fail
      refine HC.out.mono ?_
      clear HC
      rintro e V2 ⟨rfl, hb⟩
      have HB2 := Lib.hid (below_call HB.out hb)
      clear hb HB
      go_wp2_with fail
      go_roundw
      case rel => exact ⟨k + 1, by omega, by simp, HB2.out⟩
      case measure => simp [intOf]; omega
    · have hke : k = ps.length := by omega
      subst hke
      go_wp2
      go_ret
      exact boolP_mk rfl hB
theorem two_new (W : World) (A B : List Value) (t : TypeId) : Bx ((W.alloc (.cells A.toArray t)).alloc (.cells B.toArray t)).drew W.heap.size A t ∧ Bx ((W.alloc (.cells A.toArray t)).alloc (.cells B.toArray t)).drew (W.heap.size + 1) B t ∧ Below W.heap.size W ((W.alloc (.cells A.toArray t)).alloc (.cells B.toArray t)).drew := by
  have h1 := (Bx.new W A t).keep ((Below.refl _ (W.alloc (.cells A.toArray t))).alloc (Nat.le_refl _) (.cells B.toArray t))
  have h2 := Bx.new (W.alloc (.cells A.toArray t)) B t
  have hz : (W.alloc (.cells A.toArray t)).heap.size = W.heap.size + 1 := by simp
  rw [hz] at h2
  exact ⟨h1.keep (Below.refl _ _).drew, h2.keep (Below.refl _ _).drew, (((Below.refl _ _).alloc (Nat.le_refl _) _).alloc (by simp) _).drew⟩
set_option maxRecDepth 100000 in
set_option maxHeartbeats 8000000 in
theorem samePacked42 (w : World) (ot ou pt pu : Option Addr) (ca cb cc cd : Nat) (ed : Fm.EdgeD) (h1 : Sl w ot 3 (vecsV ed.table)) (h2 : Uses w ou ed.uses) (h3 : Sl w pt 3 (vecsV ed.table)) (h4 : Uses w pu ed.uses) (hm1 : ed.table.length ≤ 1000000000) (hm2 : ed.uses.length ≤ 1000000000) (hm3 : ∀ u ∈ ed.uses, u.nums.length ≤ 1000000000) :
    Calls Tryz.prog 56 #[.agg #[.slice ot ed.table.length ca, .slice ou ed.uses.length cb], .agg #[.slice pt ed.table.length cc, .slice pu ed.uses.length cd]] w (BoolP true w) := by
  have hb1 : Below w.heap.size w ((w.alloc (.cells #[.slice ot ed.table.length ca, .slice ou ed.uses.length cb] 73)).alloc (.cells #[.slice pt ed.table.length cc, .slice pu ed.uses.length cd] 73)) := ((Below.refl _ _).alloc (Nat.le_refl _) _).alloc (by simp) _
  have hx1 := (Bx.new w [.slice ot ed.table.length ca, .slice ou ed.uses.length cb] 73).keep ((Below.refl _ (w.alloc (.cells #[.slice ot ed.table.length ca, .slice ou ed.uses.length cb] 73))).alloc (Nat.le_refl _) (.cells #[.slice pt ed.table.length cc, .slice pu ed.uses.length cd] 73))
  have hx2 := Bx.new (w.alloc (.cells #[.slice ot ed.table.length ca, .slice ou ed.uses.length cb] 73)) [.slice pt ed.table.length cc, .slice pu ed.uses.length cd] 73
  have hz : (w.alloc (.cells #[.slice ot ed.table.length ca, .slice ou ed.uses.length cb] 73)).heap.size = w.heap.size + 1 := by simp
  rw [hz] at hx2
  have HX1 := Lib.hid hx1
  have HX2 := Lib.hid hx2
  have HB := Lib.hid hb1
  have HT1 := Lib.hid (h1.keep hb1)
  have HU1 := Lib.hid (h2.keep hb1)
  have HT2 := Lib.hid (h3.keep hb1)
  have HU2 := Lib.hid (h4.keep hb1)
  have HM3 := Lib.hid hm3
  have hq : ((ed.uses.length : Int) != (ed.uses.length : Int)) = false := by simp
  clear h1 h2 h3 h4 hb1 hx1 hx2 hz hm3
  go_enter Tryz.func56, Tryz.ntmps56
  go_upto_region 1 with fail
  generalize ((w.alloc (.cells #[.slice ot ed.table.length ca, .slice ou ed.uses.length cb] 73)).alloc (.cells #[.slice pt ed.table.length cc, .slice pu ed.uses.length cd] 73)) = W1 at HX1 HX2 HB HT1 HU1 HT2 HU2 ⊢
  have HSZ := Lib.hid HB.out.size
  obtain ⟨n1, hn1⟩ : ∃ n, n = w.heap.size := ⟨_, rfl⟩
  have HN1 := Lib.hid hn1
  rw [← hn1] at HX1 HX2 ⊢
  clear hn1
  have a0 := HX1.out.c 0 _ rfl
  have a1 := HX1.out.c 1 _ rfl
  have al := HX1.out.lt
  have b0 := HX2.out.c 0 _ rfl
  have b1 := HX2.out.c 1 _ rfl
  have bl := HX2.out.lt
  have HC := Lib.hid (same70 W1 ot pt ca cc ed.table HT1.out HT2.out hm1)
  go_wp2_with fail
  refine HC.out.mono ?_
  clear HC
  rintro e W2 ⟨rfl, hb2⟩
  have HX12 := Lib.hid (HX1.out.keep hb2)
  have HX22 := Lib.hid (HX2.out.keep hb2)
  have HU12 := Lib.hid (HU1.out.keep hb2)
  have HU22 := Lib.hid (HU2.out.keep hb2)
  have HB2 := Lib.hid (below_call HB.out hb2)
  clear a0 a1 al b0 b1 bl hb2 HX1 HX2 HU1 HU2 HT1 HT2
  have a0 := HX12.out.c 0 _ rfl
  have a1 := HX12.out.c 1 _ rfl
  have al := HX12.out.lt
  have b0 := HX22.out.c 0 _ rfl
  have b1 := HX22.out.c 1 _ rfl
  have bl := HX22.out.lt
  go_wp2_with fail
  clear a0 a1 al b0 b1 bl hq
  go_loopw [5] (fun i W => ∃ k : Nat, k ≤ ed.uses.length ∧ i = .int .i64 (k : Nat) ∧ Below W2.heap.size W2 W) (fun i _ => ed.uses.length - (intOf i).toNat)
  case atStart => exact ⟨0, Nat.zero_le _, rfl, Below.refl _ _⟩
  case round =>
    obtain ⟨k, hk, rfl, hB⟩ := hrel
    have hx1 := HX12.out.keep hB
    have hx2 := HX22.out.keep hB
    have a0 := hx1.c 0 _ rfl
    have a1 := hx1.c 1 _ rfl
    have al := hx1.lt
    have b0 := hx2.c 0 _ rfl
    have b1 := hx2.c 1 _ rfl
    have bl := hx2.lt
    by_cases hlt : k < ed.uses.length
    · obtain ⟨u, hu⟩ : ∃ x, ed.uses[k]? = some x := ⟨_, List.getElem?_eq_getElem hlt⟩
      obtain ⟨g1, o1, p1, c1, e1, l1, u0, u1, u2, s1⟩ := (HU12.out.keep hB).get hu
      obtain ⟨g2, o2, p2, c2, e2, l2, v0, v1, v2, s2⟩ := (HU22.out.keep hB).get hu
      subst e1 e2
      have hkl : (k : Int) < (ed.uses.length : Int) := by omega
      have HB := Lib.hid hB
      clear hB hx1 hx2
      go_upto_region 6 with fail
      go_region
      case _ =>
        obtain ⟨m1, m2, mb⟩ := two_new wr [.int .i64 u.depth, .int .i64 u.index, .slice p1 u.nums.length c1] [.int .i64 u.depth, .int .i64 u.index, .slice p2 u.nums.length c2] 75
        generalize (((wr.alloc (.cells #[.int .i64 u.depth, .int .i64 u.index, .slice p1 u.nums.length c1] 75)).alloc (.cells #[.int .i64 u.depth, .int .i64 u.index, .slice p2 u.nums.length c2] 75)).drew) = V at m1 m2 mb ⊢
        have HB3 := Lib.hid (below_call HB.out mb)
        have HC3 := Lib.hid (same71 V p1 p2 c1 c2 u.nums (s1.keep mb) (s2.keep mb) (HM3.out u (List.mem_of_getElem? hu)))
        have z0 := m1.c 0 _ rfl
        have z1 := m1.c 1 _ rfl
        have z2 := m1.c 2 _ rfl
        have y0 := m2.c 0 _ rfl
        have y1 := m2.c 1 _ rfl
        have y2 := m2.c 2 _ rfl
        have zl := m1.lt
        have yl := m2.lt
        clear m1 m2 mb s1 s2 l1 l2 u0 u1 u2 v0 v1 v2 HB a0 a1 al b0 b1 bl
        go_wp2_with fail
        refine HC3.out.mono ?_
        clear HC3
        rintro e V2 ⟨rfl, hb⟩
        have HB4 := Lib.hid (below_call HB3.out hb)
        clear hb HB3 z0 z1 z2 y0 y1 y2 zl yl
        go_wp2_with fail
        go_roundw
        case rel => exact ⟨k + 1, by omega, by simp, HB4.out⟩
        case measure => simp [intOf]; omega
      case _ =>
        obtain ⟨m2, m1, mb⟩ := two_new wr [.int .i64 u.depth, .int .i64 u.index, .slice p2 u.nums.length c2] [.int .i64 u.depth, .int .i64 u.index, .slice p1 u.nums.length c1] 75
        generalize (((wr.alloc (.cells #[.int .i64 u.depth, .int .i64 u.index, .slice p2 u.nums.length c2] 75)).alloc (.cells #[.int .i64 u.depth, .int .i64 u.index, .slice p1 u.nums.length c1] 75)).drew) = V at m1 m2 mb ⊢
        have HB3 := Lib.hid (below_call HB.out mb)
        have HC3 := Lib.hid (same71 V p1 p2 c1 c2 u.nums (s1.keep mb) (s2.keep mb) (HM3.out u (List.mem_of_getElem? hu)))
        have z0 := m1.c 0 _ rfl
        have z1 := m1.c 1 _ rfl
        have z2 := m1.c 2 _ rfl
        have y0 := m2.c 0 _ rfl
        have y1 := m2.c 1 _ rfl
        have y2 := m2.c 2 _ rfl
        have zl := m1.lt
        have yl := m2.lt
        clear m1 m2 mb s1 s2 l1 l2 u0 u1 u2 v0 v1 v2 HB a0 a1 al b0 b1 bl
        go_wp2_with fail
        refine HC3.out.mono ?_
        clear HC3
        rintro e V2 ⟨rfl, hb⟩
        have HB4 := Lib.hid (below_call HB3.out hb)
        clear hb HB3 z0 z1 z2 y0 y1 y2 zl yl
        go_wp2_with fail
        go_roundw
        case rel => exact ⟨k + 1, by omega, by simp, HB4.out⟩
        case measure => simp [intOf]; omega
    · have hke : k = ed.uses.length := by omega
      subst hke
      clear hx1 hx2
      go_wp2
      go_ret
      exact boolP_mk rfl (below_call HB2.out hB)
/-- Two boxes, made one behind the other. -/
theorem two_box (W : World) (A B : List Value) (t : TypeId) : Bx ((W.alloc (.cells A.toArray t)).alloc (.cells B.toArray t)) W.heap.size A t ∧ Bx ((W.alloc (.cells A.toArray t)).alloc (.cells B.toArray t)) (W.heap.size + 1) B t ∧ Below W.heap.size W ((W.alloc (.cells A.toArray t)).alloc (.cells B.toArray t)) := by
  have h1 := (Bx.new W A t).keep ((Below.refl _ (W.alloc (.cells A.toArray t))).alloc (Nat.le_refl _) (.cells B.toArray t))
  have h2 := Bx.new (W.alloc (.cells A.toArray t)) B t
  have hz : (W.alloc (.cells A.toArray t)).heap.size = W.heap.size + 1 := by simp
  rw [hz] at h2
  exact ⟨h1, h2, ((Below.refl _ _).alloc (Nat.le_refl _) _).alloc (by simp) _⟩
/-- A path whose rows are not longer than a billion. -/
structure PathSmall (p : Fm.PathD) : Prop where
  n1 : p.pts.length ≤ 1000000000
  n2 : ∀ q ∈ p.pts, q.length ≤ 1000000000
  n3 : p.edges.length ≤ 1000000000
  n4 : ∀ e ∈ p.edges, e.table.length ≤ 1000000000 ∧ e.uses.length ≤ 1000000000 ∧ ∀ u ∈ e.uses, u.nums.length ≤ 1000000000
set_option maxRecDepth 100000 in
set_option maxHeartbeats 8000000 in
theorem samePath18 (w : World) (v1 v2 : Value) (p : Fm.PathD) (h1 : PathAt w v1 p) (h2 : PathAt w v2 p) (hm : PathSmall p) : Calls Tryz.prog 21 #[v1, v2] w (BoolP true w) := by
  obtain ⟨op, ca, oe, cb, rfl, hp1, he1⟩ := h1
  obtain ⟨pp, cc, pe, cd, rfl, hp2, he2⟩ := h2
  obtain ⟨hx1, hx2, hb1⟩ := two_box w [.slice op p.pts.length ca, .slice oe p.edges.length cb] [.slice pp p.pts.length cc, .slice pe p.edges.length cd] 29
  have HX1 := Lib.hid hx1
  have HX2 := Lib.hid hx2
  have HB := Lib.hid hb1
  have HT1 := Lib.hid (hp1.keep hb1)
  have HU1 := Lib.hid (he1.keep hb1)
  have HT2 := Lib.hid (hp2.keep hb1)
  have HU2 := Lib.hid (he2.keep hb1)
  have hm3 := hm.n3
  have HM := Lib.hid hm
  have hq : ((p.edges.length : Int) != (p.edges.length : Int)) = false := by simp
  clear hp1 he1 hp2 he2 hb1 hx1 hx2 hm
  go_enter Tryz.func21, Tryz.ntmps21
  go_upto_region 1 with fail
  generalize ((w.alloc (.cells #[.slice op p.pts.length ca, .slice oe p.edges.length cb] 29)).alloc (.cells #[.slice pp p.pts.length cc, .slice pe p.edges.length cd] 29)) = W1 at HX1 HX2 HB HT1 HU1 HT2 HU2 ⊢
  obtain ⟨n1, hn1⟩ : ∃ n, n = w.heap.size := ⟨_, rfl⟩
  have HN1 := Lib.hid hn1
  rw [← hn1] at HX1 HX2 ⊢
  clear hn1
  have a0 := HX1.out.c 0 _ rfl
  have a1 := HX1.out.c 1 _ rfl
  have al := HX1.out.lt
  have b0 := HX2.out.c 0 _ rfl
  have b1 := HX2.out.c 1 _ rfl
  have bl := HX2.out.lt
  have HC := Lib.hid (sameLists41 W1 op pp ca cc p.pts HT1.out HT2.out HM.out.n1 HM.out.n2)
  go_wp2_with fail
  refine HC.out.mono ?_
  clear HC
  rintro e W2 ⟨rfl, hb2⟩
  have HX12 := Lib.hid (HX1.out.keep hb2)
  have HX22 := Lib.hid (HX2.out.keep hb2)
  have HU12 := Lib.hid (HU1.out.keep hb2)
  have HU22 := Lib.hid (HU2.out.keep hb2)
  have HB2 := Lib.hid (below_call HB.out hb2)
  clear a0 a1 al b0 b1 bl hb2 HX1 HX2 HU1 HU2 HT1 HT2
  have a0 := HX12.out.c 0 _ rfl
  have a1 := HX12.out.c 1 _ rfl
  have al := HX12.out.lt
  have b0 := HX22.out.c 0 _ rfl
  have b1 := HX22.out.c 1 _ rfl
  have bl := HX22.out.lt
  go_wp2_with fail
  clear a0 a1 al b0 b1 bl hq
  go_loopw [5] (fun i W => ∃ k : Nat, k ≤ p.edges.length ∧ i = .int .i64 (k : Nat) ∧ Below W2.heap.size W2 W) (fun i _ => p.edges.length - (intOf i).toNat)
  case atStart => exact ⟨0, Nat.zero_le _, rfl, Below.refl _ _⟩
  case round =>
    obtain ⟨k, hk, rfl, hB⟩ := hrel
    have hx1 := HX12.out.keep hB
    have hx2 := HX22.out.keep hB
    have a0 := hx1.c 0 _ rfl
    have a1 := hx1.c 1 _ rfl
    have al := hx1.lt
    have b0 := hx2.c 0 _ rfl
    have b1 := hx2.c 1 _ rfl
    have bl := hx2.lt
    by_cases hlt : k < p.edges.length
    · obtain ⟨u, hu⟩ : ∃ x, p.edges[k]? = some x := ⟨_, List.getElem?_eq_getElem hlt⟩
      obtain ⟨g1, o1, t1, f1, r1, d1, e1, l1, u0, u1, s1, q1⟩ := (HU12.out.keep hB).get hu
      obtain ⟨g2, o2, t2, f2, r2, d2, e2, l2, y0, y1, s2, q2⟩ := (HU22.out.keep hB).get hu
      subst e1 e2
      obtain ⟨x1, x2, x3⟩ := HM.out.n4 u (List.mem_of_getElem? hu)
      have hkl : (k : Int) < (p.edges.length : Int) := by omega
      have kk : Below wr.heap.size wr wr.drew := (Below.refl _ _).drew
      have HC := Lib.hid (samePacked42 wr.drew t1 r1 t2 r2 f1 d1 f2 d2 u (s1.keep kk) (q1.keep kk) (s2.keep kk) (q2.keep kk) x1 x2 x3)
      have HB := Lib.hid (below_call hB kk)
      clear hB hx1 hx2 kk s1 s2 q1 q2 x1 x2 x3
      go_upto_region 6 with fail
      go_still_tail 10, (by kernel_rfl)
      change wpList _ _ _ _ _ wr.drew
      clear u0 u1 y0 y1 a0 a1 al b0 b1 bl l1 l2
      generalize wr.drew = V at HC HB ⊢
      go_wp2_with fail
      refine HC.out.mono ?_
      clear HC
      rintro e V2 ⟨rfl, hb⟩
      have HB3 := Lib.hid (below_call HB.out hb)
      clear hb HB
      go_wp2_with fail
      go_roundw
      case rel => exact ⟨k + 1, by omega, by simp, HB3.out⟩
      case measure => simp [intOf]; omega
    · have hke : k = p.edges.length := by omega
      subst hke
      clear hx1 hx2
      go_wp2
      go_ret
      exact boolP_mk rfl (below_call HB2.out hB)
end Go.Proofs.Ng
end

section
/-
  Walks: numbers and paths that are made.
-/
namespace Go.Proofs.Ng
open Go.RowKit

theorem wrap_r64 (a : Int) : Fm.inR64 (IntKind.i64.wrap a) := by
  have h := wrap_within .i64 a
  have h1 : IntKind.i64.min = -9223372036854775808 := by decide
  have h2 : IntKind.i64.max = 9223372036854775807 := by decide
  unfold Fm.inR64; omega
theorem wrap64_r64 (a : Int) : Fm.inR64 (RowKit.wrap64 a) := by rw [← IntWalk.i64_left]; exact wrap_r64 a
theorem bits_in (op : BinOp) (a b : Int) : Fm.inR64 (bits op .i64 a b) := wrap_r64 _
theorem shr_in {m : Int} (k : Nat) (h : Fm.inR64 m) : Fm.inR64 (m / 2 ^ k) := by
  have hp : (0 : Int) < 2 ^ k := Int.pow_pos (by decide)
  unfold Fm.inR64 at h ⊢
  rcases Int.lt_or_le m 0 with h0 | h0
  · have h1 := Int.ediv_lt_of_lt_mul hp (show m < 0 * 2 ^ k by omega)
    have h2 : m ≤ m / 2 ^ k := by
      rw [Int.le_ediv_iff_mul_le hp]
      have : m * 2 ^ k ≤ m * 1 := Int.mul_le_mul_of_nonpos_left (by omega) (by omega)
      omega
    omega
  · have h1 : 0 ≤ m / 2 ^ k := Int.ediv_nonneg h0 (by omega)
    have h2 := Int.ediv_le_self (2 ^ k) h0
    omega
/-- A number was made by a source. -/
def MadeN (nS : Nat) (os : Option Addr) (cap : Nat) (xs : List Int) (W : World) (e : Ending) (W' : World) : Prop := ∃ r : Int, Fm.inR64 r ∧ e = .returned (.int .i64 r) ∧ W.grownBy W' (some nS) ∧ Src W' nS os cap xs
set_option maxRecDepth 100000 in
set_option maxHeartbeats 4000000 in
theorem number21 (W : World) (nS : Nat) (os : Option Addr) (cap : Nat) (xs : List Int) (h : Src W nS os cap xs) :
    Calls Tryz.prog 31 #[.pointer (some ⟨nS, 0, none⟩)] W (MadeN nS os cap xs W) := by
  have HN := Lib.hid (fun (V : World) (n : Int) (hS : Src V nS os cap xs) (h1 : 1 ≤ n) (h2 : n ≤ 1000000000000) => next_any V nS os cap xs n hS h1 h2)
  have H0 := Lib.hid h
  clear h
  go_enter Tryz.func31, Tryz.ntmps31
  go_wp2_with fail
  refine (HN.out W 1073741824 H0.out (by decide) (by decide)).mono ?_
  rintro e W1 ⟨r1, hr1, hr2, rfl, hg, hS⟩
  have HG1 := Lib.hid hg
  have HS1 := Lib.hid hS
  clear hg hS
  go_wp2_with fail
  refine (HN.out W1 1073741824 HS1.out (by decide) (by decide)).mono ?_
  rintro e W2 ⟨r2, hr3, hr4, rfl, hg, hS⟩
  have HG2 := Lib.hid (grown_trans HG1.out hg)
  have HS2 := Lib.hid hS
  clear hg hS HG1 HS1
  go_wp2_with fail
  refine (HN.out W2 8 HS2.out (by decide) (by decide)).mono ?_
  rintro e W3 ⟨r3, hr5, hr6, rfl, hg, hS⟩
  have HG3 := Lib.hid (grown_trans HG2.out hg)
  have HS3 := Lib.hid hS
  clear hg hS HG2 HS2
  go_wp2_with fail
  refine (HN.out W3 64 HS3.out (by decide) (by decide)).mono ?_
  rintro e W4 ⟨r4, hr7, hr8, rfl, hg, hS⟩
  have HG4 := Lib.hid (grown_trans HG3.out hg)
  have HS4 := Lib.hid hS
  clear hg hS HG3 HS3
  go_wp2_with fail
  have hm := bits_in .or (bits .or .i64 (r1 * 8589934592) (r2 * 8)) r3
  generalize bits .or .i64 (bits .or .i64 (r1 * 8589934592) (r2 * 8)) r3 = m0 at hm ⊢
  have hm := Lib.hid (shr_in r4.toNat hm)
  generalize m0 / 2 ^ r4.toNat = m at hm ⊢
  refine (HN.out W4 3 HS4.out (by decide) (by decide)).mono ?_
  rintro e W5 ⟨r5, hr9, hr10, rfl, hg, hS⟩
  have HG5 := Lib.hid (grown_trans HG4.out hg)
  have HS5 := Lib.hid hS
  clear hg hS HG4 HS4
  by_cases h0 : r5 = 0
  · subst h0
    go_wp2_with fail
    refine (HN.out W5 2 HS5.out (by decide) (by decide)).mono ?_
    rintro e W6 ⟨r6, hr11, hr12, rfl, hg, hS⟩
    have HG6 := Lib.hid (grown_trans HG5.out hg)
    have HS6 := Lib.hid hS
    clear hg hS HG5 HS5
    go_wp2
    go_ret
    exact ⟨_, wrap64_r64 _, rfl, HG6.out, HS6.out⟩
  · go_wp2
    go_ret
    exact ⟨m, hm.out, rfl, HG5.out, HS5.out⟩
end Go.Proofs.Ng
end

section
/-
  Walks: the reference's pathLines.
-/
namespace Go.Proofs.Ng
open Go.RowKit

section
variable {P : Program} (w : World)
end
theorem pflat_cell (l : List Int) : ∀ u ∈ pflat l, u.oneCell' = true := by
  intro u hu
  simp [pflat] at hu
  obtain ⟨x, _, rfl⟩ := hu
  rfl
theorem pflat_len (l : List Int) : (pflat l).length = l.length := by simp [pflat]
/-- A new box of numbers, as a slice. -/
theorem Sl.new (W : World) (ns : List Int) (ty : TypeId) : Sl (W.alloc (.cells (pflat ns).toArray ty)) (some ⟨W.heap.size, 0, none⟩) 1 (pvals ns) := by
  intro _
  refine ⟨W.heap.size, 0, rfl, by simp, fun i r hi k v hv => ?_⟩
  have hi' : ns[i]?.map (fun p => [Value.int .i64 p]) = some r := by simpa [pvals] using hi
  rw [Option.map_eq_some_iff] at hi'
  obtain ⟨x, hx, rfl⟩ := hi'
  have hk0 : k = 0 := by
    rcases Nat.eq_zero_or_pos k with h | h
    · exact h
    · rw [List.getElem?_eq_none (by simp; omega)] at hv; cases hv
  subst hk0
  simp at hv
  subst hv
  have := (Row.new W (pflat ns) ty).c i (.int .i64 x) (by simp [pflat, hx])
  simpa using this
end Go.Proofs.Ng
end

