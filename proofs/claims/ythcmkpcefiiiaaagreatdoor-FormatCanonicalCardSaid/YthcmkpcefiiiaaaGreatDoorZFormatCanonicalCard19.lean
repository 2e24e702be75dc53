/-
  Texts put together: Cr Cs Da Ai.
-/
import Derived.Test.YthcmkpcefiiiaaaGreatDoorZFormatCanonicalCard12
import Derived.Test.YthcmkpcefiiiaaaGreatDoorZFormatCanonicalCard9
import Derived.Deep.CutRange
import Derived.StillTailTactics
import Derived.Laws.Closers25b
import Derived.Test.YthcmkpcefiiiaaaGreatDoorZFormatCanonicalCard4
import Derived.Deep.RegionHeldLaw
set_option linter.unusedVariables false
section
/-
 Walks: equal data is the same. Printed by gen_cr.py.
-/
namespace Go.Proofs.Ng
open Go.RowKit
theorem run_isAgg2 (w : World) : (isAgg 2).run Tryz.prog w = .ok false w := by
 simp [isAgg, go_sem, Tryz.underlying2]
theorem run_sizeOf2 (w : World) : (Go.sizeOf 2).run Tryz.prog w = .ok 1 w := by
 obtain ⟨i, hi, _, hs, _⟩ := info_parts info2
 simp [Go.sizeOf, typeInfo, go_sem, hi, hs]
theorem run_part2 (cs : Array Value) (i : Nat) (v : Value) (h : cs[i]? = some v) (w : World) : (part 2 cs i).run Tryz.prog w = .ok v w := by
 simp [part, go_sem, run_isAgg2, h]
theorem eq2d (n : Nat) (a b : Int) (w : World) : (Op.equalIn (n + 1) 2 (.int .i64 a) (.int .i64 b)).run Tryz.prog w = .ok (a == b) w := by
 simp [Op.equalIn, go_sem, Tryz.underlying2]
theorem r3 : List.range' 0 3 = [0, 1, 2] := rfl
theorem eq38d (n : Nat) (a b c : Int) (w : World) : (Op.equalIn (n + 2) 40 (.agg #[.int .i64 a, .int .i64 b, .int .i64 c]) (.agg #[.int .i64 a, .int .i64 b, .int .i64 c])).run Tryz.prog w = .ok true w := by
 rw [Op.equalIn]
 simp [r3, go_sem, Tryz.underlying40, run_sizeOf2, run_part2, eq2d]
set_option maxRecDepth 100000 in
set_option maxHeartbeats 4000000 in
theorem same69 (w : World) (oa ob : Option Addr) (ca cb : Nat) (ns : List Int) (h1 : Sl w oa 1 (pvals ns)) (h2 : Sl w ob 1 (pvals ns)) (hm : ns.length ≤ 1000000000) :
  Calls Tryz.prog 85 #[.slice oa ns.length ca, .slice ob ns.length cb] w (BoolP true w) := by
 have H1 := Lib.hid h1
 have H2 := Lib.hid h2
 have hq : ((ns.length : Int) != (ns.length : Int)) = false := by simp
 clear h1 h2
 go_enter Tryz.func85, Tryz.ntmps85
 go_wp2_with fail
 clear hq
 go_loopw [5] (fun i W => ∃ k : Nat, k ≤ ns.length ∧ i = .int .i64 (k : Nat) ∧ Below w.heap.size w W) (fun i _ => ns.length - (intOf i).toNat)
 case atStart => exact ⟨0, Nat.zero_le _, rfl, Below.refl _ _⟩
 case round =>
  obtain ⟨k, hk, rfl, hB⟩ := hrel
  by_cases hlt : k < ns.length
  ·obtain ⟨x, hx⟩ : ∃ x, ns[k]? = some x := ⟨_, List.getElem?_eq_getElem hlt⟩
   obtain ⟨g1, o1, e1, x1, l1⟩ := pv_get (H1.out.keep hB) hx
   obtain ⟨g2, o2, e2, x2, l2⟩ := pv_get (H2.out.keep hB) hx
   subst e1 e2
   have hxx : (x != x) = false := by simp
   have hkl : (k : Int) < (ns.length : Int) := by omega
   have HB := Lib.hid hB
   clear hB hx
   go_wp2_with fail
   go_quiet (fail)
   have HB2 := Lib.hid (below_call HB.out (below_drew wr nq))
   clear x1 x2 l1 l2 hxx
   go_wp2_with fail
   go_roundw
   case rel => exact ⟨k + 1, by omega, by simp, HB2.out⟩
   case measure => simp [intOf]; omega
  ·have hke : k = ns.length := by omega
   subst hke
   go_wp2
   go_ret
   exact boolP_mk rfl hB
set_option maxRecDepth 100000 in
set_option maxHeartbeats 4000000 in
theorem same71 (w : World) (oa ob : Option Addr) (ca cb : Nat) (ns : List Int) (h1 : Sl w oa 1 (pvals ns)) (h2 : Sl w ob 1 (pvals ns)) (hm : ns.length ≤ 1000000000) :
  Calls Tryz.prog 87 #[.slice oa ns.length ca, .slice ob ns.length cb] w (BoolP true w) := by
 have H1 := Lib.hid h1
 have H2 := Lib.hid h2
 have hq : ((ns.length : Int) != (ns.length : Int)) = false := by simp
 clear h1 h2
 go_enter Tryz.func87, Tryz.ntmps87
 go_wp2_with fail
 clear hq
 go_loopw [5] (fun i W => ∃ k : Nat, k ≤ ns.length ∧ i = .int .i64 (k : Nat) ∧ Below w.heap.size w W) (fun i _ => ns.length - (intOf i).toNat)
 case atStart => exact ⟨0, Nat.zero_le _, rfl, Below.refl _ _⟩
 case round =>
  obtain ⟨k, hk, rfl, hB⟩ := hrel
  by_cases hlt : k < ns.length
  ·obtain ⟨x, hx⟩ : ∃ x, ns[k]? = some x := ⟨_, List.getElem?_eq_getElem hlt⟩
   obtain ⟨g1, o1, e1, x1, l1⟩ := pv_get (H1.out.keep hB) hx
   obtain ⟨g2, o2, e2, x2, l2⟩ := pv_get (H2.out.keep hB) hx
   subst e1 e2
   have hxx : (x != x) = false := by simp
   have hkl : (k : Int) < (ns.length : Int) := by omega
   have HB := Lib.hid hB
   clear hB hx
   go_wp2_with fail
   go_quiet (fail)
   have HB2 := Lib.hid (below_call HB.out (below_drew wr nq))
   clear x1 x2 l1 l2 hxx
   go_wp2_with fail
   go_roundw
   case rel => exact ⟨k + 1, by omega, by simp, HB2.out⟩
   case measure => simp [intOf]; omega
  ·have hke : k = ns.length := by omega
   subst hke
   go_wp2
   go_ret
   exact boolP_mk rfl hB
set_option maxRecDepth 100000 in
set_option maxHeartbeats 4000000 in
theorem same70 (w : World) (oa ob : Option Addr) (ca cb : Nat) (ns : List (Int × Int × Int)) (h1 : Sl w oa 3 (vecsV ns)) (h2 : Sl w ob 3 (vecsV ns)) (hm : ns.length ≤ 1000000000) :
  Calls Tryz.prog 86 #[.slice oa ns.length ca, .slice ob ns.length cb] w (BoolP true w) := by
 have H1 := Lib.hid h1
 have H2 := Lib.hid h2
 have hq : ((ns.length : Int) != (ns.length : Int)) = false := by simp
 clear h1 h2
 go_enter Tryz.func86, Tryz.ntmps86
 go_wp2_with fail
 clear hq
 go_loopw [5] (fun i W => ∃ k : Nat, k ≤ ns.length ∧ i = .int .i64 (k : Nat) ∧ Below w.heap.size w W) (fun i _ => ns.length - (intOf i).toNat)
 case atStart => exact ⟨0, Nat.zero_le _, rfl, Below.refl _ _⟩
 case round =>
  obtain ⟨k, hk, rfl, hB⟩ := hrel
  by_cases hlt : k < ns.length
  ·obtain ⟨x, hx⟩ : ∃ x, ns[k]? = some x := ⟨_, List.getElem?_eq_getElem hlt⟩
   obtain ⟨g1, o1, e1, l1, x1, x2, x3⟩ := vec_get (H1.out.keep hB) hx
   obtain ⟨g2, o2, e2, l2, y1, y2, y3⟩ := vec_get (H2.out.keep hB) hx
   subst e1 e2
   have hcmp : ∀ u, (Op.equalIn 10000 40 (.agg #[.int .i64 x.1, .int .i64 x.2.1, .int .i64 x.2.2]) (.agg #[.int .i64 x.1, .int .i64 x.2.1, .int .i64 x.2.2])).run Tryz.prog u = .ok true u := fun u => eq38d 9998 _ _ _ u
   have hkl : (k : Int) < (ns.length : Int) := by omega
   have HB := Lib.hid hB
   clear hB hx
   go_wp2_with fail
   go_quiet (fail)
   have HB2 := Lib.hid (below_call HB.out (below_drew wr nq))
   clear x1 x2 x3 y1 y2 y3 l1 l2 hcmp
   go_wp2_with fail
   go_roundw
   case rel => exact ⟨k + 1, by omega, by simp, HB2.out⟩
   case measure => simp [intOf]; omega
  ·have hke : k = ns.length := by omega
   subst hke
   go_wp2
   go_ret
   exact boolP_mk rfl hB
end Go.Proofs.Ng
end

section
/-
 Walks: equal paths are the same.
-/
namespace Go.Proofs.Ng
open Go.RowKit
set_option maxRecDepth 100000 in
set_option maxHeartbeats 4000000 in
theorem sameLists41 (w : World) (oa ob : Option Addr) (ca cb : Nat) (ps : List (List Int)) (h1 : Pts w oa ps) (h2 : Pts w ob ps) (hm : ps.length ≤ 1000000000) (hr : ∀ q ∈ ps, q.length ≤ 1000000000) :
  Calls Tryz.prog 55 #[.slice oa ps.length ca, .slice ob ps.length cb] w (BoolP true w) := by
 have H1 := Lib.hid h1
 have H2 := Lib.hid h2
 have HR := Lib.hid hr
 have hq : ((ps.length : Int) != (ps.length : Int)) = false := by simp
 clear h1 h2 hr
 go_enter Tryz.func55, Tryz.ntmps55
 go_wp2_with fail
 clear hq
 go_loopw [5] (fun i W => ∃ k : Nat, k ≤ ps.length ∧ i = .int .i64 (k : Nat) ∧ Below w.heap.size w W) (fun i _ => ps.length - (intOf i).toNat)
 case atStart => exact ⟨0, Nat.zero_le _, rfl, Below.refl _ _⟩
 case round =>
  obtain ⟨k, hk, rfl, hB⟩ := hrel
  by_cases hlt : k < ps.length
  ·obtain ⟨x, hx⟩ : ∃ x, ps[k]? = some x := ⟨_, List.getElem?_eq_getElem hlt⟩
   obtain ⟨g1, o1, q1, c1, e1, x1, l1, s1⟩ := (H1.out.keep hB).get hx
   obtain ⟨g2, o2, q2, c2, e2, x2, l2, s2⟩ := (H2.out.keep hB).get hx
   subst e1 e2
   have hkl : (k : Int) < (ps.length : Int) := by omega
   have HC := Lib.hid (same69 wr.drew q1 q2 c1 c2 x (s1.keep (Below.refl _ _).drew) (s2.keep (Below.refl _ _).drew) (HR.out x (List.mem_of_getElem? hx)))
   have HB := Lib.hid (below_call hB (Below.refl wr.heap.size wr).drew)
   clear hB hx s1 s2
   go_upto_region 6 with fail
   go_still_tail 8, (by kernel_rfl)
   change wpList _ _ _ _ _ wr.drew
   clear x1 x2 l1 l2
   generalize wr.drew = V at HC HB ⊢
   go_wp2_with fail
   refine HC.out.mono ?_
   clear HC
   rintro e V2 ⟨rfl, hb⟩
   have HB2 := Lib.hid (below_call HB.out hb)
   clear hb HB
   go_wp2_with fail
   go_roundw
   case rel => exact ⟨k + 1, by omega, by simp, HB2.out⟩
   case measure => simp [intOf]; omega
  ·have hke : k = ps.length := by omega
   subst hke
   go_wp2
   go_ret
   exact boolP_mk rfl hB
theorem two_new (W : World) (A B : List Value) (t : TypeId) : Bx ((W.alloc (.cells A.toArray t)).alloc (.cells B.toArray t)).drew W.heap.size A t ∧ Bx ((W.alloc (.cells A.toArray t)).alloc (.cells B.toArray t)).drew (W.heap.size + 1) B t ∧ Below W.heap.size W ((W.alloc (.cells A.toArray t)).alloc (.cells B.toArray t)).drew := by
 have h1 := (Bx.new W A t).keep ((Below.refl _ (W.alloc (.cells A.toArray t))).alloc (Nat.le_refl _) (.cells B.toArray t))
 have h2 := Bx.new (W.alloc (.cells A.toArray t)) B t
 have hz : (W.alloc (.cells A.toArray t)).heap.size = W.heap.size + 1 := by simp
 rw [hz] at h2
 exact ⟨h1.keep (Below.refl _ _).drew, h2.keep (Below.refl _ _).drew, (((Below.refl _ _).alloc (Nat.le_refl _) _).alloc (by simp) _).drew⟩
set_option maxRecDepth 100000 in
set_option maxHeartbeats 8000000 in
theorem samePacked42 (w : World) (ot ou pt pu : Option Addr) (ca cb cc cd : Nat) (ed : Fm.EdgeD) (h1 : Sl w ot 3 (vecsV ed.table)) (h2 : Uses w ou ed.uses) (h3 : Sl w pt 3 (vecsV ed.table)) (h4 : Uses w pu ed.uses) (hm1 : ed.table.length ≤ 1000000000) (hm2 : ed.uses.length ≤ 1000000000) (hm3 : ∀ u ∈ ed.uses, u.nums.length ≤ 1000000000) :
  Calls Tryz.prog 56 #[.agg #[.slice ot ed.table.length ca, .slice ou ed.uses.length cb], .agg #[.slice pt ed.table.length cc, .slice pu ed.uses.length cd]] w (BoolP true w) := by
 have hb1 : Below w.heap.size w ((w.alloc (.cells #[.slice ot ed.table.length ca, .slice ou ed.uses.length cb] 73)).alloc (.cells #[.slice pt ed.table.length cc, .slice pu ed.uses.length cd] 73)) := ((Below.refl _ _).alloc (Nat.le_refl _) _).alloc (by simp) _
 have hx1 := (Bx.new w [.slice ot ed.table.length ca, .slice ou ed.uses.length cb] 73).keep ((Below.refl _ (w.alloc (.cells #[.slice ot ed.table.length ca, .slice ou ed.uses.length cb] 73))).alloc (Nat.le_refl _) (.cells #[.slice pt ed.table.length cc, .slice pu ed.uses.length cd] 73))
 have hx2 := Bx.new (w.alloc (.cells #[.slice ot ed.table.length ca, .slice ou ed.uses.length cb] 73)) [.slice pt ed.table.length cc, .slice pu ed.uses.length cd] 73
 have hz : (w.alloc (.cells #[.slice ot ed.table.length ca, .slice ou ed.uses.length cb] 73)).heap.size = w.heap.size + 1 := by simp
 rw [hz] at hx2
 have HX1 := Lib.hid hx1
 have HX2 := Lib.hid hx2
 have HB := Lib.hid hb1
 have HT1 := Lib.hid (h1.keep hb1)
 have HU1 := Lib.hid (h2.keep hb1)
 have HT2 := Lib.hid (h3.keep hb1)
 have HU2 := Lib.hid (h4.keep hb1)
 have HM3 := Lib.hid hm3
 have hq : ((ed.uses.length : Int) != (ed.uses.length : Int)) = false := by simp
 clear h1 h2 h3 h4 hb1 hx1 hx2 hz hm3
 go_enter Tryz.func56, Tryz.ntmps56
 go_upto_region 1 with fail
 generalize ((w.alloc (.cells #[.slice ot ed.table.length ca, .slice ou ed.uses.length cb] 73)).alloc (.cells #[.slice pt ed.table.length cc, .slice pu ed.uses.length cd] 73)) = W1 at HX1 HX2 HB HT1 HU1 HT2 HU2 ⊢
 have HSZ := Lib.hid HB.out.size
 obtain ⟨n1, hn1⟩ : ∃ n, n = w.heap.size := ⟨_, rfl⟩
 have HN1 := Lib.hid hn1
 rw [← hn1] at HX1 HX2 ⊢
 clear hn1
 have a0 := HX1.out.c 0 _ rfl
 have a1 := HX1.out.c 1 _ rfl
 have al := HX1.out.lt
 have b0 := HX2.out.c 0 _ rfl
 have b1 := HX2.out.c 1 _ rfl
 have bl := HX2.out.lt
 have HC := Lib.hid (same70 W1 ot pt ca cc ed.table HT1.out HT2.out hm1)
 go_wp2_with fail
 refine HC.out.mono ?_
 clear HC
 rintro e W2 ⟨rfl, hb2⟩
 have HX12 := Lib.hid (HX1.out.keep hb2)
 have HX22 := Lib.hid (HX2.out.keep hb2)
 have HU12 := Lib.hid (HU1.out.keep hb2)
 have HU22 := Lib.hid (HU2.out.keep hb2)
 have HB2 := Lib.hid (below_call HB.out hb2)
 clear a0 a1 al b0 b1 bl hb2 HX1 HX2 HU1 HU2 HT1 HT2
 have a0 := HX12.out.c 0 _ rfl
 have a1 := HX12.out.c 1 _ rfl
 have al := HX12.out.lt
 have b0 := HX22.out.c 0 _ rfl
 have b1 := HX22.out.c 1 _ rfl
 have bl := HX22.out.lt
 go_wp2_with fail
 clear a0 a1 al b0 b1 bl hq
 go_loopw [5] (fun i W => ∃ k : Nat, k ≤ ed.uses.length ∧ i = .int .i64 (k : Nat) ∧ Below W2.heap.size W2 W) (fun i _ => ed.uses.length - (intOf i).toNat)
 case atStart => exact ⟨0, Nat.zero_le _, rfl, Below.refl _ _⟩
 case round =>
  obtain ⟨k, hk, rfl, hB⟩ := hrel
  have hx1 := HX12.out.keep hB
  have hx2 := HX22.out.keep hB
  have a0 := hx1.c 0 _ rfl
  have a1 := hx1.c 1 _ rfl
  have al := hx1.lt
  have b0 := hx2.c 0 _ rfl
  have b1 := hx2.c 1 _ rfl
  have bl := hx2.lt
  by_cases hlt : k < ed.uses.length
  ·obtain ⟨u, hu⟩ : ∃ x, ed.uses[k]? = some x := ⟨_, List.getElem?_eq_getElem hlt⟩
   obtain ⟨g1, o1, p1, c1, e1, l1, u0, u1, u2, s1⟩ := (HU12.out.keep hB).get hu
   obtain ⟨g2, o2, p2, c2, e2, l2, v0, v1, v2, s2⟩ := (HU22.out.keep hB).get hu
   subst e1 e2
   have hkl : (k : Int) < (ed.uses.length : Int) := by omega
   have HB := Lib.hid hB
   clear hB hx1 hx2
   go_upto_region 6 with fail
   go_region
   case _ =>
    obtain ⟨m1, m2, mb⟩ := two_new wr [.int .i64 u.depth, .int .i64 u.index, .slice p1 u.nums.length c1] [.int .i64 u.depth, .int .i64 u.index, .slice p2 u.nums.length c2] 75
    generalize (((wr.alloc (.cells #[.int .i64 u.depth, .int .i64 u.index, .slice p1 u.nums.length c1] 75)).alloc (.cells #[.int .i64 u.depth, .int .i64 u.index, .slice p2 u.nums.length c2] 75)).drew) = V at m1 m2 mb ⊢
    have HB3 := Lib.hid (below_call HB.out mb)
    have HC3 := Lib.hid (same71 V p1 p2 c1 c2 u.nums (s1.keep mb) (s2.keep mb) (HM3.out u (List.mem_of_getElem? hu)))
    have z0 := m1.c 0 _ rfl
    have z1 := m1.c 1 _ rfl
    have z2 := m1.c 2 _ rfl
    have y0 := m2.c 0 _ rfl
    have y1 := m2.c 1 _ rfl
    have y2 := m2.c 2 _ rfl
    have zl := m1.lt
    have yl := m2.lt
    clear m1 m2 mb s1 s2 l1 l2 u0 u1 u2 v0 v1 v2 HB a0 a1 al b0 b1 bl
    go_wp2_with fail
    refine HC3.out.mono ?_
    clear HC3
    rintro e V2 ⟨rfl, hb⟩
    have HB4 := Lib.hid (below_call HB3.out hb)
    clear hb HB3 z0 z1 z2 y0 y1 y2 zl yl
    go_wp2_with fail
    go_roundw
    case rel => exact ⟨k + 1, by omega, by simp, HB4.out⟩
    case measure => simp [intOf]; omega
   case _ =>
    obtain ⟨m2, m1, mb⟩ := two_new wr [.int .i64 u.depth, .int .i64 u.index, .slice p2 u.nums.length c2] [.int .i64 u.depth, .int .i64 u.index, .slice p1 u.nums.length c1] 75
    generalize (((wr.alloc (.cells #[.int .i64 u.depth, .int .i64 u.index, .slice p2 u.nums.length c2] 75)).alloc (.cells #[.int .i64 u.depth, .int .i64 u.index, .slice p1 u.nums.length c1] 75)).drew) = V at m1 m2 mb ⊢
    have HB3 := Lib.hid (below_call HB.out mb)
    have HC3 := Lib.hid (same71 V p1 p2 c1 c2 u.nums (s1.keep mb) (s2.keep mb) (HM3.out u (List.mem_of_getElem? hu)))
    have z0 := m1.c 0 _ rfl
    have z1 := m1.c 1 _ rfl
    have z2 := m1.c 2 _ rfl
    have y0 := m2.c 0 _ rfl
    have y1 := m2.c 1 _ rfl
    have y2 := m2.c 2 _ rfl
    have zl := m1.lt
    have yl := m2.lt
    clear m1 m2 mb s1 s2 l1 l2 u0 u1 u2 v0 v1 v2 HB a0 a1 al b0 b1 bl
    go_wp2_with fail
    refine HC3.out.mono ?_
    clear HC3
    rintro e V2 ⟨rfl, hb⟩
    have HB4 := Lib.hid (below_call HB3.out hb)
    clear hb HB3 z0 z1 z2 y0 y1 y2 zl yl
    go_wp2_with fail
    go_roundw
    case rel => exact ⟨k + 1, by omega, by simp, HB4.out⟩
    case measure => simp [intOf]; omega
  ·have hke : k = ed.uses.length := by omega
   subst hke
   clear hx1 hx2
   go_wp2
   go_ret
   exact boolP_mk rfl (below_call HB2.out hB)
/-- Two boxes, made one behind the other. -/
theorem two_box (W : World) (A B : List Value) (t : TypeId) : Bx ((W.alloc (.cells A.toArray t)).alloc (.cells B.toArray t)) W.heap.size A t ∧ Bx ((W.alloc (.cells A.toArray t)).alloc (.cells B.toArray t)) (W.heap.size + 1) B t ∧ Below W.heap.size W ((W.alloc (.cells A.toArray t)).alloc (.cells B.toArray t)) := by
 have h1 := (Bx.new W A t).keep ((Below.refl _ (W.alloc (.cells A.toArray t))).alloc (Nat.le_refl _) (.cells B.toArray t))
 have h2 := Bx.new (W.alloc (.cells A.toArray t)) B t
 have hz : (W.alloc (.cells A.toArray t)).heap.size = W.heap.size + 1 := by simp
 rw [hz] at h2
 exact ⟨h1, h2, ((Below.refl _ _).alloc (Nat.le_refl _) _).alloc (by simp) _⟩
/-- A path whose rows are not longer than a billion. -/
structure PathSmall (p : Fm.PathD) : Prop where
 n1 : p.pts.length ≤ 1000000000
 n2 : ∀ q ∈ p.pts, q.length ≤ 1000000000
 n3 : p.edges.length ≤ 1000000000
 n4 : ∀ e ∈ p.edges, e.table.length ≤ 1000000000 ∧ e.uses.length ≤ 1000000000 ∧ ∀ u ∈ e.uses, u.nums.length ≤ 1000000000
set_option maxRecDepth 100000 in
set_option maxHeartbeats 8000000 in
theorem samePath18 (w : World) (v1 v2 : Value) (p : Fm.PathD) (h1 : PathAt w v1 p) (h2 : PathAt w v2 p) (hm : PathSmall p) : Calls Tryz.prog 21 #[v1, v2] w (BoolP true w) := by
 obtain ⟨op, ca, oe, cb, rfl, hp1, he1⟩ := h1
 obtain ⟨pp, cc, pe, cd, rfl, hp2, he2⟩ := h2
 obtain ⟨hx1, hx2, hb1⟩ := two_box w [.slice op p.pts.length ca, .slice oe p.edges.length cb] [.slice pp p.pts.length cc, .slice pe p.edges.length cd] 29
 have HX1 := Lib.hid hx1
 have HX2 := Lib.hid hx2
 have HB := Lib.hid hb1
 have HT1 := Lib.hid (hp1.keep hb1)
 have HU1 := Lib.hid (he1.keep hb1)
 have HT2 := Lib.hid (hp2.keep hb1)
 have HU2 := Lib.hid (he2.keep hb1)
 have hm3 := hm.n3
 have HM := Lib.hid hm
 have hq : ((p.edges.length : Int) != (p.edges.length : Int)) = false := by simp
 clear hp1 he1 hp2 he2 hb1 hx1 hx2 hm
 go_enter Tryz.func21, Tryz.ntmps21
 go_upto_region 1 with fail
 generalize ((w.alloc (.cells #[.slice op p.pts.length ca, .slice oe p.edges.length cb] 29)).alloc (.cells #[.slice pp p.pts.length cc, .slice pe p.edges.length cd] 29)) = W1 at HX1 HX2 HB HT1 HU1 HT2 HU2 ⊢
 obtain ⟨n1, hn1⟩ : ∃ n, n = w.heap.size := ⟨_, rfl⟩
 have HN1 := Lib.hid hn1
 rw [← hn1] at HX1 HX2 ⊢
 clear hn1
 have a0 := HX1.out.c 0 _ rfl
 have a1 := HX1.out.c 1 _ rfl
 have al := HX1.out.lt
 have b0 := HX2.out.c 0 _ rfl
 have b1 := HX2.out.c 1 _ rfl
 have bl := HX2.out.lt
 have HC := Lib.hid (sameLists41 W1 op pp ca cc p.pts HT1.out HT2.out HM.out.n1 HM.out.n2)
 go_wp2_with fail
 refine HC.out.mono ?_
 clear HC
 rintro e W2 ⟨rfl, hb2⟩
 have HX12 := Lib.hid (HX1.out.keep hb2)
 have HX22 := Lib.hid (HX2.out.keep hb2)
 have HU12 := Lib.hid (HU1.out.keep hb2)
 have HU22 := Lib.hid (HU2.out.keep hb2)
 have HB2 := Lib.hid (below_call HB.out hb2)
 clear a0 a1 al b0 b1 bl hb2 HX1 HX2 HU1 HU2 HT1 HT2
 have a0 := HX12.out.c 0 _ rfl
 have a1 := HX12.out.c 1 _ rfl
 have al := HX12.out.lt
 have b0 := HX22.out.c 0 _ rfl
 have b1 := HX22.out.c 1 _ rfl
 have bl := HX22.out.lt
 go_wp2_with fail
 clear a0 a1 al b0 b1 bl hq
 go_loopw [5] (fun i W => ∃ k : Nat, k ≤ p.edges.length ∧ i = .int .i64 (k : Nat) ∧ Below W2.heap.size W2 W) (fun i _ => p.edges.length - (intOf i).toNat)
 case atStart => exact ⟨0, Nat.zero_le _, rfl, Below.refl _ _⟩
 case round =>
  obtain ⟨k, hk, rfl, hB⟩ := hrel
  have hx1 := HX12.out.keep hB
  have hx2 := HX22.out.keep hB
  have a0 := hx1.c 0 _ rfl
  have a1 := hx1.c 1 _ rfl
  have al := hx1.lt
  have b0 := hx2.c 0 _ rfl
  have b1 := hx2.c 1 _ rfl
  have bl := hx2.lt
  by_cases hlt : k < p.edges.length
  ·obtain ⟨u, hu⟩ : ∃ x, p.edges[k]? = some x := ⟨_, List.getElem?_eq_getElem hlt⟩
   obtain ⟨g1, o1, t1, f1, r1, d1, e1, l1, u0, u1, s1, q1⟩ := (HU12.out.keep hB).get hu
   obtain ⟨g2, o2, t2, f2, r2, d2, e2, l2, y0, y1, s2, q2⟩ := (HU22.out.keep hB).get hu
   subst e1 e2
   obtain ⟨x1, x2, x3⟩ := HM.out.n4 u (List.mem_of_getElem? hu)
   have hkl : (k : Int) < (p.edges.length : Int) := by omega
   have kk : Below wr.heap.size wr wr.drew := (Below.refl _ _).drew
   have HC := Lib.hid (samePacked42 wr.drew t1 r1 t2 r2 f1 d1 f2 d2 u (s1.keep kk) (q1.keep kk) (s2.keep kk) (q2.keep kk) x1 x2 x3)
   have HB := Lib.hid (below_call hB kk)
   clear hB hx1 hx2 kk s1 s2 q1 q2 x1 x2 x3
   go_upto_region 6 with fail
   go_still_tail 10, (by kernel_rfl)
   change wpList _ _ _ _ _ wr.drew
   clear u0 u1 y0 y1 a0 a1 al b0 b1 bl l1 l2
   generalize wr.drew = V at HC HB ⊢
   go_wp2_with fail
   refine HC.out.mono ?_
   clear HC
   rintro e V2 ⟨rfl, hb⟩
   have HB3 := Lib.hid (below_call HB.out hb)
   clear hb HB
   go_wp2_with fail
   go_roundw
   case rel => exact ⟨k + 1, by omega, by simp, HB3.out⟩
   case measure => simp [intOf]; omega
  ·have hke : k = p.edges.length := by omega
   subst hke
   clear hx1 hx2
   go_wp2
   go_ret
   exact boolP_mk rfl (below_call HB2.out hB)
end Go.Proofs.Ng
end

section
/-
 Walks: numbers and paths that are made.
-/
namespace Go.Proofs.Ng
open Go.RowKit
theorem wrap_r64 (a : Int) : Fm.inR64 (IntKind.i64.wrap a) := by
 have h := wrap_within .i64 a
 have h1 : IntKind.i64.min = -9223372036854775808 := by decide
 have h2 : IntKind.i64.max = 9223372036854775807 := by decide
 unfold Fm.inR64; omega
theorem wrap64_r64 (a : Int) : Fm.inR64 (RowKit.wrap64 a) := by rw [← IntWalk.i64_left]; exact wrap_r64 a
theorem bits_in (op : BinOp) (a b : Int) : Fm.inR64 (bits op .i64 a b) := wrap_r64 _
theorem shr_in {m : Int} (k : Nat) (h : Fm.inR64 m) : Fm.inR64 (m / 2 ^ k) := by
 have hp : (0 : Int) < 2 ^ k := Int.pow_pos (by decide)
 unfold Fm.inR64 at h ⊢
 rcases Int.lt_or_le m 0 with h0 | h0
 ·have h1 := Int.ediv_lt_of_lt_mul hp (show m < 0 * 2 ^ k by omega)
  have h2 : m ≤ m / 2 ^ k := by
   rw [Int.le_ediv_iff_mul_le hp]
   have : m * 2 ^ k ≤ m * 1 := Int.mul_le_mul_of_nonpos_left (by omega) (by omega)
   omega
  omega
 ·have h1 : 0 ≤ m / 2 ^ k := Int.ediv_nonneg h0 (by omega)
  have h2 := Int.ediv_le_self (2 ^ k) h0
  omega
/-- A number was made by a source. -/
def MadeN (nS : Nat) (os : Option Addr) (cap : Nat) (xs : List Int) (W : World) (e : Ending) (W' : World) : Prop := ∃ r : Int, Fm.inR64 r ∧ e = .returned (.int .i64 r) ∧ W.grownBy W' (some nS) ∧ Src W' nS os cap xs
set_option maxRecDepth 100000 in
set_option maxHeartbeats 4000000 in
theorem number21 (W : World) (nS : Nat) (os : Option Addr) (cap : Nat) (xs : List Int) (h : Src W nS os cap xs) :
  Calls Tryz.prog 31 #[.pointer (some ⟨nS, 0, none⟩)] W (MadeN nS os cap xs W) := by
 have HN := Lib.hid (fun (V : World) (n : Int) (hS : Src V nS os cap xs) (h1 : 1 ≤ n) (h2 : n ≤ 1000000000000) => next_any V nS os cap xs n hS h1 h2)
 have H0 := Lib.hid h
 clear h
 go_enter Tryz.func31, Tryz.ntmps31
 go_wp2_with fail
 refine (HN.out W 1073741824 H0.out (by decide) (by decide)).mono ?_
 rintro e W1 ⟨r1, hr1, hr2, rfl, hg, hS⟩
 have HG1 := Lib.hid hg
 have HS1 := Lib.hid hS
 clear hg hS
 go_wp2_with fail
 refine (HN.out W1 1073741824 HS1.out (by decide) (by decide)).mono ?_
 rintro e W2 ⟨r2, hr3, hr4, rfl, hg, hS⟩
 have HG2 := Lib.hid (grown_trans HG1.out hg)
 have HS2 := Lib.hid hS
 clear hg hS HG1 HS1
 go_wp2_with fail
 refine (HN.out W2 8 HS2.out (by decide) (by decide)).mono ?_
 rintro e W3 ⟨r3, hr5, hr6, rfl, hg, hS⟩
 have HG3 := Lib.hid (grown_trans HG2.out hg)
 have HS3 := Lib.hid hS
 clear hg hS HG2 HS2
 go_wp2_with fail
 refine (HN.out W3 64 HS3.out (by decide) (by decide)).mono ?_
 rintro e W4 ⟨r4, hr7, hr8, rfl, hg, hS⟩
 have HG4 := Lib.hid (grown_trans HG3.out hg)
 have HS4 := Lib.hid hS
 clear hg hS HG3 HS3
 go_wp2_with fail
 have hm := bits_in .or (bits .or .i64 (r1 * 8589934592) (r2 * 8)) r3
 generalize bits .or .i64 (bits .or .i64 (r1 * 8589934592) (r2 * 8)) r3 = m0 at hm ⊢
 have hm := Lib.hid (shr_in r4.toNat hm)
 generalize m0 / 2 ^ r4.toNat = m at hm ⊢
 refine (HN.out W4 3 HS4.out (by decide) (by decide)).mono ?_
 rintro e W5 ⟨r5, hr9, hr10, rfl, hg, hS⟩
 have HG5 := Lib.hid (grown_trans HG4.out hg)
 have HS5 := Lib.hid hS
 clear hg hS HG4 HS4
 by_cases h0 : r5 = 0
 ·subst h0
  go_wp2_with fail
  refine (HN.out W5 2 HS5.out (by decide) (by decide)).mono ?_
  rintro e W6 ⟨r6, hr11, hr12, rfl, hg, hS⟩
  have HG6 := Lib.hid (grown_trans HG5.out hg)
  have HS6 := Lib.hid hS
  clear hg hS HG5 HS5
  go_wp2
  go_ret
  exact ⟨_, wrap64_r64 _, rfl, HG6.out, HS6.out⟩
 ·go_wp2
  go_ret
  exact ⟨m, hm.out, rfl, HG5.out, HS5.out⟩
end Go.Proofs.Ng
end

section
/-
  Walks: the reference's pathLines.
-/
namespace Go.Proofs.Ng
open Go.RowKit

section
variable {P : Program} (w : World)
theorem wp_append_none {o : Oper} {a : Act} {K : Act → World → Prop} {Q : Exit → Act → World → Prop} (s x : Operand) (t : TypeId)
    (ho : o.op = .call { callee := .builtin .append, args := #[s, x], argTypes := #[t, t] }) (base : Nat) (e : TypeId) (i : TypeInfo) (size : Nat) (ht : P.underlying t = some (.slice e)) (hi : P.info? e = some i)
    (v : Value) (n : Nat) (xs : List Value) (hs : a.eval s = v) (hown : w.ownsRow base e size v n xs) (hx : a.eval x = .slice none 0 0) (h : K (a.put o.dst v) w) : o.wp P a w K Q := by
  have hr := run_append_owned_none (P := P) w base t o.type e i size ht hi v n xs hown
  unfold Oper.wp execOp
  simp only [ho, resolve, invoke, builtin, Sem.run_bind, Sem.run_pure, Result.andThen_ok, List.map_toArray, List.map_cons, List.map_nil, hs, hx, hr]
  exact h
theorem step_append_none {ops : Array Oper} {o : Oper} {a : Act} {K : Act → World → Prop} {Q : Exit → Act → World → Prop} {E : Prop} (hgd : o.guard = none) (s x : Operand) (t : TypeId)
    (ho : o.op = .call { callee := .builtin .append, args := #[s, x], argTypes := #[t, t] }) (base : Nat) (e : TypeId) (i : TypeInfo) (size : Nat) (ht : P.underlying t = some (.slice e)) (hi : P.info? e = some i)
    (v : Value) (n : Nat) (xs : List Value) (hs : a.eval s = v) (hown : w.ownsRow base e size v n xs) (hx : a.eval x = .slice none 0 0) (h : K (a.put o.dst v) w) :
    if Region.wanted o (yielded ops a.tmps) = true then Oper.wp P o a w K Q else E := by
  have hw : Region.wanted o (yielded ops a.tmps) = true := by simp [Region.wanted, hgd]
  rw [if_pos hw]
  exact wp_append_none w s x t ho base e i size ht hi v n xs hs hown hx h
end
/-- A slice that was built whole owns its row. -/
theorem own_built {w : World} {base g n : Nat} {e : TypeId} {cs : List Value} (hc : w.heap[g]? = some (.cells cs.toArray e)) (hb : base ≤ g) (hn : cs.length = n) (hm : n ≤ maxLen) : w.ownsRow base e 1 (.slice (some ⟨g, 0, none⟩) n n) n cs :=
  ⟨by omega, .inr ⟨g, n, cs.toArray, rfl, hb, hc, Nat.le_refl _, hm, by simp [hn], by simp [← hn]⟩⟩
theorem ints_news {W : World} {b off : Nat} {l : List Int} (h : RowsAt W b off 1 (pvals l)) : ∀ (j : Nat) (u : Value), (pflat l)[j]? = some u → W.cell? ((⟨b, off, none⟩ : Addr).add j) = some u := by
  intro j u hu
  unfold pflat at hu
  rw [List.getElem?_map, Option.map_eq_some_iff] at hu
  obtain ⟨x, hx, rfl⟩ := hu
  have := h.c j _ (pvals_get hx) 0 _ rfl
  have e : (⟨b, off, none⟩ : Addr).add j = ⟨b, off + j, none⟩ := by unfold Addr.add; split <;> simp_all
  rw [e]
  simpa using this
theorem pflat_cell (l : List Int) : ∀ u ∈ pflat l, u.oneCell' = true := by
  intro u hu
  simp [pflat] at hu
  obtain ⟨x, _, rfl⟩ := hu
  rfl
theorem pflat_len (l : List Int) : (pflat l).length = l.length := by simp [pflat]
theorem nums_nil {w W : World} {e : Ending} (h : NumsP [] w e W) : e = .returned (.slice none 0 0) ∧ Below w.heap.size w W := by
  obtain ⟨oa, ca, rfl, h2, _, h4, _⟩ := h
  obtain ⟨rfl, rfl⟩ := h2 rfl
  exact ⟨rfl, h4⟩
theorem nums_some {w W : World} {e : Ending} {l : List Int} (hl : l ≠ []) (h : NumsP l w e W) : ∃ b off ca, e = .returned (.slice (some ⟨b, off, none⟩) l.length ca) ∧ RowsAt W b off 1 (pvals l) ∧ Below w.heap.size w W ∧ w.heap.size ≤ b := by
  obtain ⟨oa, ca, rfl, _, h3, h4, h5⟩ := h
  obtain ⟨b, off, rfl, hr⟩ := h3 (by simpa [pvals] using hl)
  exact ⟨b, off, ca, rfl, hr, h4, h5 _ rfl⟩
/-- A slice of two that was built before a call, or behind it. -/
theorem two_before {W Xa : World} {x y : Int} (hb : Below (W.drew.alloc (.cells #[.int .i64 x, .int .i64 y] 2)).heap.size (W.drew.alloc (.cells #[.int .i64 x, .int .i64 y] 2)) Xa) : Xa.ownsRow W.heap.size 2 1 (.slice (some ⟨W.heap.size, 0, none⟩) 2 2) 2 (pflat [x, y]) ∧ Below W.heap.size W Xa := by
  refine ⟨own_keep (own_built (heap_alloc_new W.drew _) (Nat.le_refl _) rfl (by unfold maxLen; omega)) hb, ?_⟩
  have h1 : Below W.heap.size W (W.drew.alloc (.cells #[.int .i64 x, .int .i64 y] 2)) := (Below.refl _ _).drew.alloc (Nat.le_refl _) _
  exact below_call h1 hb
theorem two_behind {W Xa : World} {x y : Int} (hb : Below W.drew.heap.size W.drew Xa) : (Xa.alloc (.cells #[.int .i64 x, .int .i64 y] 2)).ownsRow W.heap.size 2 1 (.slice (some ⟨Xa.heap.size, 0, none⟩) 2 2) 2 (pflat [x, y]) ∧ Below W.heap.size W (Xa.alloc (.cells #[.int .i64 x, .int .i64 y] 2)) := by
  have h1 : Below W.heap.size W Xa := (Below.refl _ _).drew.trans hb
  exact ⟨own_built (heap_alloc_new Xa _) h1.size rfl (by unfold maxLen; omega), h1.alloc h1.size _⟩
theorem cat {a c : List UInt8} (h : a.length + c.length ≤ 1048576) : ∀ W, (Op.stringOp .add ⟨a.toArray⟩ ⟨c.toArray⟩).run Tryz.prog W = .ok (.string ⟨(a ++ c).toArray⟩) W := fun W =>
  run_string_add_lists W a c (by omega) (by omega)
/-- A new box of numbers, as a slice. -/
theorem Sl.new (W : World) (ns : List Int) (ty : TypeId) : Sl (W.alloc (.cells (pflat ns).toArray ty)) (some ⟨W.heap.size, 0, none⟩) 1 (pvals ns) := by
  intro _
  refine ⟨W.heap.size, 0, rfl, by simp, fun i r hi k v hv => ?_⟩
  have hi' : ns[i]?.map (fun p => [Value.int .i64 p]) = some r := by simpa [pvals] using hi
  rw [Option.map_eq_some_iff] at hi'
  obtain ⟨x, hx, rfl⟩ := hi'
  have hk0 : k = 0 := by
    rcases Nat.eq_zero_or_pos k with h | h
    · exact h
    · rw [List.getElem?_eq_none (by simp; omega)] at hv; cases hv
  subst hk0
  simp at hv
  subst hv
  have := (Row.new W (pflat ns) ty).c i (.int .i64 x) (by simp [pflat, hx])
  simpa using this
theorem keep9 {V X : World} {n9 : Nat} {a b c : Value} {ty : TypeId} (h : Bx V n9 [a, b, c] ty) (hb : Below V.heap.size V X) : X.cell? ⟨n9, 0, none⟩ = some a ∧ X.cell? ⟨n9, 1, none⟩ = some b ∧ X.cell? ⟨n9, 2, none⟩ = some c ∧ n9 < X.heap.size ∧ Below V.heap.size V X :=
  ⟨(h.keep hb).c 0 _ rfl, (h.keep hb).c 1 _ rfl, (h.keep hb).c 2 _ rfl, (h.keep hb).lt, hb⟩
/-- A line out of an owned row. -/
theorem line28_own {w X : World} {B m cg : Nat} {oa : Option Addr} {ns : List Int} (kw : List UInt8) (htab : TabW w.heap.size w) (hB : Below w.heap.size w X) (ho : X.ownsRow B 2 1 (.slice oa m cg) m (pflat ns)) (hm : m = ns.length) (hr : ∀ n ∈ ns, Fm.inR64 n) (hl : (Fm.lineT kw ns).length ≤ 1048576) :
    Calls Tryz.prog 33 #[.string ⟨kw.toArray⟩, .slice oa m cg] X (fun e W' => e = .returned (.string ⟨(Fm.lineT kw ns).toArray⟩) ∧ Below X.heap.size X W') := by
  subst hm
  obtain ⟨oa', cap', e, hS⟩ := own_nums ho
  injection e with e1 _ e3
  subst e1 e3
  exact line28 X kw _ _ ns hS hr hl (tab_size htab hB)
set_option maxRecDepth 100000 in
set_option maxHeartbeats 8000000 in
theorem pathLines24 (w : World) (pv : Value) (p : Fm.PathD) (hP : PathAt w pv p) (hr : Fm.PathOk p) (hl : (Fm.pathT p).length ≤ 1048576) (htab : TabW w.heap.size w) :
    Calls Tryz.prog 28 #[pv] w (fun e W' => e = .returned (.string ⟨(Fm.pathT p).toArray⟩) ∧ Below w.heap.size w W') := by
  obtain ⟨op, np, oe, ne, rfl, hPt, hEd⟩ := hP
  have hp1 : p.pts.length ≤ 1048576 := hr.np
  rw [pathT_eq, List.length_append, List.length_append] at hl
  have hp2 : p.edges.length ≤ 1048576 := by
    have := flT_ge edgeT_pos p.edges
    omega
  have hb1 : Below w.heap.size w (w.alloc (.cells #[.slice op p.pts.length np, .slice oe p.edges.length ne] 29)) := (Below.refl _ _).alloc (Nat.le_refl _) _
  have hbx := Bx.new w [.slice op p.pts.length np, .slice oe p.edges.length ne] 29
  have hsz : (w.alloc (.cells #[.slice op p.pts.length np, .slice oe p.edges.length ne] 29)).heap.size = w.heap.size + 1 := by simp
  have HB1 := Lib.hid hb1
  have HX1 := Lib.hid hbx
  have HP := Lib.hid hPt
  have HE := Lib.hid hEd
  have HR := Lib.hid hr
  have HL := Lib.hid hl
  have HT := Lib.hid htab
  clear hb1 hbx hPt hEd hr hl htab
  go_enter Tryz.func28, Tryz.ntmps28
  go_wp2_with fail
  generalize w.alloc (.cells #[.slice op p.pts.length np, .slice oe p.edges.length ne] 29) = w1 at HB1 HX1 hsz ⊢
  obtain ⟨n, hn⟩ : ∃ n, w.heap.size = n := ⟨_, rfl⟩
  rw [hn] at HX1 hsz ⊢
  have h2b : Below w1.heap.size w1 (w1.alloc (.cells #[.int .i64 (p.pts.length : Nat)] 2)) := (Below.refl _ _).alloc (Nat.le_refl _) _
  have h2N := Sl.new w1 [((p.pts.length : Nat) : Int)] 2
  rw [hsz] at h2N
  have hB2 := below_call HB1.out h2b
  have HC := Lib.hid (line28 _ Fm.kwPath _ 1 [((p.pts.length : Nat) : Int)] h2N (by intro m hm; rw [List.mem_singleton] at hm; subst hm; exact Fm.sz_in hp1) (by have := HL.out; omega) (tab_size HT.out hB2))
  have HX2 := Lib.hid (HX1.out.keep h2b)
  have HB2 := Lib.hid hB2
  clear h2b h2N hB2 HX1 HB1
  refine HC.out.mono ?_
  clear HC
  rintro e W2 ⟨rfl, hb⟩
  have HX3 := Lib.hid (HX2.out.keep hb)
  have HB3 := Lib.hid (below_call HB2.out hb)
  clear hb HX2 HB2
  go_wp2_with fail
  generalize ht0 : Fm.lineT Fm.kwPath [((p.pts.length : Nat) : Int)] = t0 at HL ⊢
  go_loopw [3, 4] (fun s i W => ∃ k : Nat, k ≤ p.pts.length ∧ i = .int .i64 (k : Nat) ∧ s = .string ⟨(t0 ++ flT (Fm.lineT Fm.kwPoint) (p.pts.take k)).toArray⟩ ∧ Below w.heap.size w W ∧ Bx W n [.slice op p.pts.length np, .slice oe p.edges.length ne] 29) (fun _ i _ => p.pts.length - (intOf i).toNat)
  case atStart => exact ⟨0, Nat.zero_le _, rfl, by rw [List.take_zero, show flT (Fm.lineT Fm.kwPoint) [] = [] from rfl, List.append_nil], HB3.out, HX3.out⟩
  case round =>
    obtain ⟨k, hk, rfl, rfl, hB, hX⟩ := hrel
    clear HB3 HX3
    have c0 := hX.c 0 _ rfl
    have clt := hX.lt
    by_cases hlt : k < p.pts.length
    · obtain ⟨x, hx⟩ : ∃ x, p.pts[k]? = some x := ⟨_, List.getElem?_eq_getElem hlt⟩
      have hxr := HR.out.pts x (List.mem_of_getElem? hx)
      obtain ⟨g, off, ox, cx, hon, x0, glt, hsx⟩ := (HP.out.keep hB).get hx
      subst hon
      have hlen : (t0 ++ flT (Fm.lineT Fm.kwPoint) (p.pts.take k)).length + (Fm.lineT Fm.kwPoint x).length ≤ 1048576 := by
        have h1 := HL.out
        have h2 := flT_le (Fm.lineT Fm.kwPoint) p.pts (k + 1)
        rw [flT_take hx] at h2
        simp only [List.length_append] at h2 ⊢
        omega
      have HT2 : Hid (t0 ++ flT (Fm.lineT Fm.kwPoint) (p.pts.take (k + 1)) = (t0 ++ flT (Fm.lineT Fm.kwPoint) (p.pts.take k)) ++ Fm.lineT Fm.kwPoint x) := Lib.hid (by rw [flT_take hx, List.append_assoc])
      have HC := Lib.hid (line28 wr Fm.kwPoint ox cx x hsx hxr (by omega) (tab_size HT.out hB))
      have hcat := cat hlen
      generalize t0 ++ flT (Fm.lineT Fm.kwPoint) (p.pts.take k) = t1 at hcat HT2 ⊢
      generalize Fm.lineT Fm.kwPoint x = c1 at hcat HT2 HC
      have HB := Lib.hid hB
      have HX := Lib.hid hX
      clear hlen hx hxr hsx hB hX
      go_wp2_with fail
      refine HC.out.mono ?_
      clear HC
      rintro e W3 ⟨rfl, hb⟩
      have HB3 := Lib.hid (below_call HB.out hb)
      have HX3 := Lib.hid (HX.out.keep hb)
      clear hb HB HX c0 clt x0 glt
      go_wp2_with fail
      go_roundw
      case rel => exact ⟨k + 1, by omega, by simp, by rw [HT2.out], HB3.out, HX3.out⟩
      case measure => simp [intOf]; omega
    · have hke : k = p.pts.length := by omega
      subst hke
      rw [List.take_length]
      have HB := Lib.hid hB
      have HX := Lib.hid hX
      clear hB hX
      go_wp2_with fail
      clear c0 clt
      generalize ht1 : t0 ++ flT (Fm.lineT Fm.kwPoint) p.pts = t1
      have HL1 : Hid (t1.length + (flT Fm.edgeT p.edges).length ≤ 1048576) := Lib.hid (by
        have := HL.out
        rw [← ht1, List.length_append]
        omega)
      go_loopw [3, 5] (fun s i W => ∃ k : Nat, k ≤ p.edges.length ∧ i = .int .i64 (k : Nat) ∧ s = .string ⟨(t1 ++ flT Fm.edgeT (p.edges.take k)).toArray⟩ ∧ Below w.heap.size w W ∧ Bx W n [.slice op p.pts.length np, .slice oe p.edges.length ne] 29) (fun _ i _ => p.edges.length - (intOf i).toNat)
      case atStart => exact ⟨0, Nat.zero_le _, rfl, by rw [List.take_zero, show flT Fm.edgeT [] = [] from rfl, List.append_nil], HB.out, HX.out⟩
      case round =>
        obtain ⟨k, hk, rfl, rfl, hB, hX⟩ := hrel
        clear HB HX
        have c0 := hX.c 1 _ rfl
        have clt := hX.lt
        by_cases hlt : k < p.edges.length
        · obtain ⟨x, hx⟩ : ∃ x, p.edges[k]? = some x := ⟨_, List.getElem?_eq_getElem hlt⟩
          obtain ⟨hx1, hx2, hx3, hx4⟩ := HR.out.tb x (List.mem_of_getElem? hx)
          obtain ⟨g, off, ot, nt, ou, nu, hon, glt, x0, x1, hst, hsu⟩ := (HE.out.keep hB).get hx
          subst hon
          have hlen : (t1 ++ flT Fm.edgeT (p.edges.take k)).length + (Fm.edgeT x).length ≤ 1048576 := by
            have h1 := HL1.out
            have h2 := flT_le Fm.edgeT p.edges (k + 1)
            rw [flT_take hx] at h2
            simp only [List.length_append] at h2 ⊢
            omega
          have HT3 := Lib.hid (flT_take (f := Fm.edgeT) hx)
          generalize ht3 : t1 ++ flT Fm.edgeT (p.edges.take k) = t3 at hlen ⊢
          have HT4 : Hid (t1 ++ flT Fm.edgeT (p.edges.take (k + 1)) = t3 ++ Fm.edgeT x) := Lib.hid (by rw [HT3.out, ← ht3, List.append_assoc])
          clear ht3 HT3
          rw [edgeT_eq, List.length_append, List.length_append] at hlen
          -- the edge's box
          have hb3 : Below wr.heap.size wr (wr.alloc (.cells #[.slice ot x.table.length nt, .slice ou x.uses.length nu] 73)) := (Below.refl _ _).alloc (Nat.le_refl _) _
          have hsz3 : (wr.alloc (.cells #[.slice ot x.table.length nt, .slice ou x.uses.length nu] 73)).heap.size = wr.heap.size + 1 := by simp
          have HX5 := Lib.hid (Bx.new wr [.slice ot x.table.length nt, .slice ou x.uses.length nu] 73)
          have HX2 := Lib.hid (hX.keep hb3)
          have HB2 := Lib.hid (below_call hB hb3)
          have HST := Lib.hid (hst.keep hb3)
          have HSU := Lib.hid (hsu.keep hb3)
          have HLN := Lib.hid hlen
          have HX34 := Lib.hid (And.intro hx3 hx4)
          clear hlen hx hB hX hst hsu hb3 hx3 hx4
          go_wp2_with fail
          generalize wr.alloc (.cells #[.slice ot x.table.length nt, .slice ou x.uses.length nu] 73) = w3 at HX5 HX2 HB2 HST HSU hsz3 ⊢
          clear x0 x1 glt c0 clt
          obtain ⟨n3, hn3⟩ : ∃ n3, wr.heap.size = n3 := ⟨_, rfl⟩
          rw [hn3] at HX5 hsz3 ⊢
          have h2b : Below w3.heap.size w3 (w3.alloc (.cells #[.int .i64 (x.table.length : Nat), .int .i64 (x.uses.length : Nat)] 2)) := (Below.refl _ _).alloc (Nat.le_refl _) _
          have h2N := Sl.new w3 [((x.table.length : Nat) : Int), ((x.uses.length : Nat) : Int)] 2
          rw [hsz3] at h2N
          have hB3 := below_call HB2.out h2b
          have HC := Lib.hid (line28 _ Fm.kwEdge _ 2 [((x.table.length : Nat) : Int), ((x.uses.length : Nat) : Int)] h2N (line_nn _ _ hx1 hx2) (by have := HLN.out; omega) (tab_size HT.out hB3))
          have hcat := cat (a := t3) (c := Fm.lineT Fm.kwEdge [((x.table.length : Nat) : Int), ((x.uses.length : Nat) : Int)]) (by have := HLN.out; omega)
          have HET := Lib.hid (edgeT_eq x)
          generalize Fm.lineT Fm.kwEdge [((x.table.length : Nat) : Int), ((x.uses.length : Nat) : Int)] = c1 at HC hcat HLN HET
          have HB3 := Lib.hid hB3
          have HX6 := Lib.hid (HX5.out.keep h2b)
          have HX3 := Lib.hid (HX2.out.keep h2b)
          have HST3 := Lib.hid (HST.out.keep h2b)
          have HSU3 := Lib.hid (HSU.out.keep h2b)
          clear h2b h2N hB3 HX5 HX2 HST HSU HB2
          refine HC.out.mono ?_
          clear HC
          rintro e W4 ⟨rfl, hb⟩
          have HB4 := Lib.hid (below_call HB3.out hb)
          have HX7 := Lib.hid (HX6.out.keep hb)
          have HX4 := Lib.hid (HX3.out.keep hb)
          have HST4 := Lib.hid (HST3.out.keep hb)
          have HSU4 := Lib.hid (HSU3.out.keep hb)
          clear hb HB3 HX6 HX3 HST3 HSU3
          go_wp2_with fail
          clear hcat
          have HLN2 : Hid ((t3 ++ c1).length + (flT normT x.table).length + (flT Fm.useT x.uses).length ≤ 1048576) := Lib.hid (by
            have := HLN.out
            rw [List.length_append]
            omega)
          have HET2 : Hid (t3 ++ Fm.edgeT x = t3 ++ c1 ++ flT normT x.table ++ flT Fm.useT x.uses) := Lib.hid (by rw [HET.out]; simp only [List.append_assoc])
          clear HET HLN
          generalize t3 ++ c1 = t4 at HLN2 HET2 ⊢
          go_loopw [3, 7] (fun s i W => ∃ j : Nat, j ≤ x.table.length ∧ i = .int .i64 (j : Nat) ∧ s = .string ⟨(t4 ++ flT normT (x.table.take j)).toArray⟩ ∧ Below W4.heap.size W4 W) (fun _ i _ => x.table.length - (intOf i).toNat)
          case atStart => exact ⟨0, Nat.zero_le _, rfl, by rw [List.take_zero, show flT normT [] = [] from rfl, List.append_nil], Below.refl _ _⟩
          case round =>
            obtain ⟨j, hj, rfl, rfl, hB5⟩ := hrel
            have hx7 := HX7.out.keep hB5
            have c0 := hx7.c 0 _ rfl
            have clt := hx7.lt
            by_cases hltj : j < x.table.length
            · obtain ⟨v, hv⟩ : ∃ v, x.table[j]? = some v := ⟨_, List.getElem?_eq_getElem hltj⟩
              obtain ⟨g4, off4, hon4, glt4, x0, x1, x2⟩ := vec_get (HST4.out.keep hB5) hv
              subst hon4
              have hvr := HX34.out.1 v (List.mem_of_getElem? hv)
              have hlen : (t4 ++ flT normT (x.table.take j)).length + (normT v).length ≤ 1048576 := by
                have h1 := HLN2.out
                have h2 := flT_le normT x.table (j + 1)
                rw [flT_take hv] at h2
                simp only [List.length_append] at h2 ⊢
                omega
              have HT5 : Hid (t4 ++ flT normT (x.table.take (j + 1)) = (t4 ++ flT normT (x.table.take j)) ++ normT v) := Lib.hid (by rw [flT_take hv, List.append_assoc])
              have HC := Lib.hid (normal43 wr v hvr (by omega) (tab_size HT.out (below_call HB4.out hB5)))
              have hcat := cat hlen
              generalize t4 ++ flT normT (x.table.take j) = t5 at hcat HT5 ⊢
              generalize normT v = c2 at hcat HT5 HC
              have HB5 := Lib.hid hB5
              clear hlen hv hvr hB5 hx7
              go_wp2_with fail
              refine HC.out.mono ?_
              clear HC
              rintro e W5 ⟨rfl, hb⟩
              have HB6 := Lib.hid (below_call HB5.out hb)
              clear hb HB5 c0 clt x0 x1 x2 glt4
              go_wp2_with fail
              go_roundw
              case rel => exact ⟨j + 1, by omega, by simp, by rw [HT5.out], HB6.out⟩
              case measure => simp [intOf]; omega
            · have hke : j = x.table.length := by omega
              subst hke
              rw [List.take_length]
              have HB5 := Lib.hid (below_call HB4.out hB5)
              have HX8 := Lib.hid hx7
              have HX5 := Lib.hid (HX4.out.keep hB5)
              have HSU5 := Lib.hid (HSU4.out.keep hB5)
              clear hB5 hx7 HB4 HX7 HX4 HST4 HSU4
              go_wp2_with fail
              clear c0 clt
              have HLN3 : Hid ((t4 ++ flT normT x.table).length + (flT Fm.useT x.uses).length ≤ 1048576) := Lib.hid (by
                have := HLN2.out
                rw [List.length_append]
                omega)
              clear HLN2
              generalize t4 ++ flT normT x.table = t5 at HLN3 HET2 ⊢
              obtain ⟨V, hV⟩ : ∃ V, V = wr := ⟨_, rfl⟩
              subst hV
              go_loopw [3, 8] (fun s i W => ∃ j : Nat, j ≤ x.uses.length ∧ i = .int .i64 (j : Nat) ∧ s = .string ⟨(t5 ++ flT Fm.useT (x.uses.take j)).toArray⟩ ∧ Below V.heap.size V W) (fun _ i _ => x.uses.length - (intOf i).toNat)
              case atStart => exact ⟨0, Nat.zero_le _, rfl, by rw [List.take_zero, show flT Fm.useT [] = [] from rfl, List.append_nil], Below.refl _ _⟩
              case round =>
                obtain ⟨j, hj, rfl, rfl, hB6⟩ := hrel
                have hx8 := HX8.out.keep hB6
                have c0 := hx8.c 1 _ rfl
                have clt := hx8.lt
                by_cases hltj : j < x.uses.length
                · obtain ⟨y, hy⟩ : ∃ y, x.uses[j]? = some y := ⟨_, List.getElem?_eq_getElem hltj⟩
                  have hyr := HX34.out.2 y (List.mem_of_getElem? hy)
                  obtain ⟨g5, off5, oy, cy, hon5, glt5, x0, x1, x2, hsy⟩ := (HSU5.out.keep hB6).get hy
                  subst hon5
                  have hlen : (t5 ++ flT Fm.useT (x.uses.take j)).length + (Fm.useT y).length ≤ 1048576 := by
                    have h1 := HLN3.out
                    have h2 := flT_le Fm.useT x.uses (j + 1)
                    rw [flT_take hy] at h2
                    simp only [List.length_append] at h2 ⊢
                    omega
                  have HT6 : Hid (t5 ++ flT Fm.useT (x.uses.take (j + 1)) = (t5 ++ flT Fm.useT (x.uses.take j)) ++ Fm.useT y) := Lib.hid (by rw [flT_take hy, List.append_assoc])
                  have hcat := cat hlen
                  have hnl : y.nums.length ≤ 1048576 := by
                    have h1 := numsT_ge y.nums
                    rw [useT_eq] at hlen
                    simp only [List.length_append] at hlen
                    omega
                  have hul : (Fm.useT y).length ≤ 1048576 := by omega
                  have hb9 : Below wr.heap.size wr (wr.alloc (.cells #[.int .i64 y.depth, .int .i64 y.index, .slice oy y.nums.length cy] 75)) := (Below.refl _ _).alloc (Nat.le_refl _) _
                  have HX9 := Lib.hid (Bx.new wr [.int .i64 y.depth, .int .i64 y.index, .slice oy y.nums.length cy] 75)
                  have HB9 := Lib.hid (below_call hB6 hb9)
                  have HSY := Lib.hid (hsy.keep hb9)
                  have HYR := Lib.hid hyr
                  have HUL := Lib.hid hul
                  have HUE : Hid (Fm.lineT Fm.kwUse (y.depth :: y.index :: y.nums) = Fm.useT y) := Lib.hid rfl
                  generalize t5 ++ flT Fm.useT (x.uses.take j) = t6 at hcat HT6 ⊢
                  clear hlen hy hsy hb9 hyr hul hB6 hx8
                  go_upto_region 19 with fail
                  clear c0 clt x0 x1 x2 glt5
                  generalize wr.alloc (.cells #[.int .i64 y.depth, .int .i64 y.index, .slice oy y.nums.length cy] 75) = V9 at HX9 HB9 HSY ⊢
                  obtain ⟨n9, hn9⟩ : ∃ n9, wr.heap.size = n9 := ⟨_, rfl⟩
                  rw [hn9] at HX9 ⊢
                  have s0 := HX9.out.c 0 _ rfl
                  have s1 := HX9.out.c 1 _ rfl
                  have s2 := HX9.out.c 2 _ rfl
                  have slt := HX9.out.lt
                  have HBW := Lib.hid (below_call HB5.out HB9.out)
                  obtain ⟨i0, hi, hz0, hz1, hz2⟩ := info_parts info2
                  by_cases hnil : y.nums = []
                  · have hN1 : Hid (∀ X W, NumsP y.nums X W = NumsP [] X W) := Lib.hid (fun X W => by rw [hnil])
                    have HY2 : Hid ((pflat [y.depth, y.index] = pflat (y.depth :: y.index :: y.nums)) ∧ 2 = (y.depth :: y.index :: y.nums).length) := Lib.hid (by rw [hnil]; exact ⟨rfl, rfl⟩)
                    clear hnil
                    go_region_held_law (fun X => X.cell? ⟨n9, 0, none⟩ = some (.int .i64 y.depth) ∧ X.cell? ⟨n9, 1, none⟩ = some (.int .i64 y.index) ∧ X.cell? ⟨n9, 2, none⟩ = some (.slice oy y.nums.length cy) ∧ n9 < X.heap.size ∧ Below V9.heap.size V9 X)
                      (first
                        | exact keep9 HX9.out (Below.refl _ _).drew
                        | exact keep9 HX9.out ((Below.refl _ _).drew.alloc (Nat.le_refl _) _)
                        | exact keep9 HX9.out hfin
                        | exact keep9 HX9.out hf.2
                        | exact keep9 HX9.out (two_behind hb).2
                        | exact keep9 HX9.out (two_before hb).2
                        | exact keep9 HX9.out ((Below.refl _ _).drew.trans hb))
                      (first
                      | (go_simp
                         go_at_call 38
                         refine (wide29 _ oy cy y.nums (HSY.out.keep (by first | exact (Below.refl _ _).drew | exact (Below.refl _ _).drew.alloc (Nat.le_refl _) _)) hnl).mono ?_
                         intro e Xa hxa
                         rw [hN1.out] at hxa
                         obtain ⟨rfl, hb⟩ := nums_nil hxa
                         have hw : Below V9.heap.size V9 Xa := by first | exact (two_before hb).2 | exact (Below.refl _ _).drew.trans hb
                         have s0 := (HX9.out.keep hw).c 0 _ rfl
                         have s1 := (HX9.out.keep hw).c 1 _ rfl
                         have slt := (HX9.out.keep hw).lt
                         clear hw hxa)
                      | (refine step_append_none _ rfl (.tmp 84) (.tmp 87) 68 rfl V9.heap.size 2 i0 1 under42 hi _ 2 (pflat [y.depth, y.index]) rfl (two_before hb).1 (by simp [Act.eval]) ?_
                         have hf := two_before hb)
                      | (refine step_append_none _ rfl (.tmp 84) (.tmp 87) 68 rfl V9.heap.size 2 i0 1 under42 hi _ 2 (pflat [y.depth, y.index]) rfl (two_behind hb).1 (by simp [Act.eval]) ?_
                         have hf := two_behind (x := y.depth) (y := y.index) hb)
                      | (go_simp
                         go_at_call 33
                         refine (line28_own Fm.kwUse HT.out (below_call HBW.out hf.2) (by rw [← HY2.out.1]; exact hf.1) HY2.out.2 HYR.out (by rw [HUE.out]; exact HUL.out)).mono ?_
                         rw [HUE.out]
                         rintro e Xb ⟨rfl, hb28⟩
                         have hfin := below_call hf.2 hb28))
                    all_goals
                      have HFIN := Lib.hid (below_call HB9.out hfin)
                      clear hfin hb28 hf hb s0 s1 slt s2 hcat
                      go_wp2_with fail
                      go_roundw
                      case rel => exact ⟨j + 1, by omega, by simp, by rw [HT6.out], HFIN.out⟩
                      case measure => simp [intOf]; omega
                  · have HNE := Lib.hid hnil
                    have hN0 : 0 < y.nums.length := List.length_pos_iff.2 hnil
                    have HY2 : Hid (2 + y.nums.length = (y.depth :: y.index :: y.nums).length) := Lib.hid (by simp only [List.length_cons]; omega)
                    clear hnil
                    go_region_held_law (fun X => X.cell? ⟨n9, 0, none⟩ = some (.int .i64 y.depth) ∧ X.cell? ⟨n9, 1, none⟩ = some (.int .i64 y.index) ∧ X.cell? ⟨n9, 2, none⟩ = some (.slice oy y.nums.length cy) ∧ n9 < X.heap.size ∧ Below V9.heap.size V9 X)
                      (first
                        | exact keep9 HX9.out (Below.refl _ _).drew
                        | exact keep9 HX9.out ((Below.refl _ _).drew.alloc (Nat.le_refl _) _)
                        | exact keep9 HX9.out hfin
                        | exact keep9 HX9.out hf.2
                        | exact keep9 HX9.out (two_behind hb).2
                        | exact keep9 HX9.out (two_before hb).2
                        | exact keep9 HX9.out ((Below.refl _ _).drew.trans hb))
                      (first
                      | (go_simp
                         go_at_call 38
                         refine (wide29 _ oy cy y.nums (HSY.out.keep (by first | exact (Below.refl _ _).drew | exact (Below.refl _ _).drew.alloc (Nat.le_refl _) _)) hnl).mono ?_
                         intro e Xa hxa
                         obtain ⟨bN, offN, caN, rfl, hrN, hb, hblN⟩ := nums_some HNE.out hxa
                         have hw : Below V9.heap.size V9 Xa := by first | exact (two_before hb).2 | exact (Below.refl _ _).drew.trans hb
                         have s0 := (HX9.out.keep hw).c 0 _ rfl
                         have s1 := (HX9.out.keep hw).c 1 _ rfl
                         have slt := (HX9.out.keep hw).lt
                         clear hw hxa)
                      | (refine step_append_lies _ rfl (.tmp 84) (.tmp 87) 68 rfl V9.heap.size 2 i0 (.int .i64 0) 1 8 under42 hi hz0 hz1 hz2 rfl (by decide) _ 2 (pflat [y.depth, y.index]) rfl (two_before hb).1 ⟨bN, offN, none⟩ y.nums.length caN (pflat y.nums) (by simp [Act.eval]) (by rw [pflat_len, Nat.mul_one]) (ints_news hrN) (pflat_cell y.nums) hN0 (by unfold maxLen; omega) (by omega) (two_before hb).2.size _ rfl ?_
                         intro gN cgN W3 hown hgrow hat hlt3
                         have hf : W3.ownsRow V9.heap.size 2 1 (.slice (some ⟨gN, 0, none⟩) (2 + y.nums.length) cgN) (2 + y.nums.length) (pflat (y.depth :: y.index :: y.nums)) ∧ Below V9.heap.size V9 W3 := ⟨hown, (two_before hb).2.trans (grown_below (two_before hb).1 hgrow (two_before hb).2.size)⟩
                         clear hown hgrow hat)
                      | (refine step_append_lies _ rfl (.tmp 84) (.tmp 87) 68 rfl V9.heap.size 2 i0 (.int .i64 0) 1 8 under42 hi hz0 hz1 hz2 rfl (by decide) _ 2 (pflat [y.depth, y.index]) rfl (two_behind hb).1 ⟨bN, offN, none⟩ y.nums.length caN (pflat y.nums) (by simp [Act.eval]) (by rw [pflat_len, Nat.mul_one]) (ints_news (hrN.keep ((Below.refl _ _).alloc (Nat.le_refl _) _))) (pflat_cell y.nums) hN0 (by unfold maxLen; omega) (by omega) (two_behind (x := y.depth) (y := y.index) hb).2.size _ rfl ?_
                         intro gN cgN W3 hown hgrow hat hlt3
                         have hf : W3.ownsRow V9.heap.size 2 1 (.slice (some ⟨gN, 0, none⟩) (2 + y.nums.length) cgN) (2 + y.nums.length) (pflat (y.depth :: y.index :: y.nums)) ∧ Below V9.heap.size V9 W3 := ⟨hown, (two_behind hb).2.trans (grown_below (two_behind hb).1 hgrow (two_behind (x := y.depth) (y := y.index) hb).2.size)⟩
                         clear hown hgrow hat)
                      | (go_simp
                         go_at_call 33
                         refine (line28_own Fm.kwUse HT.out (below_call HBW.out hf.2) hf.1 HY2.out HYR.out (by rw [HUE.out]; exact HUL.out)).mono ?_
                         rw [HUE.out]
                         rintro e Xb ⟨rfl, hb28⟩
                         have hfin := below_call hf.2 hb28))
                    all_goals
                      have HFIN := Lib.hid (below_call HB9.out hfin)
                      clear hfin hb28 hf hb s0 s1 slt s2 hcat
                      go_wp2_with fail
                      go_roundw
                      case rel => exact ⟨j + 1, by omega, by simp, by rw [HT6.out], HFIN.out⟩
                      case measure => simp [intOf]; omega
                · have hke : j = x.uses.length := by omega
                  subst hke
                  rw [List.take_length]
                  have HB7 := Lib.hid (below_call HB5.out hB6)
                  have HX9 := Lib.hid (HX5.out.keep hB6)
                  have HTF : Hid (t5 ++ flT Fm.useT x.uses = t1 ++ flT Fm.edgeT (p.edges.take (k + 1))) := Lib.hid (by rw [HT4.out, HET2.out])
                  clear hB6 hx8
                  go_wp2_with fail
                  clear c0 clt
                  go_roundw
                  case rel => exact ⟨k + 1, by omega, by simp, by rw [HTF.out], HB7.out, HX9.out⟩
                  case measure => simp [intOf]; omega
        · have hke : k = p.edges.length := by omega
          subst hke
          rw [List.take_length]
          have HE2 : Hid (Fm.pathT p = t1 ++ flT Fm.edgeT p.edges) := Lib.hid (by rw [pathT_eq, ht0, ← ht1])
          have HB := Lib.hid hB
          clear hB hX
          go_wp2
          go_ret
          exact ⟨by rw [HE2.out]; rfl, by first | exact HB.out | (rw [← hn]; exact HB.out)⟩
end Go.Proofs.Ng
end

