/-
  Texts put together: Dc Dd Ct Cu De Df Dg.
-/
import Derived.Test.YtlpcihfkkgifkaaGreatDoorZFormatTrajectoriesCard17
import Derived.Deep.QuietTactic
import Derived.BigQuiet
import Derived.Test.YtlpcihfkkgifkaaGreatDoorZFormatTrajectoriesCard16
import Derived.Test.YtlpcihfkkgifkaaGreatDoorZFormatTrajectoriesCard15
import Derived.Test.YtlpcihfkkgifkaaGreatDoorZFormatTrajectoriesCard2
import Derived.Test.YtlpcihfkkgifkaaGreatDoorZFormatTrajectoriesCard11
import Derived.Deep.RegionHeld3
set_option linter.unusedVariables false
section
/-
  Walks: a document with a change.
-/
namespace Go.Proofs.Ng
open Go.RowKit

theorem round26 (n k : Int) (h3 : 0 < k) (h4 : k ≤ 9223372036854775807) (w : World) : Calls Tryz.prog 26 #[.int .i64 n, .int .i64 k] w (fun e w' => e = .returned (.int .i64 (n % k)) ∧ w' = w) :=
  (round_any n k w h3 h4).mono fun _ _ ⟨h, h'⟩ => ⟨h, h'.symm⟩
theorem cat_any (a b : ByteArray) (h : a.size + b.size ≤ 9223372036854775807) : ∃ u : ByteArray, u.size = a.size + b.size ∧ ∀ W, (Op.stringOp .add a b).run Tryz.prog W = .ok (.string u) W :=
  ⟨a ++ b, by simp, fun W => run_string_add_sum (w := W) a b h⟩
theorem cut_any (s : ByteArray) (i j : Nat) (h1 : i ≤ j) (h2 : j ≤ s.size) : ∃ u : ByteArray, u.size = j - i ∧ ∀ W, (Instr.slice 9 (.string s) (some (.int .i64 (i : Nat))) (some (.int .i64 (j : Nat))) none).run Tryz.prog W = .ok (.string u) W :=
  ⟨s.extract i j, by simp; omega, fun W => by
    have := run_slice_string (P := Tryz.prog) W 9 s .i64 .i64 (i : Int) (j : Int) under9 (by omega) (by omega) (by omega)
    simpa using this⟩
theorem to_any (s : ByteArray) (j : Nat) (h2 : j ≤ s.size) : ∃ u : ByteArray, u.size = j ∧ ∀ W, (Instr.slice 9 (.string s) none (some (.int .i64 (j : Nat))) none).run Tryz.prog W = .ok (.string u) W :=
  ⟨s.extract 0 j, by simp; omega, fun W => by
    have := run_slice_string_h (P := Tryz.prog) W 9 s under9 .i64 (j : Int) (by omega) (by omega)
    simpa using this⟩
theorem frm_any (s : ByteArray) (i : Nat) (h2 : i ≤ s.size) : ∃ u : ByteArray, u.size = s.size - i ∧ ∀ W, (Instr.slice 9 (.string s) (some (.int .i64 (i : Nat))) none none).run Tryz.prog W = .ok (.string u) W :=
  ⟨s.extract i s.size, by simp, fun W => by
    have := run_slice_string_l (P := Tryz.prog) W 9 s under9 .i64 (i : Int) (by omega) (by omega)
    simpa using this⟩
set_option maxRecDepth 100000 in
set_option maxHeartbeats 4000000 in
theorem damaged10 (s : ByteArray) (how at' x : Int) (hs : s.size ≤ 2000000) : ∃ t : ByteArray, t.size ≤ s.size + 1 ∧ ∀ w, Calls Tryz.prog 10 #[.string s, .int .i64 how, .int .i64 at', .int .i64 x] w (fun e W' => e = .returned (.string t) ∧ Below w.heap.size w W') := by
  by_cases h0 : s.size = 0
  · refine ⟨s, by omega, fun w => ?_⟩
    have h0' : ((s.size : Int) == 0) = true := by simp [h0]
    go_enter Tryz.func10, Tryz.ntmps10
    go_wp2_with fail
    go_ret
    exact ⟨rfl, Below.refl _ _⟩
  · have h0' : ((s.size : Int) == 0) = false := beq_false_of_ne (by omega)
    have HR := Lib.hid (fun (n k : Int) (h3 : 0 < k) (h4 : k ≤ 9223372036854775807) (w : World) => round26 n k h3 h4 w)
    obtain ⟨k, hk⟩ : ∃ k : Nat, at' % (s.size : Int) = (k : Int) := ⟨(at' % (s.size : Int)).toNat, by have := Int.emod_nonneg at' (b := (s.size : Int)) (by omega); omega⟩
    have hks : k < s.size := by have := Int.emod_lt_of_pos at' (b := (s.size : Int)) (by omega); omega
    obtain ⟨y, hy⟩ : ∃ y : Nat, x % 11 = (y : Int) := ⟨(x % 11).toNat, by omega⟩
    have hy11 : y < 11 := by omega
    obtain ⟨h, hh⟩ : ∃ h : Nat, how % 5 = (h : Int) := ⟨(how % 5).toNat, by omega⟩
    have hh5 : h < 5 := by omega
    have HK := Lib.hid hk
    have HY := Lib.hid hy
    have HH := Lib.hid hh
    clear hk hy hh
    obtain ⟨c, hcs, hc⟩ := cut_any ⟨#[32, 48, 45, 57, 10, 101, 110, 100, 120, 43, 49]⟩ y (y + 1) (by omega) (show y + 1 ≤ 11 by omega)
    obtain ⟨s1, hs1, hr1⟩ := to_any s k (by omega)
    obtain ⟨s2, hs2, hr2⟩ := frm_any s k (by omega)
    obtain ⟨s3, hs3, hr3⟩ := frm_any s (k + 1) (by omega)
    obtain ⟨u13, hu13, hr13⟩ := cat_any s1 s3 (by omega)
    obtain ⟨u1, hu1, hrc1⟩ := cat_any s1 c (by omega)
    obtain ⟨u2, hu2, hrc2⟩ := cat_any u1 s2 (by omega)
    obtain ⟨u3, hu3, hrc3⟩ := cat_any u1 s3 (by omega)
    obtain ⟨u4, hu4, hrc4⟩ := cat_any s c (by omega)
    simp only [Int.natCast_add, Int.cast_ofNat_Int] at hc hr3
    have hw1 : IntKind.i64.wrap ((y : Int) + 1) = (y : Int) + 1 := IntWalk.i64_in _ (by omega)
    have hw2 : IntKind.i64.wrap ((k : Int) + 1) = (k : Int) + 1 := IntWalk.i64_in _ (by omega)
    obtain ⟨t, ht⟩ : ∃ t, t = (if h = 0 then u13 else if h = 1 then u2 else if h = 2 then u3 else if h = 3 then s1 else u4) := ⟨_, rfl⟩
    refine ⟨t, ?_, fun w => ?_⟩
    · rw [ht]
      split
      · omega
      · split
        · omega
        · split
          · omega
          · split <;> omega
    have HT := Lib.hid ht
    clear ht hu13 hu1 hu2 hu3 hu4 hcs hs1 hs2 hs3
    go_enter Tryz.func10, Tryz.ntmps10
    go_wp2_with fail
    refine (HR.out at' s.size (by omega) (by omega) w).mono ?_
    rintro e W1 ⟨rfl, hw⟩
    subst hw
    rw [HK.out]
    go_wp2_with fail
    refine (HR.out x 11 (by omega) (by omega) W1).mono ?_
    rintro e W2 ⟨rfl, hw⟩
    subst hw
    rw [HY.out]
    go_wp2_with fail
    refine (HR.out x 11 (by omega) (by omega) W2).mono ?_
    rintro e W3 ⟨rfl, hw⟩
    subst hw
    rw [HY.out]
    go_wp2_with fail
    refine (HR.out how 5 (by omega) (by omega) W3).mono ?_
    rintro e W4 ⟨rfl, hw⟩
    subst hw
    rw [HH.out]
    have HB : Hid (∀ n, Below W4.heap.size W4 (W4.drewN n)) := Lib.hid (fun n => below_drew W4 n)
    have HB0 := Lib.hid (Below.refl W4.heap.size W4)
    by_cases e0 : h = 0
    · subst e0
      go_wp2_with fail
      go_quiet (fail)
      have HB1 := Lib.hid (HB.out nq)
      generalize W4.drewN nq = V at HB1 ⊢
      go_wp2
      go_ret
      exact ⟨by rw [HT.out]; rfl, HB1.out⟩
    · by_cases e1 : h = 1
      · subst e1
        go_wp2_with fail
        go_quiet (fail)
        have HB1 := Lib.hid (HB.out nq)
        generalize W4.drewN nq = V at HB1 ⊢
        go_wp2
        go_ret
        exact ⟨by rw [HT.out]; rfl, HB1.out⟩
      · by_cases e2 : h = 2
        · subst e2
          go_wp2_with fail
          go_quiet (fail)
          have HB1 := Lib.hid (HB.out nq)
          generalize W4.drewN nq = V at HB1 ⊢
          go_wp2
          go_ret
          exact ⟨by rw [HT.out]; rfl, HB1.out⟩
        · by_cases e3 : h = 3
          · subst e3
            go_wp2
            go_ret
            exact ⟨by rw [HT.out]; rfl, HB0.out⟩
          · have e4 : h = 4 := by omega
            subst e4
            go_wp2
            go_ret
            exact ⟨by rw [HT.out]; rfl, HB0.out⟩
end Go.Proofs.Ng
end

section
/-
  Walks: small paths.
-/
namespace Go.Proofs.Ng
open Go.RowKit

def sumW {A : Type} (f : A → Nat) (l : List A) : Nat := (l.map f).sum
theorem sumW_take {A : Type} (f : A → Nat) {l : List A} {k : Nat} {x : A} (h : l[k]? = some x) : sumW f (l.take (k + 1)) = sumW f (l.take k) + f x := by
  rw [List.take_add_one, h]; simp [sumW]
theorem sumW_le {A : Type} (f : A → Nat) {B : Nat} : ∀ {l : List A}, (∀ x ∈ l, f x ≤ B) → sumW f l ≤ l.length * B
  | [], _ => by simp [sumW]
  | x :: l, h => by
    have h1 := sumW_le f (l := l) (fun y hy => h y (by simp [hy]))
    have h2 := h x (by simp)
    simp only [sumW, List.map_cons, List.sum_cons, List.length_cons] at *
    rw [Nat.add_mul]; omega
def edgeW (e : Fm.EdgeD) : Nat := e.table.length + e.uses.length + sumW (fun u : Fm.UseD => u.nums.length) e.uses
/-- A small path. -/
structure SmP (p : Fm.PathD) : Prop where
  np : p.pts.length ≤ 12
  ne : p.edges.length ≤ 12
  cnt : sumW List.length p.pts + sumW edgeW p.edges < 400
/-- No list of a path is longer than 1048576. -/
structure BulkP (p : Fm.PathD) : Prop where
  b1 : p.pts.length ≤ 1048576
  b2 : ∀ q ∈ p.pts, q.length ≤ 1048576
  b3 : p.edges.length ≤ 1048576
  b4 : ∀ e ∈ p.edges, e.table.length ≤ 1048576 ∧ e.uses.length ≤ 1048576 ∧ ∀ u ∈ e.uses, u.nums.length ≤ 1048576
def SmallR (p : Fm.PathD) (w : World) (e : Ending) (W' : World) : Prop := ∃ b, e = .returned (.bool b) ∧ (b = true → SmP p) ∧ Below w.heap.size w W'
set_option maxRecDepth 100000 in
set_option maxHeartbeats 8000000 in
theorem smallPath5 (w : World) (pv : Value) (p : Fm.PathD) (hP : PathAt w pv p) (hbk : BulkP p) : Calls Tryz.prog 5 #[pv] w (SmallR p w) := by
  obtain ⟨op, np, oe, ne, rfl, hPt, hEd⟩ := hP
  have hb1 : Below w.heap.size w (w.alloc (.cells #[.slice op p.pts.length np, .slice oe p.edges.length ne] 25)) := (Below.refl _ _).alloc (Nat.le_refl _) _
  have hbx := Bx.new w [.slice op p.pts.length np, .slice oe p.edges.length ne] 25
  have hl1 := hbk.b1
  have hl2 := hbk.b3
  have HBK := Lib.hid hbk
  have HP := Lib.hid (hPt.keep hb1)
  have HE := Lib.hid (hEd.keep hb1)
  have HX := Lib.hid hbx
  have HB := Lib.hid hb1
  clear hPt hEd hb1 hbx hbk
  by_cases h1 : 12 < p.pts.length
  · have hd : decide ((12 : Int) < (p.pts.length : Int)) = true := decide_eq_true (by omega)
    go_enter Tryz.func5, Tryz.ntmps5
    go_wp2
    go_ret
    exact ⟨false, rfl, nofun, HB.out⟩
  · have hd : decide ((12 : Int) < (p.pts.length : Int)) = false := decide_eq_false (by omega)
    by_cases h2 : 12 < p.edges.length
    · have hd2 : decide ((12 : Int) < (p.edges.length : Int)) = true := decide_eq_true (by omega)
      go_enter Tryz.func5, Tryz.ntmps5
      go_wp2
      go_ret
      exact ⟨false, rfl, nofun, HB.out⟩
    · have hd2 : decide ((12 : Int) < (p.edges.length : Int)) = false := decide_eq_false (by omega)
      go_enter Tryz.func5, Tryz.ntmps5
      go_upto_region 1 with fail
      generalize w.alloc (.cells #[.slice op p.pts.length np, .slice oe p.edges.length ne] 25) = w1 at HP HE HX HB ⊢
      obtain ⟨n1, hn1⟩ : ∃ n, n = w.heap.size := ⟨_, rfl⟩
      have HN1 := Lib.hid hn1
      rw [← hn1] at HX ⊢
      clear hn1
      have c0 := HX.out.c 0 _ rfl
      have c1 := HX.out.c 1 _ rfl
      have cl := HX.out.lt
      go_wp2_with fail
      clear c0 c1 cl hd hd2
      go_loopw [3, 4] (fun n i W => ∃ k : Nat, k ≤ p.pts.length ∧ i = .int .i64 (k : Nat) ∧ n = .int .i64 (sumW List.length (p.pts.take k) : Nat) ∧ Below w1.heap.size w1 W) (fun _ i _ => p.pts.length - (intOf i).toNat)
      case atStart => exact ⟨0, Nat.zero_le _, rfl, rfl, Below.refl _ _⟩
      case round =>
        obtain ⟨k, hk, rfl, rfl, hB⟩ := hrel
        have hx := HX.out.keep hB
        have c0 := hx.c 0 _ rfl
        have c1 := hx.c 1 _ rfl
        have cl := hx.lt
        by_cases hlt : k < p.pts.length
        · obtain ⟨x, hxk⟩ : ∃ x, p.pts[k]? = some x := ⟨_, List.getElem?_eq_getElem hlt⟩
          obtain ⟨g, off, ox, cx, rfl, x0, glt, -⟩ := (HP.out.keep hB).get hxk
          have hd : decide ((k : Int) < (p.pts.length : Int)) = true := decide_eq_true (by omega)
          have hxl := HBK.out.b2 x (List.mem_of_getElem? hxk)
          have hal : sumW List.length (p.pts.take k) ≤ 12 * 1048576 := by
            have := sumW_le List.length (l := p.pts.take k) (B := 1048576) (fun q hq => HBK.out.b2 q (List.mem_of_mem_take hq))
            have h3 : (p.pts.take k).length ≤ 12 := by rw [List.length_take]; omega
            exact Nat.le_trans this (Nat.mul_le_mul_right _ h3)
          have HT := Lib.hid (sumW_take List.length hxk)
          generalize sumW List.length (p.pts.take k) = a at hal HT ⊢
          have hw1 : IntKind.i64.wrap ((a : Int) + (x.length : Int)) = (a : Int) + (x.length : Int) := IntWalk.i64_in _ (by omega)
          have HB2 := Lib.hid hB
          clear hx hxk hB
          go_wp2_with fail
          go_roundw
          case rel => exact ⟨k + 1, by omega, by simp, by rw [HT.out]; simp, HB2.out⟩
          case measure => simp [intOf]; omega
        · have hke : k = p.pts.length := by omega
          subst hke
          have hd : decide ((p.pts.length : Int) < (p.pts.length : Int)) = false := by simp
          rw [List.take_length]
          have ha0 : sumW List.length p.pts ≤ 12 * 1048576 := by
            have := sumW_le List.length (l := p.pts) (B := 1048576) HBK.out.b2
            exact Nat.le_trans this (Nat.mul_le_mul_right _ (by omega))
          generalize hs0 : sumW List.length p.pts = s0 at ha0 ⊢
          have HS0 := Lib.hid hs0
          obtain ⟨w2, rfl⟩ : ∃ X, X = wr := ⟨_, rfl⟩
          have HX2 := Lib.hid hx
          have HE2 := Lib.hid (HE.out.keep hB)
          have HB2 := Lib.hid (below_call HB.out hB)
          clear hx hB hs0 hlt hk HE HX HB HP
          go_wp2_with fail
          clear c0 c1 cl hd
          go_loopw [3, 5] (fun n i W => ∃ k a : Nat, k ≤ p.edges.length ∧ i = .int .i64 (k : Nat) ∧ n = .int .i64 (a : Nat) ∧ a ≤ 12 * 1048576 + k * 4194304 ∧ (a < 400 → a = s0 + sumW edgeW (p.edges.take k)) ∧ Below w2.heap.size w2 W) (fun _ i _ => p.edges.length - (intOf i).toNat)
          case atStart => exact ⟨0, s0, Nat.zero_le _, rfl, rfl, by omega, fun _ => by simp [sumW], Below.refl _ _⟩
          case round =>
            obtain ⟨k, a, hk, rfl, rfl, hal, hac, hB⟩ := hrel
            have hx := HX2.out.keep hB
            have c0 := hx.c 0 _ rfl
            have c1 := hx.c 1 _ rfl
            have cl := hx.lt
            by_cases hlt : k < p.edges.length
            · obtain ⟨x, hxk⟩ : ∃ x, p.edges[k]? = some x := ⟨_, List.getElem?_eq_getElem hlt⟩
              obtain ⟨g, off, ot, nt, ou, nu, rfl, glt, x0, x1, -, hu⟩ := (HE2.out.keep hB).get hxk
              have hd : decide ((k : Int) < (p.edges.length : Int)) = true := decide_eq_true (by omega)
              have hd3 : (k : Int) < (p.edges.length : Int) := by omega
              obtain ⟨b1, b2, b3⟩ := HBK.out.b4 x (List.mem_of_getElem? hxk)
              have HB3 := Lib.hid b3
              have HT := Lib.hid (sumW_take edgeW hxk)
              have HAC := Lib.hid hac
              have hkb : k * 4194304 ≤ 12 * 4194304 := Nat.mul_le_mul_right _ (by omega)
              have hw1 : IntKind.i64.wrap ((x.table.length : Int) + (x.uses.length : Int)) = (x.table.length : Int) + (x.uses.length : Int) := IntWalk.i64_in _ (by omega)
              have hw2 : IntKind.i64.wrap ((a : Int) + ((x.table.length : Int) + (x.uses.length : Int))) = (a : Int) + ((x.table.length : Int) + (x.uses.length : Int)) := IntWalk.i64_in _ (by omega)
              have HU := Lib.hid hu
              have HBw := Lib.hid hB
              have HXK := Lib.hid hxk
              clear hx hxk hu hB b3 hac
              go_wp2_with fail
              go_quiet (fail)
              have HB4 := Lib.hid (below_call HBw.out (below_drew wr nq))
              have hx1 : (wr.drewN nq).cell? ⟨g, off + k * 2 + 1, none⟩ = some (.slice ou x.uses.length nu) := x1
              have hgl : g < (wr.drewN nq).heap.size := glt
              have HU4 := Lib.hid (HU.out.keep (below_drew wr nq))
              clear HU HBw x0 x1 glt c0 c1 cl
              generalize wr.drewN nq = W4 at HB4 hx1 hgl HU4 ⊢
              have h4 := HX2.out.keep HB4.out
              have HX4 := Lib.hid h4
              have hsum : (a : Int) + ((x.table.length : Int) + (x.uses.length : Int)) = ((a + (x.table.length + x.uses.length) : Nat) : Int) := by omega
              rw [hsum]
              generalize ha1 : a + (x.table.length + x.uses.length) = a1
              have HA1 := Lib.hid ha1
              have ha1b : a1 ≤ a + 2097152 := by omega
              clear hsum ha1 hw1 hw2 h4 hd
              go_wp2_with fail
              go_loopw [3, 6] (fun n i W => ∃ j c : Nat, j ≤ x.uses.length ∧ i = .int .i64 (j : Nat) ∧ n = .int .i64 (c : Nat) ∧ c ≤ a1 + 1048976 ∧ (c < 400 → c = a1 + sumW (fun u : Fm.UseD => u.nums.length) (x.uses.take j)) ∧ Below W4.heap.size W4 W) (fun _ i _ => x.uses.length - (intOf i).toNat)
              case atStart => exact ⟨0, a1, Nat.zero_le _, rfl, rfl, by omega, fun _ => by simp [sumW], Below.refl _ _⟩
              case round =>
                obtain ⟨j, c, hj, rfl, rfl, hcl, hcc, hB⟩ := hrel
                have hx := HX4.out.keep hB
                have c0 := hx.c 0 _ rfl
                have c1 := hx.c 1 _ rfl
                have cl := hx.lt
                have y1 : wr.cell? ⟨g, off + k * 2 + 1, none⟩ = some (.slice ou x.uses.length nu) := (hB.cell (p := ⟨g, off + k * 2 + 1, none⟩) hgl).trans hx1
                have yl : g < wr.heap.size := Nat.lt_of_lt_of_le hgl hB.size
                have HBr := Lib.hid (below_call HB4.out hB)
                have HBq := Lib.hid hB
                have hu := HU4.out.keep hB
                clear hx hB hx1 hgl
                by_cases hjl : j < x.uses.length
                · have hd : decide ((j : Int) < (x.uses.length : Int)) = true := decide_eq_true (by omega)
                  by_cases hc4 : c < 400
                  · have hd4 : decide ((c : Int) < 400) = true := decide_eq_true (by omega)
                    obtain ⟨u, huj⟩ : ∃ u, x.uses[j]? = some u := ⟨_, List.getElem?_eq_getElem hjl⟩
                    obtain ⟨g2, o2, on, nc, rfl, l2, z0, z1, z2, -⟩ := hu.get huj
                    have hul := HB3.out u (List.mem_of_getElem? huj)
                    have HT2 := Lib.hid (sumW_take (fun u : Fm.UseD => u.nums.length) huj)
                    have HCC := Lib.hid hcc
                    have hjk : (j : Int) < (x.uses.length : Int) := by omega
                    have hw1 : IntKind.i64.wrap ((c : Int) + (u.nums.length : Int)) = (c : Int) + (u.nums.length : Int) := IntWalk.i64_in _ (by omega)
                    clear hu huj hcc
                    go_wp2_with fail
                    go_roundw
                    case rel => exact ⟨j + 1, c + u.nums.length, by omega, by simp, by simp, by omega, fun h => by rw [HT2.out]; have := HCC.out (by omega); omega, HBq.out⟩
                    case measure => simp [intOf]; omega
                  · have hd4 : decide ((c : Int) < 400) = false := decide_eq_false (by omega)
                    clear hu
                    go_wp2_with fail
                    go_roundw
                    case rel => exact ⟨k + 1, c, by omega, by simp, rfl, by omega, fun h => absurd h hc4, HBr.out⟩
                    case measure => simp [intOf]; omega
                · have hje : j = x.uses.length := by omega
                  subst hje
                  have hd : decide ((x.uses.length : Int) < (x.uses.length : Int)) = false := by simp
                  have HCC := Lib.hid hcc
                  clear hu hcc
                  go_wp2_with fail
                  go_roundw
                  case rel => exact ⟨k + 1, c, by omega, by simp, rfl, by omega, fun h => by
                    have e1 := HCC.out h
                    rw [List.take_length] at e1
                    have e2 := HAC.out (by have := HA1.out; omega)
                    have e3 := HA1.out
                    rw [HT.out]
                    have e5 : edgeW x = x.table.length + x.uses.length + sumW (fun u : Fm.UseD => u.nums.length) x.uses := rfl
                    omega, HBr.out⟩
                  case measure => simp [intOf]; omega
            · have hke : k = p.edges.length := by omega
              subst hke
              have hd : decide ((p.edges.length : Int) < (p.edges.length : Int)) = false := by simp
              have HAC := Lib.hid hac
              have HBw := Lib.hid (below_call HB2.out hB)
              have HS : Hid (a < 400 → SmP p) := Lib.hid (fun h => ⟨by omega, by omega, by
                have e := HAC.out h
                rw [List.take_length] at e
                rw [HS0.out]
                omega⟩)
              clear hac hB hx
              by_cases h4 : a < 400
              · have hd4 : decide ((a : Int) < 400) = true := decide_eq_true (by omega)
                go_wp2
                go_ret
                exact ⟨true, rfl, fun _ => HS.out h4, HBw.out⟩
              · have hd4 : decide ((a : Int) < 400) = false := decide_eq_false (by omega)
                go_wp2
                go_ret
                exact ⟨false, rfl, nofun, HBw.out⟩
end Go.Proofs.Ng
end

section
/-
  Walks: the reference's FormatPath; paths.
-/
namespace Go.Proofs.Ng
open Go.RowKit

set_option maxRecDepth 100000 in
set_option maxHeartbeats 4000000 in
theorem refFormatPath8 (w : World) (pv : Value) (p : Fm.PathD) (hP : PathAt w pv p) (hr : Fm.PathOk p) (hl : (Fm.docT p).length ≤ 1048576) (htab : TabW w.heap.size w) :
    Calls Tryz.prog 8 #[pv] w (fun e W' => e = .returned (fmtV (Fm.formatP p)) ∧ Below w.heap.size w W') := by
  have hlp : (Fm.pathT p).length ≤ 1048576 := by unfold Fm.docT at hl; rw [List.length_append] at hl; omega
  have hm1 : p.pts.length ≤ 1000000000 := by have := hr.np; omega
  have hm2 : p.edges.length ≤ 1000000000 := by
    have := flT_ge edgeT_pos p.edges
    rw [pathT_eq, List.length_append, List.length_append] at hlp
    omega
  have hP0 := hP
  obtain ⟨op, np, oe, ne, rfl, -, -⟩ := hP
  have hb1 : Below w.heap.size w (w.alloc (.cells #[.slice op p.pts.length np, .slice oe p.edges.length ne] 25)) := (Below.refl _ _).alloc (Nat.le_refl _) _
  have hbx := Bx.new w [.slice op p.pts.length np, .slice oe p.edges.length ne] 25
  have H22 := Lib.hid (right22 _ _ p (hP0.keep hb1) hm1 hm2)
  have HP := Lib.hid hP0
  have HX := Lib.hid hbx
  have HB := Lib.hid hb1
  have HT := Lib.hid htab
  have HR := Lib.hid hr
  clear hP0 hb1 hbx htab hr
  go_enter Tryz.func8, Tryz.ntmps8
  go_upto_region 1 with fail
  generalize w.alloc (.cells #[.slice op p.pts.length np, .slice oe p.edges.length ne] 25) = wx at HX HB H22 ⊢
  obtain ⟨n, hn⟩ : ∃ n, n = w.heap.size := ⟨_, rfl⟩
  have HN := Lib.hid hn
  rw [← hn] at HX ⊢
  clear hn
  have c0 := HX.out.c 0 _ rfl
  have c1 := HX.out.c 1 _ rfl
  have clt := HX.out.lt
  cases hf : Fm.rightP p with
  | false =>
    have hF := Lib.hid (formatP_no hf)
    rw [hf] at H22
    clear hf
    go_wp2_with fail
    refine H22.out.mono ?_
    rintro e W1 ⟨rfl, hb2⟩
    have HB2 := Lib.hid (below_call HB.out hb2)
    clear hb2 H22
    go_wp2
    go_ret2
    exact ⟨by rw [hF.out]; rfl, HB2.out⟩
  | true =>
    have hF := Lib.hid (formatP_yes hf hl)
    rw [hf] at H22
    clear hf
    go_wp2_with fail
    refine H22.out.mono ?_
    clear H22
    rintro e W1 ⟨rfl, hb2⟩
    have HX1 := Lib.hid (HX.out.keep hb2)
    have HB2 := Lib.hid (below_call HB.out hb2)
    clear hb2 HX HB c0 c1 clt
    have c0 := HX1.out.c 0 _ rfl
    have c1 := HX1.out.c 1 _ rfl
    have clt := HX1.out.lt
    have H24 := Lib.hid (pathLines24 W1 _ p (HP.out.keep HB2.out) HR.out hlp (tab_size HT.out HB2.out))
    go_wp2_with fail
    refine H24.out.mono ?_
    clear H24 c0 c1 clt HX1
    rintro e W2 ⟨rfl, hb3⟩
    have HB3 := Lib.hid (below_call HB2.out hb3)
    have H23 := Lib.hid (document23 W2 (Fm.pathT p) hl)
    clear hb3 HB2
    go_wp2_with fail
    refine H23.out.mono ?_
    clear H23
    rintro e W3 ⟨rfl, hw⟩
    subst hw
    unfold fmtV
    go_wp2
    go_ret2
    exact ⟨by rw [hF.out]; rfl, HB3.out⟩
end Go.Proofs.Ng
end

section
/-
  Walks: the law's paths.
-/
namespace Go.Proofs.Ng
open Go.RowKit

theorem flT_mem {A : Type} {f : A → List UInt8} {x : A} : ∀ {l : List A}, x ∈ l → (f x).length ≤ (flT f l).length
  | y :: l, h => by
    rcases List.mem_cons.1 h with rfl | h
    · simp only [flT, List.map_cons, List.flatten_cons, List.length_append]; omega
    · have := flT_mem (f := f) h
      simp only [flT, List.map_cons, List.flatten_cons, List.length_append] at this ⊢; omega
theorem lineT_ge (kw : List UInt8) (ns : List Int) : ns.length ≤ (Fm.lineT kw ns).length := by
  have h := flT_ge (f := Fm.numT) (fun x => by simp [Fm.numT]) ns
  rw [lineT_eq, List.length_append, List.length_append]
  have e : numsT ns = flT Fm.numT ns := rfl
  rw [e]
  omega
theorem small_of_doc {p : Fm.PathD} (h : (Fm.docT p).length ≤ 1000000000) : PathSmall p := by
  have hl : (Fm.pathT p).length ≤ 1000000000 := by unfold Fm.docT at h; rw [List.length_append] at h; omega
  rw [pathT_eq, List.length_append, List.length_append] at hl
  refine ⟨?_, fun q hq => ?_, ?_, fun e he => ?_⟩
  · have := flT_ge (f := Fm.lineT Fm.kwPoint) (fun x => lineT_pos _ _) p.pts; omega
  · have h1 := flT_mem (f := Fm.lineT Fm.kwPoint) hq
    have h2 := lineT_ge Fm.kwPoint q
    omega
  · have := flT_ge (f := Fm.edgeT) edgeT_pos p.edges; omega
  · have h1 := flT_mem (f := Fm.edgeT) he
    rw [edgeT_eq, List.length_append, List.length_append] at h1
    have h2 := flT_ge (f := normT) (fun x => lineT_pos _ _) e.table
    have h3 := flT_ge (f := Fm.useT) (fun x => lineT_pos _ _) e.uses
    refine ⟨by omega, by omega, fun u hu => ?_⟩
    have h4 := flT_mem (f := Fm.useT) hu
    have h5 := lineT_ge Fm.kwUse (u.depth :: u.index :: u.nums)
    have h6 : Fm.useT u = Fm.lineT Fm.kwUse (u.depth :: u.index :: u.nums) := rfl
    rw [h6] at h4
    simp only [List.length_cons] at h5
    omega
theorem small_nil : PathSmall ⟨[], []⟩ := ⟨Nat.zero_le _, fun q h => (by cases h), Nat.zero_le _, fun q h => (by cases h)⟩
theorem small_parse (s : List UInt8) : PathSmall (parseRes s).1 := by
  unfold parseRes
  split
  · exact small_nil
  · split
    · split
      · rename_i hp
        have := Fm.parse_doc hp
        exact small_of_doc (by rw [this]; omega)
      · exact small_nil
    · exact small_nil
theorem fmtV_at (o : Option (List UInt8)) : ∃ s c, fmtV o = .tuple #[.string s, .int .i64 c] := by
  cases o with
  | none => exact ⟨_, _, rfl⟩
  | some t => exact ⟨_, _, rfl⟩
set_option maxRecDepth 100000 in
set_option maxHeartbeats 8000000 in
theorem paths9 (w : World) (pv : Value) (p : Fm.PathD) (s : ByteArray) (hP : PathAt w pv p) (hr : Fm.PathOk p) (hl : (Fm.docT p).length ≤ 1048576) (hs : s.size ≤ 9223372036854775807) (hL : LibW w) :
    Calls Tryz.prog 9 #[pv, .string s] w (BoolP true w) := by
  have hP0 := hP
  obtain ⟨op, np, oe, ne, rfl, -, -⟩ := hP
  have hb1 : Below w.heap.size w (w.alloc (.cells #[.slice op p.pts.length np, .slice oe p.edges.length ne] 25)) := (Below.refl _ _).alloc (Nat.le_refl _) _
  have hbx := Bx.new w [.slice op p.pts.length np, .slice oe p.edges.length ne] 25
  obtain ⟨fs, fc, hfv⟩ := fmtV_at (Fm.formatP p)
  have HP := Lib.hid hP0
  have HX := Lib.hid hbx
  have HB := Lib.hid hb1
  have HL := Lib.hid hL
  have HR := Lib.hid hr
  have HS := Lib.hid (small_parse s.data.toList)
  have HFV := Lib.hid hfv
  clear hP0 hb1 hbx hL hr hfv
  go_enter Tryz.func9, Tryz.ntmps9
  go_upto_region 1 with fail
  generalize w.alloc (.cells #[.slice op p.pts.length np, .slice oe p.edges.length ne] 25) = w1 at HX HB ⊢
  obtain ⟨n, hn⟩ : ∃ n, n = w.heap.size := ⟨_, rfl⟩
  have HN := Lib.hid hn
  rw [← hn] at HX ⊢
  clear hn
  have H1 := Lib.hid (formatPath16 w1 _ p (HP.out.keep HB.out) HR.out hl (tab_size HL.out.tabs HB.out))
  rw [HFV.out] at H1
  have c0 := HX.out.c 0 _ rfl
  have c1 := HX.out.c 1 _ rfl
  have clt := HX.out.lt
  go_wp2_with fail
  refine H1.out.mono ?_
  clear H1
  rintro e W1 ⟨rfl, hb2⟩
  have HX1 := Lib.hid (HX.out.keep hb2)
  have HB1 := Lib.hid (below_call HB.out hb2)
  clear hb2 HX HB c0 c1 clt
  have c0 := HX1.out.c 0 _ rfl
  have c1 := HX1.out.c 1 _ rfl
  have clt := HX1.out.lt
  have H2 := Lib.hid (refFormatPath8 W1 _ p (HP.out.keep HB1.out) HR.out hl (tab_size HL.out.tabs HB1.out))
  rw [HFV.out] at H2
  go_wp2_with fail
  refine H2.out.mono ?_
  clear H2 c0 c1 clt HX1
  rintro e W2 ⟨rfl, hb3⟩
  have HB2 := Lib.hid (below_call HB1.out hb3)
  clear hb3 HB1 HFV
  have H3 := Lib.hid (parsePath17 s W2 hs (HL.out.low (HB2.out.mono HL.out.gt)))
  have H4 := Lib.hid (fun X hX => refParsePath25 s X hs hX)
  generalize parseRes s.data.toList = res at HS H3 H4
  obtain ⟨q, code⟩ := res
  go_wp2_with fail
  refine H3.out.mono ?_
  clear H3
  rintro e W3 ⟨v3, rfl, hn3, hb4⟩
  have hp3 := hn3.now.at
  obtain ⟨oq, nq, of, nf, rfl, -, -⟩ := hn3.now
  have HB3 := Lib.hid (below_call HB2.out hb4)
  have HP3 := Lib.hid hp3
  clear hb4 HB2 hn3 hp3
  go_wp2_with fail
  have hb5 : Below W3.heap.size W3 (W3.alloc (.cells #[.slice oq q.pts.length nq, .slice of q.edges.length nf] 25)) := (Below.refl _ _).alloc (Nat.le_refl _) _
  have HX4 := Lib.hid (Bx.new W3 [.slice oq q.pts.length nq, .slice of q.edges.length nf] 25)
  have HB4 := Lib.hid (below_call HB3.out hb5)
  have HP4 := Lib.hid (HP3.out.keep hb5)
  clear hb5 HB3 HP3
  generalize W3.alloc (.cells #[.slice oq q.pts.length nq, .slice of q.edges.length nf] 25) = W4 at HX4 HB4 HP4 ⊢
  generalize W3.heap.size = n3 at HX4 ⊢
  refine (H4.out W4 (HL.out.low (HB4.out.mono HL.out.gt))).mono ?_
  clear H4
  rintro e W5 ⟨v5, rfl, hn5, hb6⟩
  have hp5 := hn5.now.at
  obtain ⟨or, nr, og, ng, rfl, -, -⟩ := hn5.now
  have HB5 := Lib.hid (below_call HB4.out hb6)
  have HP5 := Lib.hid hp5
  have HX5 := Lib.hid (HX4.out.keep hb6)
  have HP6 := Lib.hid (HP4.out.keep hb6)
  clear hb6 HB4 hn5 hp5 HX4 HP4
  have hb7 : Below W5.heap.size W5 (W5.alloc (.cells #[.slice or q.pts.length nr, .slice og q.edges.length ng] 25)) := (Below.refl _ _).alloc (Nat.le_refl _) _
  have HX7 := Lib.hid (Bx.new W5 [.slice or q.pts.length nr, .slice og q.edges.length ng] 25)
  have HB7 := Lib.hid (below_call HB5.out hb7)
  have H18 := Lib.hid (samePath18 _ _ _ q (HP6.out.keep hb7) (HP5.out.keep hb7) HS.out)
  have HX8 := Lib.hid (HX5.out.keep hb7)
  have x0 := HX8.out.c 0 _ rfl
  have x1 := HX8.out.c 1 _ rfl
  have xl := HX8.out.lt
  have y0 := HX7.out.c 0 _ rfl
  have y1 := HX7.out.c 1 _ rfl
  have yl := HX7.out.lt
  clear hb7 HB5 HX5 HX7 HX8 HP5 HP6
  go_upto_region 5 with fail
  generalize W5.alloc (.cells #[.slice or q.pts.length nr, .slice og q.edges.length ng] 25) = W6 at HB7 H18 x0 x1 xl y0 y1 yl ⊢
  generalize W5.heap.size = n5 at y0 y1 yl ⊢
  go_wp2_with fail
  refine H18.out.mono ?_
  clear H18 x0 x1 xl y0 y1 yl
  rintro e W7 ⟨rfl, hb8⟩
  go_wp2
  go_ret
  exact boolP_mk rfl (below_call HB7.out hb8)
end Go.Proofs.Ng
end

section
/-
  Plain law: documents of small paths are short.
-/
namespace Go.Proofs.Ng
open Go.RowKit

/-- All numbers of a path are int64. -/
structure In64 (p : Fm.PathD) : Prop where
  pt : ∀ q ∈ p.pts, ∀ n ∈ q, Fm.inR64 n
  ed : ∀ e ∈ p.edges, (∀ v ∈ e.table, ∀ n ∈ Fm.vecL v, Fm.inR64 n) ∧ ∀ u ∈ e.uses, ∀ n ∈ u.depth :: u.index :: u.nums, Fm.inR64 n
theorem flT_sum {A : Type} (f : A → List UInt8) : ∀ l : List A, (flT f l).length = sumW (fun x => (f x).length) l
  | [] => rfl
  | x :: l => by
    have := flT_sum f l
    simp only [flT, sumW, List.map_cons, List.flatten_cons, List.length_append, List.sum_cons] at *
    omega
theorem sumW_lin {A : Type} (f g : A → Nat) (a b : Nat) : ∀ {l : List A}, (∀ x ∈ l, f x ≤ a + b * g x) → sumW f l ≤ a * l.length + b * sumW g l
  | [], _ => by simp [sumW]
  | x :: l, h => by
    have h1 := sumW_lin f g a b (l := l) (fun y hy => h y (by simp [hy]))
    have h2 := h x (by simp)
    simp only [sumW, List.map_cons, List.sum_cons, List.length_cons] at *
    rw [Nat.mul_add, Nat.mul_add]; omega
theorem sumW_mem {A : Type} (f : A → Nat) {x : A} : ∀ {l : List A}, x ∈ l → f x ≤ sumW f l
  | y :: l, h => by
    rcases List.mem_cons.1 h with rfl | h
    · simp only [sumW, List.map_cons, List.sum_cons]; omega
    · have := sumW_mem f h
      simp only [sumW, List.map_cons, List.sum_cons] at *; omega
theorem lineT_le (kw : List UInt8) {ns : List Int} (h : ∀ n ∈ ns, Fm.inR64 n) : (Fm.lineT kw ns).length ≤ kw.length + 21 * ns.length + 1 := by
  have e : numsT ns = flT Fm.numT ns := rfl
  have h1 : (numsT ns).length ≤ ns.length * 21 := by
    rw [e, flT_sum]
    refine sumW_le _ (fun n hn => ?_)
    have := itoa_le (h n hn)
    simp only [Fm.numT, List.length_cons]
    omega
  rw [lineT_eq, List.length_append, List.length_append, List.length_cons, List.length_nil]
  omega
theorem useT_le {u : Fm.UseD} (h : ∀ n ∈ u.depth :: u.index :: u.nums, Fm.inR64 n) : (Fm.useT u).length ≤ 46 + 21 * u.nums.length := by
  have := lineT_le Fm.kwUse h
  have e : Fm.useT u = Fm.lineT Fm.kwUse (u.depth :: u.index :: u.nums) := rfl
  rw [e]
  simp only [List.length_cons, show Fm.kwUse.length = 3 from rfl] at this
  omega
theorem edgeT_le {e : Fm.EdgeD} (hw : edgeW e < 400) (h1 : ∀ v ∈ e.table, ∀ n ∈ Fm.vecL v, Fm.inR64 n) (h2 : ∀ u ∈ e.uses, ∀ n ∈ u.depth :: u.index :: u.nums, Fm.inR64 n) : (Fm.edgeT e).length ≤ 47 + 70 * edgeW e := by
  have hW : edgeW e = e.table.length + e.uses.length + sumW (fun u : Fm.UseD => u.nums.length) e.uses := rfl
  have a1 := lineT_le Fm.kwEdge (ns := [((e.table.length : Nat) : Int), ((e.uses.length : Nat) : Int)]) (by
    intro n hn
    simp only [List.mem_cons, List.not_mem_nil, or_false] at hn
    rcases hn with rfl | rfl <;> (unfold Fm.inR64; omega))
  have a2 : (flT normT e.table).length ≤ 70 * e.table.length + 0 * sumW (fun _ => 0) e.table := by
    rw [flT_sum]
    refine sumW_lin _ _ 70 0 (fun v hv => ?_)
    have := lineT_le Fm.kwNormal (h1 v hv)
    have e2 : normT v = Fm.lineT Fm.kwNormal (Fm.vecL v) := rfl
    rw [e2]
    simp only [show Fm.kwNormal.length = 6 from rfl, show (Fm.vecL v).length = 3 from rfl] at this
    omega
  have a3 : (flT Fm.useT e.uses).length ≤ 46 * e.uses.length + 21 * sumW (fun u : Fm.UseD => u.nums.length) e.uses := by
    rw [flT_sum]
    exact sumW_lin _ _ 46 21 (fun u hu => useT_le (h2 u hu))
  rw [edgeT_eq, List.length_append, List.length_append]
  simp only [show Fm.kwEdge.length = 4 from rfl, List.length_cons, List.length_nil] at a1
  omega
theorem docT_le {p : Fm.PathD} (hs : SmP p) (h : In64 p) : (Fm.docT p).length ≤ 1000000 := by
  have h1 := hs.np
  have h2 := hs.ne
  have h3 := hs.cnt
  have a1 := lineT_le Fm.kwPath (ns := [((p.pts.length : Nat) : Int)]) (by
    intro n hn
    rw [List.mem_singleton] at hn
    subst hn
    unfold Fm.inR64; omega)
  have a2 : (flT (Fm.lineT Fm.kwPoint) p.pts).length ≤ 6 * p.pts.length + 21 * sumW List.length p.pts := by
    rw [flT_sum]
    refine sumW_lin _ _ 6 21 (fun q hq => ?_)
    have := lineT_le Fm.kwPoint (h.pt q hq)
    simp only [show Fm.kwPoint.length = 5 from rfl] at this
    omega
  have a3 : (flT Fm.edgeT p.edges).length ≤ 47 * p.edges.length + 70 * sumW edgeW p.edges := by
    rw [flT_sum]
    refine sumW_lin _ _ 47 70 (fun e he => ?_)
    have hw := sumW_mem edgeW he
    exact edgeT_le (by omega) (h.ed e he).1 (h.ed e he).2
  unfold Fm.docT
  rw [List.length_append, pathT_eq, List.length_append, List.length_append]
  simp only [show Fm.kwPath.length = 4 from rfl, List.length_cons, List.length_nil] at a1
  have a4 : (Fm.lineT Fm.kwEnd []).length = 4 := rfl
  omega
theorem pathOk_of {p : Fm.PathD} (hs : SmP p) (h : In64 p) : Fm.PathOk p := by
  have h1 := hs.np
  have h3 := hs.cnt
  refine ⟨h.pt, by omega, fun e he => ⟨?_, ?_, (h.ed e he).1, (h.ed e he).2⟩⟩
  · have := sumW_mem edgeW he
    have e2 : edgeW e = e.table.length + e.uses.length + sumW (fun u : Fm.UseD => u.nums.length) e.uses := rfl
    omega
  · have := sumW_mem edgeW he
    have e2 : edgeW e = e.table.length + e.uses.length + sumW (fun u : Fm.UseD => u.nums.length) e.uses := rfl
    omega
theorem mk_small {p : Fm.PathD} (h : MkPath p) : SmP p := by
  refine ⟨by have := h.np; omega, by have := h.ne; omega, ?_⟩
  have a1 := sumW_le List.length (l := p.pts) (B := 3) (fun q hq => (h.pt q hq).1)
  have a2 := sumW_le edgeW (l := p.edges) (B := 8) (fun e he => by
    obtain ⟨b1, -, b3, b4⟩ := h.ed e he
    have b5 := sumW_le (fun u : Fm.UseD => u.nums.length) (l := e.uses) (B := 2) (fun u hu => (b4 u hu).1)
    have e2 : edgeW e = e.table.length + e.uses.length + sumW (fun u : Fm.UseD => u.nums.length) e.uses := rfl
    omega)
  have := h.np
  have := h.ne
  omega
theorem mk_in {p : Fm.PathD} (h : MkPath p) : In64 p := ⟨fun q hq => (h.pt q hq).2, fun e he => ⟨(h.ed e he).2.1, fun u hu => ((h.ed e he).2.2.2 u hu).2⟩⟩
end Go.Proofs.Ng
end

section
/-
  Walks: the law's awake.
-/
namespace Go.Proofs.Ng
open Go.RowKit

theorem sl_of_bx {W : World} {b n : Nat} {rows : List (List Value)} {ty : TypeId} (h : Bx W b rows.flatten ty) (hn : ∀ r ∈ rows, r.length = n) : Sl W (some ⟨b, 0, none⟩) n rows :=
  fun _ => ⟨b, 0, rfl, ⟨h.lt, fun i r hi k v hv => by rw [Nat.zero_add]; exact h.c _ _ (flat_get rows n hn i r hi k v hv)⟩⟩
/-- The path of the example. -/
def p0 : Fm.PathD := ⟨[[0], [5]], [⟨[], [⟨0, 0, []⟩]⟩]⟩
def s0 : List UInt8 := [112, 97, 116, 104, 32, 50, 10, 112, 111, 105, 110, 116, 32, 48, 10, 112, 111, 105, 110, 116, 32, 53, 10, 101, 100, 103, 101, 32, 48, 32, 49, 10, 117, 115, 101, 32, 48, 32, 48, 10, 101, 110, 100, 10]
theorem itoa_0 : Lib.itoa 0 = [48] := by kernel_rfl
theorem doc0 : Fm.docT p0 = s0 := by kernel_rfl
theorem right0 : Fm.rightP p0 = true := by kernel_rfl
theorem mk0 : MkPath p0 := by
  refine ⟨by decide, ?_, by decide, ?_⟩
  · intro q hq
    simp [p0] at hq
    rcases hq with rfl | rfl <;> exact ⟨by decide, by intro n hn; simp at hn; subst hn; unfold Fm.inR64; omega⟩
  · intro e he
    simp [p0] at he
    subst he
    refine ⟨by decide, (fun v hv => by cases hv), by decide, ?_⟩
    intro u hu
    simp at hu
    subst hu
    exact ⟨by decide, by intro n hn; simp at hn; subst hn; unfold Fm.inR64; omega⟩
theorem fmt0 : Fm.formatP p0 = some s0 := by
  rw [formatP_yes right0 (by rw [doc0]; decide), doc0]
theorem kind0 : kindN s0 = 1 := by kernel_rfl
theorem parse0 : parseRes s0 = (p0, 0) := by
  unfold parseRes
  rw [if_neg (by decide), if_pos kind0]
  have h : Fm.parseP s0 = some p0 := by
    rw [← doc0]
    exact Fm.doc_parse (pathOk_of (mk_small mk0) (mk_in mk0)) right0
  rw [h]
/-- The blocks of the example. -/
theorem made0 (w : World) (W : World) (h0 : W = (((((w.alloc (.cells #[.int .i64 0] 2)).alloc (.cells #[.int .i64 5] 2)).alloc (.cells #[.slice (some ⟨w.heap.size, 0, none⟩) 1 1, .slice (some ⟨w.heap.size + 1, 0, none⟩) 1 1] 42)).alloc (.cells #[.int .i64 0, .int .i64 0, .slice none 0 0] 54)).alloc (.cells #[.slice none 0 0, .slice (some ⟨w.heap.size + 1 + 1 + 1, 0, none⟩) 1 1] 52))) :
    PathAt W (.agg #[.slice (some ⟨w.heap.size + 1 + 1, 0, none⟩) 2 2, .slice (some ⟨w.heap.size + 1 + 1 + 1 + 1, 0, none⟩) 1 1]) p0 ∧ Below w.heap.size w W ∧ W.heap.size = w.heap.size + 1 + 1 + 1 + 1 + 1 := by
  have b1 : Below w.heap.size w (w.alloc (.cells #[.int .i64 0] 2)) := (Below.refl _ _).alloc (Nat.le_refl _) _
  have x1 := Bx.new w [.int .i64 0] 2
  have z1 : (w.alloc (.cells #[.int .i64 0] 2)).heap.size = w.heap.size + 1 := by simp
  simp only [List.toArray] at x1
  generalize w.alloc (.cells #[.int .i64 0] 2) = w1 at *
  have b2 : Below w1.heap.size w1 (w1.alloc (.cells #[.int .i64 5] 2)) := (Below.refl _ _).alloc (Nat.le_refl _) _
  have x2 := Bx.new w1 [.int .i64 5] 2
  have z2 : (w1.alloc (.cells #[.int .i64 5] 2)).heap.size = w1.heap.size + 1 := by simp
  simp only [List.toArray] at x2
  generalize w1.alloc (.cells #[.int .i64 5] 2) = w2 at *
  have b3 : Below w2.heap.size w2 (w2.alloc (.cells #[.slice (some ⟨w.heap.size, 0, none⟩) 1 1, .slice (some ⟨w.heap.size + 1, 0, none⟩) 1 1] 42)) := (Below.refl _ _).alloc (Nat.le_refl _) _
  have x3 := Bx.new w2 [.slice (some ⟨w.heap.size, 0, none⟩) 1 1, .slice (some ⟨w.heap.size + 1, 0, none⟩) 1 1] 42
  have z3 : (w2.alloc (.cells #[.slice (some ⟨w.heap.size, 0, none⟩) 1 1, .slice (some ⟨w.heap.size + 1, 0, none⟩) 1 1] 42)).heap.size = w2.heap.size + 1 := by simp
  simp only [List.toArray] at x3
  generalize w2.alloc (.cells #[.slice (some ⟨w.heap.size, 0, none⟩) 1 1, .slice (some ⟨w.heap.size + 1, 0, none⟩) 1 1] 42) = w3 at *
  have b4 : Below w3.heap.size w3 (w3.alloc (.cells #[.int .i64 0, .int .i64 0, .slice none 0 0] 54)) := (Below.refl _ _).alloc (Nat.le_refl _) _
  have x4 := Bx.new w3 [.int .i64 0, .int .i64 0, .slice none 0 0] 54
  have z4 : (w3.alloc (.cells #[.int .i64 0, .int .i64 0, .slice none 0 0] 54)).heap.size = w3.heap.size + 1 := by simp
  simp only [List.toArray] at x4
  generalize w3.alloc (.cells #[.int .i64 0, .int .i64 0, .slice none 0 0] 54) = w4 at *
  have b5 : Below w4.heap.size w4 (w4.alloc (.cells #[.slice none 0 0, .slice (some ⟨w.heap.size + 1 + 1 + 1, 0, none⟩) 1 1] 52)) := (Below.refl _ _).alloc (Nat.le_refl _) _
  have z5 : (w4.alloc (.cells #[.slice none 0 0, .slice (some ⟨w.heap.size + 1 + 1 + 1, 0, none⟩) 1 1] 52)).heap.size = w4.heap.size + 1 := by simp
  have x5 := Bx.new w4 [.slice none 0 0, .slice (some ⟨w.heap.size + 1 + 1 + 1, 0, none⟩) 1 1] 52
  simp only [List.toArray] at x5
  generalize w4.alloc (.cells #[.slice none 0 0, .slice (some ⟨w.heap.size + 1 + 1 + 1, 0, none⟩) 1 1] 52) = w5 at *
  subst h0
  have e2 : w1.heap.size = w.heap.size + 1 := z1
  have e3 : w2.heap.size = w.heap.size + 1 + 1 := by omega
  have e4 : w3.heap.size = w.heap.size + 1 + 1 + 1 := by omega
  have e5 : w4.heap.size = w.heap.size + 1 + 1 + 1 + 1 := by omega
  rw [e2] at x2
  rw [e3] at x3
  rw [e4] at x4
  rw [e5] at x5
  have y1 := (((x1.keep b2).keep b3).keep b4).keep b5
  have y2 := ((x2.keep b3).keep b4).keep b5
  have y3 := (x3.keep b4).keep b5
  have y4 := x4.keep b5
  refine ⟨⟨_, _, _, _, rfl, ⟨[.slice (some ⟨w.heap.size, 0, none⟩) 1 1, .slice (some ⟨w.heap.size + 1, 0, none⟩) 1 1], rfl, sl_of_bx (ty := 42) y3 (by simp), fun k v xs hv hx => ?_⟩,
    ⟨[[.slice none 0 0, .slice (some ⟨w.heap.size + 1 + 1 + 1, 0, none⟩) 1 1]], rfl, sl_of_bx (ty := 52) x5 (by simp), fun k r e hr he => ?_⟩⟩, below_call (below_call (below_call (below_call b1 b2) b3) b4) b5, by omega⟩
  · match k, hv, hx with
    | 0, hv, hx =>
      simp [p0] at hv hx
      subst hv hx
      exact ⟨_, _, rfl, sl_of_bx (rows := pvals [0]) (ty := 2) y1 (pvals_one _)⟩
    | 1, hv, hx =>
      simp [p0] at hv hx
      subst hv hx
      exact ⟨_, _, rfl, sl_of_bx (rows := pvals [5]) (ty := 2) y2 (pvals_one _)⟩
    | k + 2, hv, hx => simp at hv
  · match k, hr, he with
    | 0, hr, he =>
      simp [p0] at hr he
      subst hr he
      refine ⟨none, 0, some ⟨w.heap.size + 1 + 1 + 1, 0, none⟩, 1, rfl, fun h => absurd rfl h, ⟨[[.int .i64 0, .int .i64 0, .slice none 0 0]], rfl, sl_of_bx (ty := 54) y4 (by simp), fun k r u hr hu => ?_⟩⟩
      match k, hr, hu with
      | 0, hr, hu =>
        simp at hr hu
        subst hr hu
        exact ⟨none, 0, rfl, fun h => absurd rfl h⟩
      | k + 1, hr, hu => simp at hr
    | k + 1, hr, he => simp at hr
set_option maxRecDepth 100000 in
set_option maxHeartbeats 8000000 in
theorem awake6 (w : World) (hL : LibW w) : Calls Tryz.prog 6 #[] w (BoolP true w) := by
  obtain ⟨hp, hb, hz⟩ := made0 w _ rfl
  have HP := Lib.hid hp
  have HB := Lib.hid hb
  have HL := Lib.hid hL
  have HZ := Lib.hid hz
  clear hp hb hL hz
  go_enter Tryz.func6, Tryz.ntmps6
  go_upto_region 2 with fail
  generalize (((((w.alloc (.cells #[.int .i64 0] 2)).alloc (.cells #[.int .i64 5] 2)).alloc (.cells #[.slice (some ⟨w.heap.size, 0, none⟩) 1 1, .slice (some ⟨w.heap.size + 1, 0, none⟩) 1 1] 42)).alloc (.cells #[.int .i64 0, .int .i64 0, .slice none 0 0] 54)).alloc (.cells #[.slice none 0 0, .slice (some ⟨w.heap.size + 1 + 1 + 1, 0, none⟩) 1 1] 52)) = W5 at HP HB HZ ⊢
  generalize (some (⟨w.heap.size + 1 + 1, 0, none⟩ : Addr)) = oa at HP ⊢
  generalize (some (⟨w.heap.size + 1 + 1 + 1 + 1, 0, none⟩ : Addr)) = ob at HP ⊢
  have hb1 : Below W5.heap.size W5 (W5.alloc (.cells #[.slice oa 2 2, .slice ob 1 1] 25)) := (Below.refl _ _).alloc (Nat.le_refl _) _
  have hx := Bx.new W5 [.slice oa 2 2, .slice ob 1 1] 25
  rw [HZ.out] at hx
  have HX := Lib.hid hx
  have HB1 := Lib.hid (below_call HB.out hb1)
  have HP1 := Lib.hid (HP.out.keep hb1)
  clear hx hb1 HP HB HZ
  generalize W5.alloc (.cells #[.slice oa 2 2, .slice ob 1 1] 25) = W1 at HX HB1 HP1 ⊢
  generalize w.heap.size + 1 + 1 + 1 + 1 + 1 = n5 at HX ⊢
  have c0 := HX.out.c 0 _ rfl
  have c1 := HX.out.c 1 _ rfl
  have cl := HX.out.lt
  have HC := Lib.hid (formatPath16 W1 _ p0 HP1.out (pathOk_of (mk_small mk0) (mk_in mk0)) (by rw [doc0]; decide) (tab_size HL.out.tabs HB1.out))
  rw [fmt0, show fmtV (some s0) = .tuple #[.string ⟨s0.toArray⟩, .int .i64 0] from rfl] at HC
  have HS : Hid (parseRes (⟨s0.toArray⟩ : ByteArray).data.toList = (p0, 0)) := Lib.hid parse0
  have HK : Hid (kindN (⟨s0.toArray⟩ : ByteArray).data.toList = 1) := Lib.hid kind0
  have hsz : (⟨s0.toArray⟩ : ByteArray).size ≤ 9223372036854775807 := by decide
  have hq1 : ((⟨s0.toArray⟩ : ByteArray).toList == [112, 97, 116, 104, 32, 50, 10, 112, 111, 105, 110, 116, 32, 48, 10, 112, 111, 105, 110, 116, 32, 53, 10, 101, 100, 103, 101, 32, 48, 32, 49, 10, 117, 115, 101, 32, 48, 32, 48, 10, 101, 110, 100, 10]) = true := by rw [ByteArray.toList_eq]; decide
  generalize (⟨s0.toArray⟩ : ByteArray) = bs at HC HS HK hsz hq1
  go_wp2_with fail
  refine HC.out.mono ?_
  clear HC
  rintro e W2 ⟨rfl, hb⟩
  have HX2 := Lib.hid (HX.out.keep hb)
  have HB2 := Lib.hid (below_call HB1.out hb)
  have HP2 := Lib.hid (HP1.out.keep hb)
  clear hb HX HB1 HP1 c0 c1 cl
  have HC := Lib.hid (parsePath17 bs W2 hsz (HL.out.low (HB2.out.mono HL.out.gt)))
  rw [HS.out] at HC
  go_wp2_with fail
  refine HC.out.mono ?_
  clear HC
  rintro e W3 ⟨v3, rfl, hn3, hb4⟩
  have hp3 := hn3.now.at
  obtain ⟨oq, nq, of, nf, rfl, -, -⟩ := hn3.now
  have hX3 := HX2.out.keep hb4
  have hB3 := below_call HB2.out hb4
  have hP3 := HP2.out.keep hb4
  have hb5 : Below W3.heap.size W3 (W3.alloc (.cells #[.slice oq p0.pts.length nq, .slice of p0.edges.length nf] 25)) := (Below.refl _ _).alloc (Nat.le_refl _) _
  have HX4 := Lib.hid (hX3.keep hb5)
  have HY4 := Lib.hid (Bx.new W3 [.slice oq p0.pts.length nq, .slice of p0.edges.length nf] 25)
  have HB4 := Lib.hid (below_call hB3 hb5)
  have H18 := Lib.hid (samePath18 _ _ _ p0 (hP3.keep hb5) (hp3.keep hb5) (small_of_doc (by rw [doc0]; decide)))
  clear hb5 hX3 hB3 hP3 hp3 hn3 hb4 HX2 HB2 HP2
  go_upto_region 4 with fail
  generalize W3.alloc (.cells #[.slice oq p0.pts.length nq, .slice of p0.edges.length nf] 25) = W4 at HX4 HY4 HB4 H18 ⊢
  generalize W3.heap.size = n4 at HY4 ⊢
  have c0 := HX4.out.c 0 _ rfl
  have c1 := HX4.out.c 1 _ rfl
  have cl := HX4.out.lt
  have d0 := HY4.out.c 0 _ rfl
  have d1 := HY4.out.c 1 _ rfl
  have dl := HY4.out.lt
  go_wp2_with fail
  refine H18.out.mono ?_
  clear H18 c0 c1 cl d0 d1 dl HX4 HY4
  rintro e W6 ⟨rfl, hb⟩
  have HB6 := Lib.hid (below_call HB4.out hb)
  have HC := Lib.hid (kind11 bs W6)
  rw [HK.out] at HC
  clear hb HB4
  go_wp2_with fail
  refine HC.out.mono ?_
  clear HC
  rintro e W7 ⟨rfl, hw⟩
  subst hw
  go_wp2
  go_ret
  exact boolP_mk rfl HB6.out
end Go.Proofs.Ng
end

section
/-
  Walks: the law FormatPaths.
-/
namespace Go.Proofs.Ng
open Go.RowKit

def SFp (n6 n13 : Nat) (a b c d : Value) (W X : World) : Prop := X.cell? ⟨n6, 0, none⟩ = some a ∧ X.cell? ⟨n6, 1, none⟩ = some b ∧ X.cell? ⟨n13, 0, none⟩ = some c ∧ X.cell? ⟨n13, 1, none⟩ = some d ∧ Below W.heap.size W X
theorem keepF {n6 n13 : Nat} {a b c d : Value} {W X Y : World} (h6 : n6 < W.heap.size) (h13 : n13 < W.heap.size) (h : X.cell? ⟨n6, 0, none⟩ = some a ∧ X.cell? ⟨n6, 1, none⟩ = some b ∧ X.cell? ⟨n13, 0, none⟩ = some c ∧ X.cell? ⟨n13, 1, none⟩ = some d ∧ Below W.heap.size W X) (hb : Below X.heap.size X Y) :
    Y.cell? ⟨n6, 0, none⟩ = some a ∧ Y.cell? ⟨n6, 1, none⟩ = some b ∧ Y.cell? ⟨n13, 0, none⟩ = some c ∧ Y.cell? ⟨n13, 1, none⟩ = some d ∧ Below W.heap.size W Y := by
  obtain ⟨h1, h2, h3, h4, h5⟩ := h
  have hz := h5.size
  have l6 : n6 < X.heap.size := by omega
  have l13 : n13 < X.heap.size := by omega
  exact ⟨(hb.cell (p := ⟨n6, 0, none⟩) l6).trans h1, (hb.cell (p := ⟨n6, 1, none⟩) l6).trans h2, (hb.cell (p := ⟨n13, 0, none⟩) l13).trans h3, (hb.cell (p := ⟨n13, 1, none⟩) l13).trans h4, below_call h5 hb⟩
theorem fmtV_size {p : Fm.PathD} (hl : (Fm.docT p).length ≤ 1000000) : ∃ s c, fmtV (Fm.formatP p) = .tuple #[.string s, .int .i64 c] ∧ s.size ≤ 1000000 := by
  unfold Fm.formatP
  split
  · exact ⟨_, _, rfl, by show (Fm.docT p).toArray.size ≤ _; rw [List.size_toArray]; exact hl⟩
  · exact ⟨_, _, rfl, by decide⟩
set_option maxRecDepth 100000 in
set_option maxHeartbeats 16000000 in
theorem formatPaths3 (w : World) (pv : Value) (p : Fm.PathD) (text : ByteArray) (os : Option Addr) (cap : Nat) (xs : List Int) (how at' x : Int) (hP : PathAt w pv p) (hbk : BulkP p) (hin : In64 p) (ht : text.size ≤ 1048576) (hI : Sl w os 1 (pvals xs)) (hl : xs.length ≤ 9223372036854775807) (hL : LibW w) :
    Calls Tryz.prog 3 #[pv, .string text, .slice os xs.length cap, .int .i64 how, .int .i64 at', .int .i64 x] w (BoolP true w) := by
  have hP0 := hP
  obtain ⟨op, np, oe, ne, rfl, -, -⟩ := hP
  have hb1 : Below w.heap.size w (w.alloc (.cells #[.slice op p.pts.length np, .slice oe p.edges.length ne] 25)) := (Below.refl _ _).alloc (Nat.le_refl _) _
  have hbx := Bx.new w [.slice op p.pts.length np, .slice oe p.edges.length ne] 25
  have HC := Lib.hid (smallPath5 _ _ p (hP0.keep hb1) hbk)
  have HP := Lib.hid hP0
  have HX := Lib.hid hbx
  have HB := Lib.hid hb1
  have HL := Lib.hid hL
  have HI := Lib.hid hI
  have HIN := Lib.hid hin
  clear hP0 hb1 hbx hL hI hin hbk
  go_enter Tryz.func3, Tryz.ntmps3
  go_upto_region 1 with fail
  generalize w.alloc (.cells #[.slice op p.pts.length np, .slice oe p.edges.length ne] 25) = w1 at HX HB HC ⊢
  obtain ⟨n6, hn6⟩ : ∃ n, n = w.heap.size := ⟨_, rfl⟩
  have HN6 := Lib.hid hn6
  rw [← hn6] at HX ⊢
  clear hn6
  have c0 := HX.out.c 0 _ rfl
  have c1 := HX.out.c 1 _ rfl
  have cl := HX.out.lt
  go_wp2_with fail
  refine HC.out.mono ?_
  clear HC
  rintro e W2 ⟨b, rfl, hb, hb2⟩
  have HX2 := Lib.hid (HX.out.keep hb2)
  have HB2 := Lib.hid (below_call HB.out hb2)
  have HSM := Lib.hid hb
  clear hb hb2 HX HB c0 c1 cl
  have HAW := Lib.hid (fun X (hX : Below w.heap.size w X) => awake6 X (HL.out.low (hX.mono HL.out.gt)))
  cases b with
  | false =>
    go_wp2_with fail
    refine (HAW.out W2 HB2.out).mono ?_
    rintro e W3 ⟨rfl, hb3⟩
    go_wp2
    go_ret
    exact boolP_mk rfl (below_call HB2.out hb3)
  | true =>
    have hsm := HSM.out rfl
    by_cases htx : 2000 < text.size
    · have hd : decide ((2000 : Int) < (text.size : Int)) = true := decide_eq_true (by omega)
      go_wp2_with fail
      refine (HAW.out W2 HB2.out).mono ?_
      rintro e W3 ⟨rfl, hb3⟩
      go_wp2
      go_ret
      exact boolP_mk rfl (below_call HB2.out hb3)
    · have hd : decide ((2000 : Int) < (text.size : Int)) = false := decide_eq_false (by omega)
      have HC := Lib.hid (Path7 W2 os cap xs (HI.out.keep HB2.out) hl)
      have HSP := Lib.hid hsm
      clear hsm HSM
      go_wp2_with fail
      refine HC.out.mono ?_
      clear HC hd
      rintro e W3 ⟨v, q, rfl, hq, hmk, hb3⟩
      have hq0 := hq
      obtain ⟨oq, nq, of, nf, rfl, -, -⟩ := hq
      have hb4 : Below W3.heap.size W3 (W3.alloc (.cells #[.slice oq q.pts.length nq, .slice of q.edges.length nf] 25)) := (Below.refl _ _).alloc (Nat.le_refl _) _
      have HY4 := Lib.hid (Bx.new W3 [.slice oq q.pts.length nq, .slice of q.edges.length nf] 25)
      have HX4 := Lib.hid ((HX2.out.keep hb3).keep hb4)
      have HB4 := Lib.hid (below_call (below_call HB2.out hb3) hb4)
      have HQ4 := Lib.hid (hq0.keep hb4)
      have HMK := Lib.hid hmk
      clear hq0 hb4 hb3 hmk HX2 HB2
      go_upto_region 4 with fail
      generalize W3.alloc (.cells #[.slice oq q.pts.length nq, .slice of q.edges.length nf] 25) = W4 at HY4 HX4 HB4 HQ4 ⊢
      generalize W3.heap.size = n13 at HY4 ⊢
      have hok := pathOk_of (mk_small HMK.out) (mk_in HMK.out)
      have hdl := docT_le (mk_small HMK.out) (mk_in HMK.out)
      obtain ⟨fs, fc, hfv, hfz⟩ := fmtV_size hdl
      have HC := Lib.hid (refFormatPath8 W4 _ q HQ4.out hok (by omega) (tab_size HL.out.tabs HB4.out))
      rw [hfv] at HC
      have c0 := HY4.out.c 0 _ rfl
      have c1 := HY4.out.c 1 _ rfl
      have cl := HY4.out.lt
      have HOK := Lib.hid hok
      clear hfv hok
      go_wp2_with fail
      refine HC.out.mono ?_
      clear HC c0 c1 cl
      rintro e W5 ⟨rfl, hb5⟩
      have HX5 := Lib.hid (HX4.out.keep hb5)
      have HY5 := Lib.hid (HY4.out.keep hb5)
      have HB5 := Lib.hid (below_call HB4.out hb5)
      have HQ5 := Lib.hid (HQ4.out.keep hb5)
      clear hb5 HX4 HY4 HB4 HQ4
      obtain ⟨dm, hdz, hdc⟩ := damaged10 fs how at' x (by omega)
      obtain ⟨u, huz, huc⟩ := cat_any ⟨#[112, 97, 116, 104, 32]⟩ text (show 5 + text.size ≤ _ by omega)
      have huz : u.size ≤ 2005 := by have : (⟨#[112, 97, 116, 104, 32]⟩ : ByteArray).size = 5 := rfl; omega
      have HDM := Lib.hid hdc
      have HA := Lib.hid (fun X (hX : Below W5.heap.size W5 X) => HAW.out X (below_call HB5.out hX))
      have hPok := pathOk_of HSP.out HIN.out
      have hPdl := docT_le HSP.out HIN.out
      have H9a := Lib.hid (fun X (hX : Below W5.heap.size W5 X) => paths9 X _ p text (HP.out.keep (below_call HB5.out hX)) hPok (by omega) (by omega) (HL.out.low ((below_call HB5.out hX).mono HL.out.gt)))
      have H9b := Lib.hid (fun X (hX : Below W5.heap.size W5 X) => paths9 X _ q fs (HQ5.out.keep hX) HOK.out (by omega) (by omega) (HL.out.low ((below_call HB5.out hX).mono HL.out.gt)))
      have H9c := Lib.hid (fun X (hX : Below W5.heap.size W5 X) => paths9 X _ q dm (HQ5.out.keep hX) HOK.out (by omega) (by omega) (HL.out.low ((below_call HB5.out hX).mono HL.out.gt)))
      have H9d := Lib.hid (fun X (hX : Below W5.heap.size W5 X) => paths9 X _ q u (HQ5.out.keep hX) HOK.out (by omega) (by omega) (HL.out.low ((below_call HB5.out hX).mono HL.out.gt)))
      have H11a := Lib.hid (fun X => kind11 text X)
      have H12a := Lib.hid (fun X => kindOf12 text X)
      have H11b := Lib.hid (fun X => kind11 dm X)
      have H12b := Lib.hid (fun X => kindOf12 dm X)
      generalize kindN text.data.toList = kt at H11a H12a
      generalize kindN dm.data.toList = kd at H11b H12b
      have hkt : ((kt : Int) == (kt : Int)) = true := beq_self_eq_true _
      have hkd : ((kd : Int) == (kd : Int)) = true := beq_self_eq_true _
      have hS0 : W5.cell? ⟨n6, 0, none⟩ = some (.slice op p.pts.length np) ∧ W5.cell? ⟨n6, 1, none⟩ = some (.slice oe p.edges.length ne) ∧ W5.cell? ⟨n13, 0, none⟩ = some (.slice oq q.pts.length nq) ∧ W5.cell? ⟨n13, 1, none⟩ = some (.slice of q.edges.length nf) ∧ Below W5.heap.size W5 W5 := ⟨HX5.out.c 0 _ rfl, HX5.out.c 1 _ rfl, HY5.out.c 0 _ rfl, HY5.out.c 1 _ rfl, Below.refl _ _⟩
      have l6 := HX5.out.lt
      have l13 := HY5.out.lt
      clear hdc hdz huz hPok hPdl hfz hdl
      go_upto_region 5 with fail
      go_region_held3 (fun X => X.cell? ⟨n6, 0, none⟩ = some (.slice op p.pts.length np) ∧ X.cell? ⟨n6, 1, none⟩ = some (.slice oe p.edges.length ne) ∧ X.cell? ⟨n13, 0, none⟩ = some (.slice oq q.pts.length nq) ∧ X.cell? ⟨n13, 1, none⟩ = some (.slice of q.edges.length nf) ∧ Below W5.heap.size W5 X)
        (first
          | assumption
          | exact hS0
          | exact keepF l6 l13 (by assumption) (by assumption)
          | exact keepF l6 l13 (by assumption) (Below.refl _ _).drew)
        (first
          | (go_at_call 6
             with_reducible refine (HA.out _ (by assumption : _ ∧ _ ∧ _ ∧ _ ∧ Below W5.heap.size W5 _).2.2.2.2).mono ?_
             rintro e Xa ⟨rfl, hba⟩)
          | (go_at_call 9
             with_reducible refine (H9a.out _ (by assumption : _ ∧ _ ∧ _ ∧ _ ∧ Below W5.heap.size W5 _).2.2.2.2).mono ?_
             rintro e Xa ⟨rfl, hba⟩)
          | (go_at_call 9
             with_reducible refine (H9b.out _ (by assumption : _ ∧ _ ∧ _ ∧ _ ∧ Below W5.heap.size W5 _).2.2.2.2).mono ?_
             rintro e Xa ⟨rfl, hba⟩)
          | (go_at_call 9
             with_reducible refine (H9c.out _ (by assumption : _ ∧ _ ∧ _ ∧ _ ∧ Below W5.heap.size W5 _).2.2.2.2).mono ?_
             rintro e Xa ⟨rfl, hba⟩)
          | (go_at_call 9
             with_reducible refine (H9d.out _ (by assumption : _ ∧ _ ∧ _ ∧ _ ∧ Below W5.heap.size W5 _).2.2.2.2).mono ?_
             rintro e Xa ⟨rfl, hba⟩)
          | (go_at_call 10
             with_reducible refine (HDM.out _).mono ?_
             rintro e Xa ⟨rfl, hba⟩)
          | (go_at_call 11
             with_reducible refine (H11a.out _).mono ?_
             rintro e Xa ⟨rfl, rfl⟩)
          | (go_at_call 11
             with_reducible refine (H11b.out _).mono ?_
             rintro e Xa ⟨rfl, rfl⟩)
          | (go_at_call 12
             with_reducible refine (H12a.out _).mono ?_
             rintro e Xa ⟨rfl, hba⟩)
          | (go_at_call 12
             with_reducible refine (H12b.out _).mono ?_
             rintro e Xa ⟨rfl, hba⟩))
      have hfin := below_call HB5.out (by assumption : _ ∧ _ ∧ _ ∧ _ ∧ Below W5.heap.size W5 _).2.2.2.2
      have HFIN := Lib.hid hfin
      clear hfin
      go_wp2
      go_ret
      exact boolP_mk rfl HFIN.out
end Go.Proofs.Ng
end

