/-
  Walks: the maker's robot.
-/
import Derived.Test.YthbfmjlcnfgnbaaGreatKb
import Derived.Deep.DeepCutAuto
import Derived.Deep.CutBlock
namespace Go.Proofs.En
open Go.RowKit

theorem info80 : (Tryz.prog.info? 80).map (fun i => (i.zero, i.size, i.bytes)) = some (some (.agg #[.string ⟨#[]⟩, .int .i64 0, .int .i64 0, .int .i64 0, .int .i64 0, .int .i64 0, .int .i64 0, .int .i64 0, .int .i64 0, .int .i64 0, .int .i64 0, .int .i64 0]), 12, 104) := by kernel_rfl
theorem info54 : (Tryz.prog.info? 54).map (fun i => (i.zero, i.size, i.bytes)) = some (some (.agg #[.int .i64 0, .int .i64 0, .int .i64 0, .int .i64 0, .int .i64 0]), 5, 40) := by kernel_rfl
theorem info2 : (Tryz.prog.info? 2).map (fun i => (i.zero, i.size, i.bytes)) = some (some (.int .i64 0), 1, 8) := by kernel_rfl
theorem under32 : Tryz.prog.underlying 32 = some (.slice 80) := by kernel_rfl
theorem under33 : Tryz.prog.underlying 33 = some (.slice 54) := by kernel_rfl
theorem under37 : Tryz.prog.underlying 37 = some (.slice 2) := by kernel_rfl

/-- The cells of a block that was just made. -/
theorem new_cells (W : World) (l : List Value) (t : TypeId) : ∀ (j : Nat) (u : Value), l[j]? = some u → (W.alloc (.cells l.toArray t)).cell? ((⟨W.heap.size, 0, none⟩ : Addr).add j) = some u := by
  intro j u hu
  have := (Row.new W l t).c j u hu
  rw [← this]
  congr 1
  unfold Addr.add
  split <;> simp_all
theorem jv_one (j : JV) : ∀ u ∈ j.vals, u.oneCell' = true := by
  intro u hu
  simp [JV.vals] at hu
  rcases hu with rfl | rfl | rfl | rfl | rfl | rfl | rfl | rfl | rfl | rfl | rfl | rfl <;> rfl
theorem mv_one (j : MV) : ∀ u ∈ j.vals, u.oneCell' = true := by
  intro u hu
  simp [MV.vals] at hu
  rcases hu with rfl | rfl | rfl | rfl | rfl <;> rfl

theorem mass_ok (n : Nat) (a b c d : Int) (h1 : 0 ≤ a ∧ a < n) (h2 : 0 ≤ b ∧ b < 9000) (h3 : -3 ≤ c ∧ c ≤ 3) (h4 : -2 ≤ d ∧ d ≤ 2) : massB n ⟨a, IntKind.i64.wrap (1 + b), IntKind.i64.wrap (c * 32768), 0, IntKind.i64.wrap (d * 32768)⟩ = true := by
  rw [IntWalk.i64_in _ (by omega), IntWalk.i64_in _ (by omega), IntWalk.i64_in _ (by omega)]
  simp [massB, from1B, beyondB, farB]; omega
theorem mass_snoc {n : Nat} {ms : List MV} {m : MV} (h : ∀ (k : Nat) (m : MV), ms[k]? = some m → massB n m = true) (hm : massB n m = true) : ∀ (k : Nat) (m' : MV), (ms ++ [m])[k]? = some m' → massB n m' = true := by
  intro k m' hk
  have := List.mem_of_getElem? hk
  simp at this
  rcases this with h1 | rfl
  · obtain ⟨i, hi⟩ := List.getElem?_of_mem h1
    exact h i _ hi
  · exact hm

def RobE (w : World) (nS : Nat) (e : Ending) (W' : World) : Prop := ∃ js ms oa cj om cm, e = .returned (.agg #[.slice oa (List.length js) cj, .slice om (List.length ms) cm]) ∧ (∀ W'', (∀ g, w.heap.size ≤ g → g < W'.heap.size → W''.heap[g]? = W'.heap[g]?) → RobP js ms oa om W'') ∧ w.grownBy W' (some nS)

set_option maxRecDepth 100000 in
set_option maxHeartbeats 4000000 in
theorem robot_any (w : World) (nS : Nat) (os : Option Addr) (cap : Nat) (xs : List Int) (hS : Src w nS os cap xs) :
    Calls Tryz.prog 36 #[.pointer (some ⟨nS, 0, none⟩)] w (RobE w nS) := by
  go_enter Tryz.func36, Tryz.ntmps36
  go_wp2_with fail
  have hR : RB w nS w.heap.size (w.heap.size + 1) os cap xs [] [] (.slice none 0 0) (.slice none 0 0) ((w.alloc (.cells #[.slice none 0 0, .slice none 0 0] 35)).alloc (.cells #[.slice none 0 0, .slice none 0 0] 35)) := by
    have hb1 : Below w.heap.size w (w.alloc (.cells #[.slice none 0 0, .slice none 0 0] 35)) := (Below.refl _ _).alloc (Nat.le_refl _) _
    have hb2 : Below (w.alloc (.cells #[.slice none 0 0, .slice none 0 0] 35)).heap.size (w.alloc (.cells #[.slice none 0 0, .slice none 0 0] 35)) ((w.alloc (.cells #[.slice none 0 0, .slice none 0 0] 35)).alloc (.cells #[.slice none 0 0, .slice none 0 0] 35)) := (Below.refl _ _).alloc (Nat.le_refl _) _
    have e : (w.alloc (.cells #[.slice none 0 0, .slice none 0 0] 35)).heap.size = w.heap.size + 1 := by simp
    have B2 := Blk.new (w.alloc (.cells #[.slice none 0 0, .slice none 0 0] 35)) [.slice none 0 0, .slice none 0 0] 35
    rw [e] at B2
    exact ⟨grown_of_below (below_call hb1 hb2), (hS.keepB hb1).keepB hb2, ⟨_, _, (Blk.new w [.slice none 0 0, .slice none 0 0] 35).keep hb2⟩, B2, World.ownsRow_nil _ _ _ _, World.ownsRow_nil _ _ _ _, (fun g h => by cases h), by simp, (fun k j h => by simp at h), hS.ints, src_lt hS, Nat.le_refl _, Nat.lt_succ_self _⟩
  generalize ((w.alloc (.cells #[.slice none 0 0, .slice none 0 0] 35)).alloc (.cells #[.slice none 0 0, .slice none 0 0] 35)) = W0 at hR ⊢
  generalize hn2 : w.heap.size = n2 at hR ⊢
  generalize hn3 : n2 + 1 = n3 at hR ⊢
  have HN2 := Lib.hid hn2
  clear hn2 hn3
  refine (next_any _ nS os cap xs 3 hR.src (by omega) (by omega)).mono ?_
  rintro e W1 ⟨r, r1, r2, rfl, hg1, hS1⟩
  replace hR := hR.call hg1 hS1
  clear hg1 hS1 hS
  have hn1 : 1 ≤ 1 + r ∧ 1 + r ≤ 3 := by omega
  go_wp2_with fail
  generalize 1 + r = n at hn1 ⊢
  clear r1 r2
  go_loopw [5] (fun i W => ∃ js v, i = .int .i64 (List.length js : Nat) ∧ (js.length : Int) ≤ n ∧ RB w nS n2 n3 os cap xs js [] v (.slice none 0 0) W) (fun i _ => (n - intOf i).toNat)
  case atStart => exact ⟨[], _, rfl, by simp; omega, hR⟩
  case round =>
    clear hR
    obtain ⟨js, v, rfl, hk, hR⟩ := hrel
    by_cases hlt : (js.length : Int) < n
    · obtain ⟨i0, hi, hz0, hz1, hz2⟩ := info_parts info80
      go_upto_block 1 with fail
      go_cut [] (fun W => ∃ j v', RB w nS n2 n3 os cap xs (js ++ [j]) [] v' (.slice none 0 0) W)
      case first =>
        have c0 : wr.cell? ⟨n3, 0, none⟩ = some v := hR.b3.c 0 _ rfl
        have f0 := hR.b3.f 0
        have l3 := hR.b3.lt
        go_wp2_with fail
        have hS0 : Src wr.drew nS os cap xs := hR.src.keepB (Below.refl _ _).drew
        have hk3 : (js.length : Int) ≤ 3 := by omega
        go_region_law (first
          | (refine step_append_lies _ rfl (.tmp 16) (.tmp 20) 32 rfl (n3 + 1) 80 i0 _ 12 104 under32 hi hz0 hz1 hz2 rfl (by decide) v js.length (jflat js) (by simp [Act.eval]) HA.out.oj ⟨W2.heap.size, 0, none⟩ 1 1 j.vals (by simp [Act.eval]) rfl (new_cells _ _ _) (jv_one j) (by decide) (by unfold maxLen; omega) (by omega) HA.out.hb _ rfl ?_; intro g c W3 hown hgrow hat hlt3; have hB3 := HA.out.b3.low (Nat.lt_succ_self _) (grown_below HA.out.oj hgrow HA.out.hb); have c04 := hB3.c 0 _ rfl; have f04 := hB3.f 0; have HO := Lib.hid hown; clear hown)
          | (go_simp; go_at_call 61; refine (jointM _ nS os cap xs _ hS0 (by omega) hk3).mono ?_; rintro e W2 ⟨j, hGj, he, hg2, hS2⟩; replace he : e = .returned (.agg #[.string j.name, .int .i64 j.kind, .int .i64 j.parent, .int .i64 j.o0, .int .i64 j.o1, .int .i64 j.o2, .int .i64 j.lo, .int .i64 j.hi, .int .i64 j.weight, .int .i64 j.speed, .int .i64 j.accel, .int .i64 j.torque]) := he; subst he; have HR2 := Lib.hid ((hR.bel (Below.refl _ _).drew).call hg2 hS2); have c02 := HR2.out.b3.c 0 _ rfl; have HA := Lib.hid (HR2.out.bel (W' := W2.alloc (.cells #[.string j.name, .int .i64 j.kind, .int .i64 j.parent, .int .i64 j.o0, .int .i64 j.o1, .int .i64 j.o2, .int .i64 j.lo, .int .i64 j.hi, .int .i64 j.weight, .int .i64 j.speed, .int .i64 j.accel, .int .i64 j.torque] 80)) ((Below.refl _ _).alloc (Nat.le_refl _) _)); have c03 := HA.out.b3.c 0 _ rfl))
        all_goals
          go_wp2_with fail
          go_meet
          exact ⟨j, _, HA.out.appJ j hGj g c HO.out hgrow hat⟩
      case rest =>
        clear hR
        obtain ⟨j, v', hR⟩ := hcut
        go_wp2
        go_roundw
        case rel => exact ⟨js ++ [j], v', by simp, by simp; omega, hR⟩
        case measure => simp [intOf]; omega
    · have hle : n = (js.length : Int) := by omega
      go_wp2_with fail
      refine (next_any _ nS os cap xs 3 hR.src (by omega) (by omega)).mono ?_
      rintro e W2 ⟨q, q1, q2, rfl, hg2, hS2⟩
      replace hR := hR.call hg2 hS2
      clear hg2 hS2
      have hjl : 1 ≤ js.length ∧ js.length ≤ 3 := by omega
      clear hk hlt
      go_wp2_with fail
      go_loopw [6] (fun i W => ∃ (k : Int) (ms : List MV) (u : Value), i = .int .i64 k ∧ 0 ≤ k ∧ (ms.length : Int) + k ≤ 2 ∧ (∀ (k : Nat) (m : MV), ms[k]? = some m → massB js.length m = true) ∧ RB w nS n2 n3 os cap xs js ms v u W) (fun i _ => (intOf i).toNat)
      case atStart => exact ⟨q, [], _, rfl, q1, by simp; omega, by simp, hR⟩
      case round =>
        clear hR q1 q2
        obtain ⟨k, ms, u, rfl, hk0, hk, hgm, hR⟩ := hrel
        have HGM := Lib.hid hgm
        clear hgm
        by_cases hlt : 0 < k
        · obtain ⟨i0, hi, hz0, hz1, hz2⟩ := info_parts info54
          go_upto_block 3 with fail
          go_cut [] (fun W => ∃ m u', massB js.length m = true ∧ RB w nS n2 n3 os cap xs js (ms ++ [m]) v u' W)
          case first =>
            have c0 : wr.cell? ⟨n3, 1, none⟩ = some u := hR.b3.c 1 _ rfl
            have f0 := hR.b3.f 1
            have l3 := hR.b3.lt
            have hS0 : Src wr.drew nS os cap xs := hR.src.keepB (Below.refl _ _).drew
            go_wp2_with fail
            go_region_law (first
              | (have hxx := HA; clear hxx; refine step_append_lies _ rfl (.tmp 30) (.tmp 45) 33 rfl (n3 + 1) 54 i0 _ 5 40 under33 hi hz0 hz1 hz2 rfl (by decide) u ms.length (mflat ms) (by simp [Act.eval]) HA.out.om ⟨V4.heap.size, 0, none⟩ 1 1 (MV.vals ⟨a1, IntKind.i64.wrap (1 + a2), IntKind.i64.wrap (a3 * 32768), 0, IntKind.i64.wrap (a4 * 32768)⟩) (by simp [Act.eval]) rfl (new_cells _ _ _) (mv_one _) (by decide) (by unfold maxLen; omega) (by omega) HA.out.hb _ rfl ?_; intro g c W3 hown hgrow hat hlt3; have hB3 := HA.out.b3.low (Nat.lt_succ_self _) (grown_below HA.out.om hgrow HA.out.hb); have c04 := hB3.c 1 _ rfl; have f04 := hB3.f 1; have HO := Lib.hid hown; clear hown)
              | (have hxx := hS3; clear hxx; go_simp; go_at_call 62; refine (signed_any _ nS os cap xs 2 hS3 (by omega) (by omega)).mono ?_; rintro e V4 ⟨a4, a41, a42, rfl, hg4, hS4⟩; have HR4 := Lib.hid (HR3.out.call hg4 hS4); clear hg4; have c14 := HR4.out.b3.c 1 _ rfl; have HA := Lib.hid (HR4.out.bel (W' := V4.alloc (.cells #[.int .i64 a1, .int .i64 (IntKind.i64.wrap (1 + a2)), .int .i64 (IntKind.i64.wrap (a3 * 32768)), .int .i64 0, .int .i64 (IntKind.i64.wrap (a4 * 32768))] 54)) ((Below.refl _ _).alloc (Nat.le_refl _) _)); have c15 := HA.out.b3.c 1 _ rfl)
              | (have hxx := hS2; clear hxx; go_simp; go_at_call 62; refine (signed_any _ nS os cap xs 3 hS2 (by omega) (by omega)).mono ?_; rintro e V3 ⟨a3, a31, a32, rfl, hg3, hS3⟩; have HR3 := Lib.hid (HR2.out.call hg3 hS3); clear hg3; have c13 := HR3.out.b3.c 1 _ rfl)
              | (have hxx := hS1; clear hxx; go_simp; go_at_call 38; refine (next_any _ nS os cap xs 9000 hS1 (by omega) (by omega)).mono ?_; rintro e V2 ⟨a2, a21, a22, rfl, hg2, hS2⟩; have HR2 := Lib.hid (HR1.out.call hg2 hS2); clear hg2; have c12 := HR2.out.b3.c 1 _ rfl)
              | (go_simp; go_at_call 38; refine (next_any _ nS os cap xs js.length hS0 (by omega) (by omega)).mono ?_; rintro e V1 ⟨a1, a11, a12, rfl, hg1, hS1⟩; have HR1 := Lib.hid ((hR.bel (Below.refl _ _).drew).call hg1 hS1); clear hg1; have c11 := HR1.out.b3.c 1 _ rfl))
            all_goals
              go_wp2_with fail
              go_meet
              exact ⟨_, _, mass_ok _ a1 a2 a3 a4 ⟨a11, a12⟩ ⟨a21, a22⟩ ⟨a31, a32⟩ ⟨a41, a42⟩, HA.out.appM _ g c HO.out hgrow hat⟩
          case rest =>
            clear hR
            obtain ⟨m, u', hm, hR⟩ := hcut
            go_wp2
            go_roundw
            case rel => exact ⟨k - 1, ms ++ [m], u', by simp, by omega, by simp; omega, mass_snoc HGM.out hm, hR⟩
            case measure => simp [intOf]; omega
        · obtain ⟨oa, cj, om, cm, rfl, rfl, s1, s2⟩ := hR.done
          obtain ⟨x, y, hb2⟩ := hR.b2
          have d0 := hR.b3.c 0 _ rfl
          have d1 := hR.b3.c 1 _ rfl
          have e0 := hb2.c 0 _ rfl
          have e1 := hb2.c 1 _ rfl
          have f0 := hb2.f 0
          have f1 := hb2.f 1
          have l2 := hb2.lt
          have l3 := hR.b3.lt
          have HR := Lib.hid hR
          have HS1 := Lib.hid s1
          have HS2 := Lib.hid s2
          clear hR s1 s2 hb2
          go_wp2_with fail
          have hF := HR.out.put2 (.slice oa js.length cj) (.slice om ms.length cm)
          refine bodyPost_ret (v := .agg #[.slice oa js.length cj, .slice om ms.length cm]) (by simp [results, Tryz.results36, go_sem, e0, e1]) rfl ⟨js, ms, oa, cj, om, cm, rfl, ?_, hF.gr⟩
          intro W'' hag
          obtain ⟨oa', cj', om', cm', q1, q2, s1, s2⟩ := own_done hF hag
          injection q1 with q1 _ q1'
          injection q2 with q2 _ q2'
          subst q1 q2
          exact ⟨hjl, by omega, hF.gj, HGM.out, s1, s2⟩
end Go.Proofs.En
