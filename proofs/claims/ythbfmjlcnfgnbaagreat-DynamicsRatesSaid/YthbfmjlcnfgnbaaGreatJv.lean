/-
  Walks: the maker's Robot and Config.
-/
import Derived.Test.YthbfmjlcnfgnbaaGreatJu
namespace Go.Proofs.En
open Go.RowKit

def MkRob (w : World) (e : Ending) (W' : World) : Prop := ∃ js ms oa cj om cm, e = .returned (.agg #[.slice oa (List.length js) cj, .slice om (List.length ms) cm]) ∧ RobP js ms oa om W' ∧ Below w.heap.size w W'

theorem src_new (w : World) (os : Option Addr) (cap : Nat) (xs : List Int) (hI : Sl w os 1 (pvals xs)) (hl : xs.length ≤ 9223372036854775807) : Src (w.alloc (.cells #[.slice os xs.length cap, .int .i64 0] 120)) w.heap.size os cap xs := by
  refine ⟨⟨0, by omega, Cells2.new w _ _ 120⟩, hI.keep ((Below.refl _ _).alloc (Nat.le_refl _) _), ?_, hl⟩
  intro hne b o s e
  obtain ⟨b', off', e', hr⟩ := hI (by intro h; exact hne (by simpa [pvals] using h))
  rw [e] at e'
  injection e' with e'
  injection e' with e' _ _
  have := hr.lt
  omega

theorem mkRobot_any (w : World) (os : Option Addr) (cap : Nat) (xs : List Int) (hI : Sl w os 1 (pvals xs)) (hl : xs.length ≤ 9223372036854775807) :
    Calls Tryz.prog 17 #[.slice os xs.length cap] w (MkRob w) := by
  go_enter Tryz.func17, Tryz.ntmps17
  go_wp2_with fail
  have hB0 : Below w.heap.size w (w.alloc (.cells #[.slice none 0 0, .slice none 0 0] 35)) := (Below.refl _ _).alloc (Nat.le_refl _) _
  have b0 := Blk.new w [.slice none 0 0, .slice none 0 0] 35
  have hI0 := hI.keep hB0
  generalize (w.alloc (.cells #[.slice none 0 0, .slice none 0 0] 35)) = W0 at hB0 b0 hI0 ⊢
  generalize hn : w.heap.size = n2 at b0 ⊢
  have HN := Lib.hid hn
  clear hn
  refine (from_any os cap xs.length W0).mono ?_
  rintro e W1 ⟨rfl, rfl⟩
  have hS := src_new W0 os cap xs hI0 hl
  have hB1 : Below W0.heap.size W0 (W0.alloc (.cells #[.slice os xs.length cap, .int .i64 0] 120)) := (Below.refl _ _).alloc (Nat.le_refl _) _
  have b1 := b0.keep hB1
  have hne : n2 ≠ W0.heap.size := Nat.ne_of_lt b0.lt
  have hn2 : n2 < (W0.alloc (.cells #[.slice os xs.length cap, .int .i64 0] 120)).heap.size := b1.lt
  have hwS : w.heap.size ≤ W0.heap.size := hB0.size
  have HB1 := Lib.hid (below_call hB0 hB1)
  clear hB0 hB1 b0
  generalize (W0.alloc (.cells #[.slice os xs.length cap, .int .i64 0] 120)) = W1 at hS b1 HB1 hn2 ⊢
  generalize W0.heap.size = nS at hS hne hwS ⊢
  go_wp2_with fail
  refine (robot_any W1 nS os cap xs hS).mono ?_
  rintro e W2 ⟨js, ms, oa, cj, om, cm, rfl, hP, hg⟩
  have b2 := b1.keepG hg hne
  have hB2 : Below w.heap.size w W2 := ⟨hg.os.trans HB1.out.os, hg.tape.trans HB1.out.tape, hg.output.trans HB1.out.output, Nat.le_trans HB1.out.size hg.size, fun k hk => (hg.block k (Nat.lt_of_lt_of_le hk HB1.out.size) (fun e => by injection e; omega)).trans (HB1.out.block k hk)⟩
  have e0 := b2.c 0 _ rfl
  have e1 := b2.c 1 _ rfl
  have f0 := b2.f 0
  have f1 := b2.f 1
  have l2 := b2.lt
  have HP := Lib.hid hP
  have HB2 := Lib.hid hB2
  clear hP hB2 b1 b2 hg HB1
  go_wp2_with fail
  have hBF : Below w.heap.size w ((W2.setCell ⟨n2, 0, none⟩ (.slice oa js.length cj)).setCell ⟨n2, 1, none⟩ (.slice om ms.length cm)) := (HB2.out.setCell (p := ⟨n2, 0, none⟩) (Nat.le_of_eq HN.out) _).setCell (p := ⟨n2, 1, none⟩) (Nat.le_of_eq HN.out) _
  refine bodyPost_ret (v := .agg #[.slice oa js.length cj, .slice om ms.length cm]) (by simp [results, Tryz.results17, go_sem, e0, e1]) rfl ⟨js, ms, oa, cj, om, cm, rfl, HP.out _ ?_, hBF⟩
  intro g h1 h2
  exact (Below.heap_setCell _ ⟨n2, 1, none⟩ _ g (show g ≠ n2 by omega)).trans (Below.heap_setCell _ ⟨n2, 0, none⟩ _ g (show g ≠ n2 by omega))
end Go.Proofs.En
