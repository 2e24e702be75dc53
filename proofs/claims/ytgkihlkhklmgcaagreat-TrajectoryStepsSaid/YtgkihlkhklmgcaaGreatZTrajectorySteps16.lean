/-
  Texts put together: Jv Jw Jy Dv Dw.
-/
import Derived.Test.YtgkihlkhklmgcaaGreatZTrajectorySteps15
import Derived.Deep.Slices
import Derived.OpenShut
import Derived.ChangeArms
import Derived.WalkKit
import Derived.IntWalk
import Derived.Lib.Hide
import Derived.Lib.BitFns
set_option linter.unusedVariables false
section
/-
  Walks: the maker's Robot and Config.
-/
namespace Go.Proofs.En
open Go.RowKit
def MkRobC (w : World) (e : Ending) (W' : World) : Prop := ∃ js ms oa cj om cm, e = .returned (.agg #[.slice oa (List.length js) cj, .slice om (List.length ms) cm]) ∧ RobP js ms oa om W' ∧ Below w.heap.size w W' ∧ (ms.length ≤ cm ∧ (om = none → cm = 0)) ∧ W'.ownsRow w.heap.size 64 12 (.slice oa (List.length js) cj) js.length (jflat js) ∧ (∀ g, (Value.slice oa (List.length js) cj).ownBlock = some g → (Value.slice om (List.length ms) cm).ownBlock ≠ some g) ∧ (∀ a, om = some a → w.heap.size ≤ a.block)
theorem src_new (w : World) (os : Option Addr) (cap : Nat) (xs : List Int) (hI : Sl w os 1 (pvals xs)) (hl : xs.length ≤ 9223372036854775807) : Src (w.alloc (.cells #[.slice os xs.length cap, .int .i64 0] 103)) w.heap.size os cap xs := by
 refine ⟨⟨0, by omega, Cells2.new w _ _ 103⟩, hI.keep ((Below.refl _ _).alloc (Nat.le_refl _) _), ?_, hl⟩
 intro hne b o s e
 obtain ⟨b', off', e', hr⟩ := hI (by intro h; exact hne (by simpa [pvals] using h))
 rw [e] at e'
 injection e' with e'
 injection e' with e' _ _
 have := hr.lt
 omega
theorem mkRobot_cap (w : World) (os : Option Addr) (cap : Nat) (xs : List Int) (hI : Sl w os 1 (pvals xs)) (hl : xs.length ≤ 9223372036854775807) :
  Calls Tryz.prog 15 #[.slice os xs.length cap] w (MkRobC w) := by
 go_enter Tryz.func15, Tryz.ntmps15
 go_wp2_with fail
 have hB0 : Below w.heap.size w (w.alloc (.cells #[.slice none 0 0, .slice none 0 0] 25)) := (Below.refl _ _).alloc (Nat.le_refl _) _
 have b0 := Blk.new w [.slice none 0 0, .slice none 0 0] 25
 have hI0 := hI.keep hB0
 generalize (w.alloc (.cells #[.slice none 0 0, .slice none 0 0] 25)) = W0 at hB0 b0 hI0 ⊢
 generalize hn : w.heap.size = n2 at b0 ⊢
 have HN := Lib.hid hn
 clear hn
 refine (from_any os cap xs.length W0).mono ?_
 rintro e W1 ⟨rfl, rfl⟩
 have hS := src_new W0 os cap xs hI0 hl
 have hB1 : Below W0.heap.size W0 (W0.alloc (.cells #[.slice os xs.length cap, .int .i64 0] 103)) := (Below.refl _ _).alloc (Nat.le_refl _) _
 have b1 := b0.keep hB1
 have hne : n2 ≠ W0.heap.size := Nat.ne_of_lt b0.lt
 have hn2 : n2 < (W0.alloc (.cells #[.slice os xs.length cap, .int .i64 0] 103)).heap.size := b1.lt
 have hwS : w.heap.size ≤ W0.heap.size := hB0.size
 have HB1 := Lib.hid (below_call hB0 hB1)
 clear hB0 hB1 b0
 generalize (W0.alloc (.cells #[.slice os xs.length cap, .int .i64 0] 103)) = W1 at hS b1 HB1 hn2 ⊢
 generalize W0.heap.size = nS at hS hne hwS ⊢
 go_wp2_with fail
 refine (robot_any W1 nS os cap xs hS).mono ?_
 rintro e W2 ⟨js, ms, oa, cj, om, cm, rfl, hP, hg, hcap, hown, hap, hfr⟩
 have HCP := Lib.hid hcap
 have HOW := Lib.hid hown
 have HAP := Lib.hid hap
 have HFR := Lib.hid hfr
 have hsz1 := HB1.out.size
 clear hcap hown hap hfr
 have b2 := b1.keepG hg hne
 have hB2 : Below w.heap.size w W2 := ⟨hg.os.trans HB1.out.os, hg.tape.trans HB1.out.tape, hg.output.trans HB1.out.output, Nat.le_trans HB1.out.size hg.size, fun k hk => (hg.block k (Nat.lt_of_lt_of_le hk HB1.out.size) (fun e => by injection e; omega)).trans (HB1.out.block k hk)⟩
 have e0 := b2.c 0 _ rfl
 have e1 := b2.c 1 _ rfl
 have f0 := b2.f 0
 have f1 := b2.f 1
 have l2 := b2.lt
 have HP := Lib.hid hP
 have HB2 := Lib.hid hB2
 clear hP hB2 b1 b2 hg HB1
 go_wp2_with fail
 have hBF : Below w.heap.size w ((W2.setCell ⟨n2, 0, none⟩ (.slice oa js.length cj)).setCell ⟨n2, 1, none⟩ (.slice om ms.length cm)) := (HB2.out.setCell (p := ⟨n2, 0, none⟩) (Nat.le_of_eq HN.out) _).setCell (p := ⟨n2, 1, none⟩) (Nat.le_of_eq HN.out) _
 refine bodyPost_ret (v := .agg #[.slice oa js.length cj, .slice om ms.length cm]) (by simp [results, Tryz.results15, go_sem, e0, e1]) rfl ⟨js, ms, oa, cj, om, cm, rfl, HP.out _ ?_, hBF, HCP.out, own_base (HOW.out _ ?_) hsz1, HAP.out, fun a ha => Nat.le_trans hsz1 (HFR.out a ha)⟩
 all_goals intro g h1 h2
 all_goals exact (Below.heap_setCell _ ⟨n2, 1, none⟩ _ g (show g ≠ n2 by omega)).trans (Below.heap_setCell _ ⟨n2, 0, none⟩ _ g (show g ≠ n2 by omega))
end Go.Proofs.En
end

section
/-
  Walks: the maker's Config.
-/
namespace Go.Proofs.En
open Go.RowKit
def pflat (ps : List Int) : List Value := ps.map fun p => .int .i64 p
theorem pvals_flat (ps : List Int) : (pvals ps).flatten = pflat ps := by
 induction ps with
 | nil => rfl
 | cons a t ih => simp only [pvals, pflat, List.map_cons, List.flatten_cons] at ih ⊢; rw [ih]; rfl
theorem pvals_len (ps : List Int) : (pvals ps).length = ps.length := by simp [pvals]
/-- Numbers within the limits of the first joints. -/
def inTo (js : List JV) (ps : List Int) : Prop := ∀ (k : Nat) (j : JV) (p : Int), js[k]? = some j → ps[k]? = some p → j.lo ≤ p ∧ p ≤ j.hi
theorem inTo_snoc {js : List JV} {ps : List Int} {j : JV} {p : Int} (h : inTo js ps) (hj : js[ps.length]? = some j) (hp : j.lo ≤ p ∧ p ≤ j.hi) : inTo js (ps ++ [p]) := by
 intro k j' p' h1 h2
 rcases Nat.lt_or_ge k ps.length with hlt | hge
 ·rw [List.getElem?_append_left hlt] at h2
  exact h k j' p' h1 h2
 ·rw [List.getElem?_append_right hge] at h2
  have : k = ps.length := by
   rcases Nat.eq_or_lt_of_le hge with h | h
   ·exact h.symm
   ·rw [List.getElem?_eq_none (by simp; omega)] at h2; cases h2
  subst this
  simp at h2
  subst h2
  rw [hj] at h1
  injection h1 with h1
  subst h1
  exact hp
/-- The world inside the maker's Config; Wb: behind the source's making. -/
structure CI (w Wb : World) (n2 nS : Nat) (rv : List Value) (os : Option Addr) (cap : Nat) (xs : List Int) (js : List JV) (ps : List Int) (v : Value) (W : World) : Prop where
 bel : Below w.heap.size w W
 r2 : Row W n2 rv
 src : Src W nS os cap xs
 own : W.ownsRow Wb.heap.size 2 1 v ps.length (pflat ps)
 hb : Wb.heap.size ≤ W.heap.size
 i0 : Sl Wb os 1 (pvals xs)
 h2 : w.heap.size ≤ n2
 h3 : n2 < nS
 h4 : nS < Wb.heap.size
 inn : inTo js ps
theorem CI.call {w Wb W W' : World} {n2 nS : Nat} {rv : List Value} {os : Option Addr} {cap : Nat} {xs : List Int} {js : List JV} {ps : List Int} {v : Value} (h : CI w Wb n2 nS rv os cap xs js ps v W) (hg : W.grownBy W' (some nS)) (hS : Src W' nS os cap xs) : CI w Wb n2 nS rv os cap xs js ps v W' := by
 have h2 := h.h2; have h3 := h.h3; have h4 := h.h4
 have ne : ∀ k, k ≠ nS → k < W.heap.size → W'.heap[k]? = W.heap[k]? := fun k hk hl => hg.block k hl (fun e => hk (by injection e))
 refine ⟨⟨hg.os.trans h.bel.os, hg.tape.trans h.bel.tape, hg.output.trans h.bel.output, Nat.le_trans h.bel.size hg.size, fun k hk => (ne k (by omega) (Nat.lt_of_lt_of_le hk h.bel.size)).trans (h.bel.block k hk)⟩, ?_, hS, own_blk h.own fun g _ hl hb => ne g (by omega) hl, Nat.le_trans h.hb hg.size, h.i0, h2, h3, h4, h.inn⟩
 have e := ne n2 (by omega) h.r2.lt
 refine ⟨fun j v hj => ?_, Nat.lt_of_lt_of_le h.r2.lt hg.size⟩
 rw [← h.r2.c j v hj]
 simp [World.cell?, e]
theorem CI.keep {w Wb W W' : World} {n2 nS : Nat} {rv : List Value} {os : Option Addr} {cap : Nat} {xs : List Int} {js : List JV} {ps : List Int} {v : Value} (h : CI w Wb n2 nS rv os cap xs js ps v W) (hb : Below W.heap.size W W') : CI w Wb n2 nS rv os cap xs js ps v W' :=
 ⟨below_call h.bel hb, h.r2.keep hb, h.src.keepB hb, own_keep h.own hb, Nat.le_trans h.hb hb.size, h.i0, h.h2, h.h3, h.h4, h.inn⟩
theorem CI.app {w Wb W W1 : World} {n2 nS : Nat} {rv : List Value} {os : Option Addr} {cap : Nat} {xs : List Int} {js : List JV} {ps : List Int} {v v' : Value} (h : CI w Wb n2 nS rv os cap xs js ps v W) {j : JV} {p : Int} (hj : js[ps.length]? = some j) (hp : j.lo ≤ p ∧ p ≤ j.hi)
  (ho : W1.ownsRow Wb.heap.size 2 1 v' (ps.length + 1) (pflat ps ++ [.int .i64 p])) (hg : W.grownBy W1 v.ownBlock) : CI w Wb n2 nS rv os cap xs js (ps ++ [p]) v' W1 := by
 have h2 := h.h2; have h3 := h.h3; have h4 := h.h4
 have B := grown_below h.own hg h.hb
 refine ⟨h.bel.trans (B.mono (by omega)), h.r2.low (by omega) B, h.src.low h.i0 h4 B, ?_, Nat.le_trans h.hb hg.size, h.i0, h2, h3, h4, inTo_snoc h.inn hj hp⟩
 rw [List.length_append, pflat, List.map_append]
 exact ho
theorem CI.done {w Wb W : World} {n2 nS : Nat} {rv : List Value} {os : Option Addr} {cap : Nat} {xs : List Int} {js : List JV} {ps : List Int} {v : Value} (h : CI w Wb n2 nS rv os cap xs js ps v W) : ∃ oa c, v = .slice oa ps.length c ∧ Sl W oa 1 (pvals ps) := by
 obtain ⟨oa, c, e, s⟩ := own_rows (rows := pvals ps) (n := 1) (by intro r hr; simp [pvals] at hr; obtain ⟨j, _, rfl⟩ := hr; rfl) (by rw [pvals_len, pvals_flat]; exact h.own)
 rw [pvals_len] at e
 exact ⟨oa, c, e, s⟩
/-- What Config answers. -/
def CfgP (js : List JV) (w : World) (e : Ending) (W' : World) : Prop := ∃ (ps : List Int) (oa : Option Addr) (c : Nat), e = .returned (.slice oa ps.length c) ∧ ps.length = js.length ∧ inTo js ps ∧ Sl W' oa 1 (pvals ps) ∧ Below w.heap.size w W'
def CfgN (js : List JV) (w : World) (e : Ending) (W' : World) : Prop := ∃ (ps : List Int) (oa : Option Addr) (c : Nat), e = .returned (.slice oa ps.length c) ∧ ps.length = js.length ∧ inTo js ps ∧ Sl W' oa 1 (pvals ps) ∧ Below w.heap.size w W' ∧ ∀ a, oa = some a → w.heap.size ≤ a.block
theorem own_fresh {W : World} {base size n cap m : Nat} {e : TypeId} {oa : Option Addr} {xs : List Value} (h : W.ownsRow base e size (.slice oa n cap) m xs) : ∀ a, oa = some a → base ≤ a.block := fun a ha => by
 rcases h.2 with ⟨h1, _⟩ | ⟨g, cap', cur, h1, h2, _⟩
 ·injection h1 with h1
  rw [h1] at ha; cases ha
 ·injection h1 with h1
  rw [h1] at ha; injection ha with ha; subst ha; exact h2
set_option maxRecDepth 100000 in
set_option maxHeartbeats 4000000 in
theorem config_new (oa om os : Option Addr) (cj cm cap : Nat) (js : List JV) (nm : Nat) (xs : List Int) (w : World) (hj : js.length ≤ 100) (hbd : ∀ (k : Nat) (j : JV), js[k]? = some j → -1000000000 ≤ j.lo ∧ j.lo ≤ j.hi ∧ j.hi ≤ 1000000000) (hJ : Sl w oa 12 (js.map JV.vals)) (hI : Sl w os 1 (pvals xs)) (hl : xs.length ≤ 9223372036854775807) :
  Calls Tryz.prog 7 #[.agg #[.slice oa js.length cj, .slice om nm cm], .slice os xs.length cap] w (CfgN js w) := by
 go_enter Tryz.func7, Tryz.ntmps7
 go_wp2_with fail
 have hB0 : Below w.heap.size w (w.alloc (.cells #[.slice oa js.length cj, .slice om nm cm] 25)) := (Below.refl _ _).alloc (Nat.le_refl _) _
 have r0 := Row.new w [.slice oa js.length cj, .slice om nm cm] 25
 have hI0 := hI.keep hB0
 generalize (w.alloc (.cells #[.slice oa js.length cj, .slice om nm cm] 25)) = W0 at hB0 r0 hI0 ⊢
 generalize hn : w.heap.size = n2 at r0 ⊢
 have HN := Lib.hid hn
 clear hn
 refine (from_any os cap xs.length W0).mono ?_
 rintro e W1 ⟨rfl, rfl⟩
 have hS := src_new W0 os cap xs hI0 hl
 have hB1 : Below W0.heap.size W0 (W0.alloc (.cells #[.slice os xs.length cap, .int .i64 0] 103)) := (Below.refl _ _).alloc (Nat.le_refl _) _
 have hC : CI w (W0.alloc (.cells #[.slice os xs.length cap, .int .i64 0] 103)) n2 W0.heap.size [.slice oa js.length cj, .slice om nm cm] os cap xs js [] (.slice none 0 0) (W0.alloc (.cells #[.slice os xs.length cap, .int .i64 0] 103)) :=
  ⟨below_call hB0 hB1, r0.keep hB1, hS, World.ownsRow_nil _ _ _ _, Nat.le_refl _, hI0.keep hB1, Nat.le_of_eq HN.out, r0.lt, src_lt hS, fun k j p _ h => by simp at h⟩
 clear hB0 hB1 hS r0 hI0 HN hI
 generalize (W0.alloc (.cells #[.slice os xs.length cap, .int .i64 0] 103)) = W1 at hC ⊢
 generalize W0.heap.size = nS at hC ⊢
 have HBD := Lib.hid hbd
 clear hbd
 go_wp2_with fail
 go_loopw [6, 7] (fun v i W => ∃ ps : List Int, ps.length ≤ js.length ∧ i = .int .i64 (ps.length : Nat) ∧ CI w W1 n2 nS [.slice oa js.length cj, .slice om nm cm] os cap xs js ps v W) (fun _ i _ => js.length - (intOf i).toNat)
 case atStart => exact ⟨[], by simp, rfl, hC⟩
 case round =>
  clear hC
  obtain ⟨ps, hk, rfl, hC⟩ := hrel
  have s0 : wr.cell? ⟨n2, 0, none⟩ = some (.slice oa js.length cj) := hC.r2.c 0 _ rfl
  have l2 := hC.r2.lt
  by_cases hlt : ps.length < js.length
  ·obtain ⟨j, hj'⟩ : ∃ j, js[ps.length]? = some j := ⟨_, List.getElem?_eq_getElem hlt⟩
   obtain ⟨b, off, rfl, hJr⟩ := (hJ.keep hC.bel) (jvals_ne hlt)
   have x6 : wr.cell? ⟨b, off + ps.length * 12 + 6, none⟩ = some (.int .i64 j.lo) := hJr.c ps.length _ (rows_get hj') 6 _ rfl
   have x7 : wr.cell? ⟨b, off + ps.length * 12 + 7, none⟩ = some (.int .i64 j.hi) := hJr.c ps.length _ (rows_get hj') 7 _ rfl
   have lb := hJr.lt
   have hbj := HBD.out _ _ hj'
   have HJ' := Lib.hid hj'
   clear hj' hJr
   go_wp2_with fail
   go_quiet (fail)
   replace hC := hC.keep (below_drew wr nq)
   clear s0 l2 x6 x7 lb
   generalize wr.drewN nq = V at hC ⊢
   go_wp2_with fail
   refine (next_any _ nS os cap xs 6 hC.src (by omega) (by omega)).mono ?_
   rintro e W2 ⟨q, q1, q2, rfl, hg2, hS2⟩
   replace hC := hC.call hg2 hS2
   clear hg2 hS2
   obtain ⟨i0, hi, hz0, hz1, hz2⟩ := info_parts info2
   by_cases h0 : q = 0
   ·have h0' : (q == 0) = true := by rw [h0]; rfl
    clear h0
    have HC2 := Lib.hid (hC.keep (W' := W2.alloc (.cells #[.int .i64 j.lo] 2)) ((Below.refl _ _).alloc (Nat.le_refl _) _))
    go_wp2_with (at_builtin; refine wpList_append_own _ rfl _ _ 26 rfl W1.heap.size 2 i0 (.int .i64 0) 1 8 under37 hi hz0 hz1 hz2 rfl (by decide) _ _ _ rfl HC2.out.own ⟨W2.heap.size, 0, none⟩ 1 1 [.int .i64 j.lo] rfl rfl ?c1 ?c2 ?c3 ?c4 ?c5 ?_)
    case c1 => exact new_cells _ _ _
    case c2 => intro u hu; simp at hu; subst hu; rfl
    case c3 => unfold maxLen; omega
    case c4 => omega
    case c5 => exact HC2.out.hb
    intro v' w' hown' hgrow _
    have HN := Lib.hid (HC2.out.app HJ'.out (p := j.lo) (by omega) hown' hgrow)
    clear hown' hgrow HC2 hC hi hz0 hz1 hz2
    go_wp2
    go_roundw
    case rel => exact ⟨ps ++ [j.lo], by simp; omega, by simp, HN.out⟩
    case measure => simp [intOf]; omega
   ·have h0' : (q == 0) = false := beq_eq_false_iff_ne.2 h0
    by_cases h1 : q = 1
    ·have h1' : (q == 1) = true := by rw [h1]; rfl
     clear h1 h0
     have HC2 := Lib.hid (hC.keep (W' := W2.alloc (.cells #[.int .i64 j.hi] 2)) ((Below.refl _ _).alloc (Nat.le_refl _) _))
     go_wp2_with (at_builtin; refine wpList_append_own _ rfl _ _ 26 rfl W1.heap.size 2 i0 (.int .i64 0) 1 8 under37 hi hz0 hz1 hz2 rfl (by decide) _ _ _ rfl HC2.out.own ⟨W2.heap.size, 0, none⟩ 1 1 [.int .i64 j.hi] rfl rfl ?c1 ?c2 ?c3 ?c4 ?c5 ?_)
     case c1 => exact new_cells _ _ _
     case c2 => intro u hu; simp at hu; subst hu; rfl
     case c3 => unfold maxLen; omega
     case c4 => omega
     case c5 => exact HC2.out.hb
     intro v' w' hown' hgrow _
     have HN := Lib.hid (HC2.out.app HJ'.out (p := j.hi) (by omega) hown' hgrow)
     clear hown' hgrow HC2 hC hi hz0 hz1 hz2
     go_wp2
     go_roundw
     case rel => exact ⟨ps ++ [j.hi], by simp; omega, by simp, HN.out⟩
     case measure => simp [intOf]; omega
    ·have h1' : (q == 1) = false := beq_eq_false_iff_ne.2 h1
     go_wp2_with fail
     refine (next_any _ nS os cap xs _ hC.src (by omega) (by omega)).mono ?_
     rintro e W3 ⟨z, z1, z2, rfl, hg3, hS3⟩
     replace hC := hC.call hg3 hS3
     clear hg3 hS3
     have HC2 := Lib.hid (hC.keep (W' := W3.alloc (.cells #[.int .i64 (j.lo + z)] 2)) ((Below.refl _ _).alloc (Nat.le_refl _) _))
     go_wp2_with (at_builtin; refine wpList_append_own _ rfl _ _ 26 rfl W1.heap.size 2 i0 (.int .i64 0) 1 8 under37 hi hz0 hz1 hz2 rfl (by decide) _ _ _ rfl HC2.out.own ⟨W3.heap.size, 0, none⟩ 1 1 [.int .i64 (j.lo + z)] rfl rfl ?c1 ?c2 ?c3 ?c4 ?c5 ?_)
     case c1 => exact new_cells _ _ _
     case c2 => intro u hu; simp at hu; subst hu; rfl
     case c3 => unfold maxLen; omega
     case c4 => omega
     case c5 => exact HC2.out.hb
     intro v' w' hown' hgrow _
     have HN := Lib.hid (HC2.out.app HJ'.out (p := j.lo + z) (by omega) hown' hgrow)
     clear hown' hgrow HC2 hC hi hz0 hz1 hz2
     go_wp2
     go_roundw
     case rel => exact ⟨ps ++ [j.lo + z], by simp; omega, by simp, HN.out⟩
     case measure => simp [intOf]; omega
  ·have hke : ps.length = js.length := by omega
   obtain ⟨oa', c', rfl, hs⟩ := hC.done
   have HS := Lib.hid hs
   have HC := Lib.hid hC
   have HK := Lib.hid hke
   clear hC hs hke
   go_wp2
   go_ret
   exact ⟨ps, oa', c', rfl, HK.out, HC.out.inn, HS.out, HC.out.bel, fun a ha => by have := own_fresh HC.out.own a ha; have := HC.out.h2; have := HC.out.h3; have := HC.out.h4; omega⟩
theorem config_any (oa om os : Option Addr) (cj cm cap : Nat) (js : List JV) (nm : Nat) (xs : List Int) (w : World) (hj : js.length ≤ 100) (hbd : ∀ (k : Nat) (j : JV), js[k]? = some j → -1000000000 ≤ j.lo ∧ j.lo ≤ j.hi ∧ j.hi ≤ 1000000000) (hJ : Sl w oa 12 (js.map JV.vals)) (hI : Sl w os 1 (pvals xs)) (hl : xs.length ≤ 9223372036854775807) :
  Calls Tryz.prog 7 #[.agg #[.slice oa js.length cj, .slice om nm cm], .slice os xs.length cap] w (CfgP js w) :=
 (config_new oa om os cj cm cap js nm xs w hj hbd hJ hI hl).mono fun _ _ ⟨ps, o, c, h1, h2, h3, h4, h5, _⟩ => ⟨ps, o, c, h1, h2, h3, h4, h5⟩
end Go.Proofs.En
end

section
/-
  What the readings of the arguments say of memory.
-/
namespace Go.Proofs.En
open Go.RowKit
theorem list_of {A : Type} (P : Nat → A → Prop) : ∀ n : Nat, (∀ i, i < n → ∃ r, P i r) → ∃ rs : List A, rs.length = n ∧ ∀ (i : Nat) (r : A), rs[i]? = some r → P i r
 | 0, _ => ⟨[], rfl, fun i r h => by simp at h⟩
 | n + 1, h => by
  obtain ⟨rs, hl, hr⟩ := list_of P n fun i hi => h i (by omega)
  obtain ⟨r, hp⟩ := h n (by omega)
  refine ⟨rs ++ [r], by simp [hl], fun i r' hi => ?_⟩
  rcases Nat.lt_or_ge i rs.length with hlt | hge
  ·rw [List.getElem?_append_left hlt] at hi
   exact hr i r' hi
  ·rw [List.getElem?_append_right hge] at hi
   have : i = n := by
    rcases Nat.eq_or_lt_of_le hge with h | h
    ·omega
    ·rw [List.getElem?_eq_none (by simp; omega)] at hi; cases hi
   subst this
   have e : i - rs.length = 0 := by omega
   rw [e] at hi
   simp at hi
   subst hi
   exact hp
/-- A slice that is read lies in memory, row for row. -/
theorem open_rows {H : Type} {enc : TypeId × Value → H} {P : Program} {w : World} {base : Nat} {spare : Nat → Bool} {held : Bool} {A : Type} (f : A → List Value) {t e : TypeId} {n fuel : Nat} {v : Value} {x : DataW H × List MemPlace} (ht : P.underlying t = some (.slice e)) (hc : P.cellsOf e = n) (hn : 0 < n)
  (hrow : ∀ (m : Nat) (cs : List Value) (y : DataW H × List MemPlace), DataW.trod enc P w base spare held m e cs = some y → ∃ r : A, cs = f r)
  (h : DataW.trod enc P w base spare held fuel t [v] = some x) : ∃ (oa : Option Addr) (cap : Nat) (rs : List A), v = .slice oa rs.length cap ∧ rs.length ≤ 9223372036854775807 ∧ Sl w oa n (rs.map f) := by
 rcases Go.Deep.open_slice ht h with ⟨h0, _⟩ | ⟨a, len, cap, m, k, D, Pl, h1, hb, hl, hm, hmm, _, hx⟩
 ·injection h0 with h0 _
  subst h0
  exact ⟨none, 0, [], rfl, by simp, fun h => absurd rfl h⟩
 ·injection h1 with h1 _
  subst h1
  have hlm : len ≤ m := by rw [hmm]; split <;> omega
  obtain ⟨rs, hrl, hr⟩ := list_of (fun i r => w.cells? base (a.add (i * n)) n = some (f r)) len (fun i hi => by
   obtain ⟨cs, c1, c2⟩ := hx i (by omega)
   rw [hc] at c1
   obtain ⟨r, rfl⟩ := hrow _ _ _ c2
   exact ⟨r, c1⟩)
  subst hrl
  refine ⟨some a, cap, rs, rfl, by unfold maxLen at hm; omega, fun hne => ?_⟩
  have hne' : rs ≠ [] := fun h => hne (by simp [h])
  have cell : ∀ (i : Nat) (r : A), rs[i]? = some r → ∀ q u, (f r)[q]? = some u → w.cell? ((a.add (i * n)).add q) = some u := by
   intro i r hi q u hq
   obtain ⟨_, c2, c3⟩ := World.cells?_some (hr i r hi)
   have hqn : q < n := by
    rcases Nat.lt_or_ge q (f r).length with h' | h'
    ·omega
    ·rw [List.getElem?_eq_none h'] at hq; cases hq
   rw [c3 q hqn, hq]
  -- the slice's address has no spot
  have sp : a.spot = none := by
   cases rs with
   | nil => exact absurd rfl hne'
   | cons r0 rt =>
    obtain ⟨_, c2, c3⟩ := World.cells?_some (hr 0 r0 rfl)
    have c4 := c3 0 hn
    have : (f r0)[0]? = some ((f r0)[0]'(by omega)) := List.getElem?_eq_getElem _
    rw [this] at c4
    cases hs : a.spot with
    | none => rfl
    | some s =>
     exfalso
     have e0 : ((a.add (0 * n)).add 0) = a := by simp [Addr.add]
     rw [e0] at c4
     unfold World.cell? at c4
     rw [hs] at c4
     revert c4
     cases w.heap[a.block]? with
     | none => simp
     | some o => cases o <;> simp
  obtain ⟨b, off, sp'⟩ := a
  simp at sp
  subst sp
  refine ⟨b, off, rfl, ?_, fun i r hi q u hq => ?_⟩
  ·cases rs with
   | nil => exact absurd rfl hne'
   | cons r0 rt =>
    obtain ⟨_, c2, c3⟩ := World.cells?_some (hr 0 r0 rfl)
    have c4 := c3 0 hn
    have : (f r0)[0]? = some ((f r0)[0]'(by omega)) := List.getElem?_eq_getElem _
    rw [this] at c4
    rcases Nat.lt_or_ge b w.heap.size with h' | h'
    ·exact h'
    ·exfalso
     have e0 : (((⟨b, off, none⟩ : Addr).add (0 * n)).add 0) = ⟨b, off, none⟩ := by simp [Addr.add]
     rw [e0] at c4
     simp [World.cell?, Array.getElem?_eq_none h'] at c4
  ·rw [List.getElem?_map] at hi
   cases hri : rs[i]? with
   | none => rw [hri] at hi; cases hi
   | some r' =>
    rw [hri] at hi
    simp at hi
    subst hi
    rw [← cell i r' hri q u hq]
    congr 1
    simp only [Addr.add]
    split <;> split <;> simp_all <;> omega
theorem row_int {H : Type} {enc : TypeId × Value → H} {w : World} {base : Nat} {spare : Nat → Bool} {held : Bool} (e : TypeId) (hu : Tryz.prog.underlying e = some (.int .i64)) (m : Nat) (cs : List Value) (y : DataW H × List MemPlace) (h : DataW.trod enc Tryz.prog w base spare held m e cs = some y) : ∃ r : Int, cs = [.int .i64 r] := by
 obtain ⟨n, rfl, _⟩ := DataW.trod_int hu h
 exact ⟨n, rfl⟩
theorem clo2 : Tryz.prog.cellsOf 2 = 1 := by kernel_rfl
theorem clo3 : Tryz.prog.cellsOf 3 = 1 := by kernel_rfl
theorem clo9 : Tryz.prog.cellsOf 9 = 1 := by kernel_rfl
theorem clo54 : Tryz.prog.cellsOf 136 = 5 := by kernel_rfl
theorem clo80 : Tryz.prog.cellsOf 64 = 12 := by kernel_rfl
theorem get_some {A : Type} {xs : List A} {n i : Nat} (h : xs.length = n) (hi : i < n) : ∃ y, xs[i]? = some y := ⟨_, List.getElem?_eq_getElem (by omega)⟩
set_option maxRecDepth 100000 in
theorem row_vec {H : Type} {enc : TypeId × Value → H} {w : World} {base : Nat} {spare : Nat → Bool} {held : Bool} {m : Nat} {a b c : Value} {y : DataW H × List MemPlace} (h : DataW.trod enc Tryz.prog w base spare held m 47 [a, b, c] = some y) : ∃ x y z : Int, a = .int .i64 x ∧ b = .int .i64 y ∧ c = .int .i64 z := by
 obtain ⟨xs, n, _, _, _, hl, hf⟩ := DataW.trod_array Tryz.underlying47 h
 obtain ⟨y0, g0⟩ := get_some hl (i := 0) (by omega)
 obtain ⟨y1, g1⟩ := get_some hl (i := 1) (by omega)
 obtain ⟨y2, g2⟩ := get_some hl (i := 2) (by omega)
 have h0 := hf 0 (by omega)
 have h1 := hf 1 (by omega)
 have h2 := hf 2 (by omega)
 rw [g0, clo2] at h0
 rw [g1, clo2] at h1
 rw [g2, clo2] at h2
 obtain ⟨x0, e0⟩ := row_int 2 Tryz.underlying2 _ _ _ h0
 obtain ⟨x1, e1⟩ := row_int 2 Tryz.underlying2 _ _ _ h1
 obtain ⟨x2, e2⟩ := row_int 2 Tryz.underlying2 _ _ _ h2
 simp at e0 e1 e2
 exact ⟨x0, x1, x2, e0, e1, e2⟩
set_option maxRecDepth 100000 in
theorem row_joint {H : Type} {enc : TypeId × Value → H} {w : World} {base : Nat} {spare : Nat → Bool} {held : Bool} (m : Nat) (cs : List Value) (y : DataW H × List MemPlace) (h : DataW.trod enc Tryz.prog w base spare held m 64 cs = some y) : ∃ r : JV, cs = r.vals := by
 obtain ⟨xs, n, _, _, hc, hl, hf⟩ := DataW.trod_struct Tryz.underlying64 h
 rw [clo80] at hc
 match cs, hc with
 | [c0, c1, c2, c3, c4, c5, c6, c7, c8, c9, c10, c11], _ =>
  have hl' : xs.length = 10 := hl
  obtain ⟨y0, g0⟩ := get_some hl' (i := 0) (by omega)
  have h0 := hf 0 _ rfl
  simp only [g0] at h0
  obtain ⟨y1, g1⟩ := get_some hl' (i := 1) (by omega)
  have h1 := hf 1 _ rfl
  simp only [g1] at h1
  obtain ⟨y2, g2⟩ := get_some hl' (i := 2) (by omega)
  have h2 := hf 2 _ rfl
  simp only [g2] at h2
  obtain ⟨y3, g3⟩ := get_some hl' (i := 3) (by omega)
  have h3 := hf 3 _ rfl
  simp only [g3] at h3
  obtain ⟨y4, g4⟩ := get_some hl' (i := 4) (by omega)
  have h4 := hf 4 _ rfl
  simp only [g4] at h4
  obtain ⟨y5, g5⟩ := get_some hl' (i := 5) (by omega)
  have h5 := hf 5 _ rfl
  simp only [g5] at h5
  obtain ⟨y6, g6⟩ := get_some hl' (i := 6) (by omega)
  have h6 := hf 6 _ rfl
  simp only [g6] at h6
  obtain ⟨y7, g7⟩ := get_some hl' (i := 7) (by omega)
  have h7 := hf 7 _ rfl
  simp only [g7] at h7
  obtain ⟨y8, g8⟩ := get_some hl' (i := 8) (by omega)
  have h8 := hf 8 _ rfl
  simp only [g8] at h8
  obtain ⟨y9, g9⟩ := get_some hl' (i := 9) (by omega)
  have h9 := hf 9 _ rfl
  simp only [g9] at h9
  obtain ⟨nm, e0, _⟩ := DataW.trod_string Tryz.underlying9 h0
  obtain ⟨x1, e1⟩ := row_int 3 Tryz.underlying3 _ _ _ h1
  obtain ⟨x2, e2⟩ := row_int 3 Tryz.underlying3 _ _ _ h2
  obtain ⟨o0, o1, o2, f0, f1, f2⟩ := row_vec h3
  obtain ⟨x4, e4⟩ := row_int 2 Tryz.underlying2 _ _ _ h4
  obtain ⟨x5, e5⟩ := row_int 2 Tryz.underlying2 _ _ _ h5
  obtain ⟨x6, e6⟩ := row_int 2 Tryz.underlying2 _ _ _ h6
  obtain ⟨x7, e7⟩ := row_int 2 Tryz.underlying2 _ _ _ h7
  obtain ⟨x8, e8⟩ := row_int 2 Tryz.underlying2 _ _ _ h8
  obtain ⟨x9, e9⟩ := row_int 2 Tryz.underlying2 _ _ _ h9
  simp [clo2, clo3, clo9] at e0 e1 e2 e4 e5 e6 e7 e8 e9
  subst f0 f1 f2 e0 e1 e2 e4 e5 e6 e7 e8 e9
  exact ⟨⟨nm, x1, x2, o0, o1, o2, x4, x5, x6, x7, x8, x9⟩, rfl⟩
set_option maxRecDepth 100000 in
theorem row_mass {H : Type} {enc : TypeId × Value → H} {w : World} {base : Nat} {spare : Nat → Bool} {held : Bool} (m : Nat) (cs : List Value) (y : DataW H × List MemPlace) (h : DataW.trod enc Tryz.prog w base spare held m 136 cs = some y) : ∃ r : MV, cs = r.vals := by
 obtain ⟨xs, n, _, _, hc, hl, hf⟩ := DataW.trod_struct Tryz.underlying136 h
 rw [clo54] at hc
 match cs, hc with
 | [c0, c1, c2, c3, c4], _ =>
  have hl' : xs.length = 3 := hl
  obtain ⟨y0, g0⟩ := get_some hl' (i := 0) (by omega)
  have h0 := hf 0 _ rfl
  simp only [g0] at h0
  obtain ⟨y1, g1⟩ := get_some hl' (i := 1) (by omega)
  have h1 := hf 1 _ rfl
  simp only [g1] at h1
  obtain ⟨y2, g2⟩ := get_some hl' (i := 2) (by omega)
  have h2 := hf 2 _ rfl
  simp only [g2] at h2
  obtain ⟨x0, e0⟩ := row_int 3 Tryz.underlying3 _ _ _ h0
  obtain ⟨x1, e1⟩ := row_int 2 Tryz.underlying2 _ _ _ h1
  obtain ⟨o0, o1, o2, f0, f1, f2⟩ := row_vec h2
  simp [clo2, clo3] at e0 e1
  subst f0 f1 f2 e0 e1
  exact ⟨⟨x0, x1, o0, o1, o2⟩, rfl⟩
/-- A slice of numbers that is read. -/
theorem open_nums {H : Type} {enc : TypeId × Value → H} {w : World} {base : Nat} {spare : Nat → Bool} {held : Bool} {t e : TypeId} {fuel : Nat} {v : Value} {x : DataW H × List MemPlace} (ht : Tryz.prog.underlying t = some (.slice e)) (hu : Tryz.prog.underlying e = some (.int .i64)) (hc : Tryz.prog.cellsOf e = 1)
  (h : DataW.trod enc Tryz.prog w base spare held fuel t [v] = some x) : ∃ (oa : Option Addr) (cap : Nat) (rs : List Int), v = .slice oa rs.length cap ∧ rs.length ≤ 9223372036854775807 ∧ Sl w oa 1 (pvals rs) :=
 open_rows (fun p : Int => [.int .i64 p]) ht hc (by omega) (row_int e hu) h
theorem laidOut : laidOutB Tryz.prog = true := by kernel_rfl
end Go.Proofs.En
end

section
/-
  The plain law of a division of 128 bits by 64 bits: the two digits, the estimate of a digit and its corrections.
-/
namespace Go.Proofs.Dv
/-- An estimate Q of the digit of (u, u1) by (y1, y0), with the rest R of its upper part. -/
structure Dig (y1 y0 u u1 Q R : Nat) : Prop where
 inv : Q * y1 + R = u
 le : (u * 4294967296 + u1) / (y1 * 4294967296 + y0) ≤ Q
theorem split_mul (Q y1 y0 : Nat) : Q * (y1 * 4294967296 + y0) = Q * y1 * 4294967296 + Q * y0 := by
 rw [Nat.mul_add, Nat.mul_assoc]
theorem digit_lt {y1 y0 u u1 : Nat} (hu : u < y1 * 4294967296 + y0) (h1 : u1 < 4294967296) : (u * 4294967296 + u1) / (y1 * 4294967296 + y0) < 4294967296 := by
 have hy : 0 < y1 * 4294967296 + y0 := by omega
 rw [Nat.div_lt_iff_lt_mul hy]
 have : (u + 1) * 4294967296 ≤ (y1 * 4294967296 + y0) * 4294967296 := Nat.mul_le_mul_right 4294967296 hu
 rw [Nat.mul_comm 4294967296]
 omega
theorem dig_start {y1 y0 u u1 : Nat} (hy : 0 < y1) (h1 : u1 < 4294967296) : Dig y1 y0 u u1 (u / y1) (u - u / y1 * y1) := by
 refine ⟨?_, ?_⟩
 ·have := Nat.div_mul_le_self u y1
  omega
 ·have e : u / y1 = (u * 4294967296 + u1) / (y1 * 4294967296) := by
   rw [Nat.mul_comm y1 4294967296, ← Nat.div_div_eq_div_mul]
   congr 1
   rw [Nat.mul_comm u 4294967296, Nat.mul_add_div (by omega : 4294967296 > 0), Nat.div_eq_of_lt h1]
   rfl
  rw [e]
  exact Nat.div_le_div_left (by omega) (Nat.mul_pos hy (by omega))
theorem dig_test {y1 y0 u u1 Q R : Nat} (h : Dig y1 y0 u u1 Q R) (hu : u < y1 * 4294967296 + y0) (h1 : u1 < 4294967296) (ht : 4294967296 ≤ Q ∨ 4294967296 * R + u1 < Q * y0) : (u * 4294967296 + u1) / (y1 * 4294967296 + y0) < Q := by
 rcases ht with ht | ht
 ·exact Nat.lt_of_lt_of_le (digit_lt hu h1) ht
 ·have hy : 0 < y1 * 4294967296 + y0 := by omega
  rw [Nat.div_lt_iff_lt_mul hy, split_mul, ← h.inv, Nat.add_mul]
  have : R * 4294967296 = 4294967296 * R := Nat.mul_comm _ _
  omega
theorem dig_next {y1 y0 u u1 Q R : Nat} (h : Dig y1 y0 u u1 Q R) (hu : u < y1 * 4294967296 + y0) (h1 : u1 < 4294967296) (ht : 4294967296 ≤ Q ∨ 4294967296 * R + u1 < Q * y0) : 0 < Q ∧ Dig y1 y0 u u1 (Q - 1) (R + y1) := by
 have hl := dig_test h hu h1 ht
 have hq : 0 < Q := Nat.lt_of_le_of_lt (Nat.zero_le _) hl
 refine ⟨hq, ⟨?_, Nat.le_sub_one_of_lt hl⟩⟩
 rw [← h.inv]
 obtain ⟨P, rfl⟩ : ∃ P, Q = P + 1 := ⟨Q - 1, by omega⟩
 rw [Nat.add_sub_cancel, Nat.succ_mul]
 omega
theorem dig_done {y1 y0 u u1 Q R : Nat} (h : Dig y1 y0 u u1 Q R) (hy : 0 < y1) (h2 : Q * y0 ≤ 4294967296 * R + u1) : Q = (u * 4294967296 + u1) / (y1 * 4294967296 + y0) := by
 refine Nat.le_antisymm ?_ h.le
 have hy' : 0 < y1 * 4294967296 + y0 := by omega
 rw [Nat.le_div_iff_mul_le hy', split_mul, ← h.inv, Nat.add_mul]
 have : R * 4294967296 = 4294967296 * R := Nat.mul_comm _ _
 omega
theorem dig_small {y1 y0 u u1 Q R : Nat} (h : Dig y1 y0 u u1 Q R) (hu : u < y1 * 4294967296 + y0) (h0 : y0 < 4294967296) (hr : 4294967296 ≤ R) : Q < 4294967296 := by
 have hi := h.inv
 apply Nat.lt_of_not_le
 intro hB
 have := Nat.mul_le_mul_right y1 hB
 rw [Nat.mul_comm 4294967296 y1] at this
 omega
theorem dig_break {y1 y0 u u1 Q R : Nat} (h : Dig y1 y0 u u1 Q R) (hy : 0 < y1) (hu : u < y1 * 4294967296 + y0) (h0 : y0 < 4294967296) (hr : 4294967296 ≤ R) : Q = (u * 4294967296 + u1) / (y1 * 4294967296 + y0) := by
 have hQ := dig_small h hu h0 hr
 refine dig_done h hy ?_
 have h1 : Q * y0 ≤ 4294967296 * y0 := Nat.mul_le_mul_right _ (Nat.le_of_lt hQ)
 have h2 : 4294967296 * y0 ≤ 4294967296 * R := Nat.mul_le_mul_left _ (by omega)
 omega
/-- Two digits. -/
theorem two_digits {y u u1 u0 : Nat} (hy : 0 < y) :
  ((u * 4294967296 + u1) * 4294967296 + u0) / y = (u * 4294967296 + u1) / y * 4294967296 + ((u * 4294967296 + u1) % y * 4294967296 + u0) / y ∧ ((u * 4294967296 + u1) * 4294967296 + u0) % y = ((u * 4294967296 + u1) % y * 4294967296 + u0) % y := by
 have e : (u * 4294967296 + u1) * 4294967296 + u0 = (u * 4294967296 + u1) % y * 4294967296 + u0 + y * ((u * 4294967296 + u1) / y * 4294967296) := by
  have h1 := Nat.div_add_mod (u * 4294967296 + u1) y
  have h2 : (u * 4294967296 + u1) * 4294967296 = (y * ((u * 4294967296 + u1) / y) + (u * 4294967296 + u1) % y) * 4294967296 := by rw [h1]
  rw [h2, Nat.add_mul, Nat.mul_assoc]
  omega
 rw [e, Nat.add_mul_div_left _ _ hy, Nat.add_mul_mod_self_left]
 exact ⟨Nat.add_comm _ _, rfl⟩
/-- Shifting both numbers. -/
theorem shifted (N y s : Nat) : N / y = (N * 2 ^ s) / (y * 2 ^ s) ∧ N % y = (N * 2 ^ s) % (y * 2 ^ s) / 2 ^ s := by
 have h : 0 < 2 ^ s := Nat.two_pow_pos s
 refine ⟨(Nat.mul_div_mul_right N y h).symm, ?_⟩
 rw [Nat.mul_mod_mul_right, Nat.mul_div_cancel _ h]
end Go.Proofs.Dv
end

section
/-
  Plain facts: the shift that a division of 128 bits by 64 bits begins with.
-/
namespace Go.Proofs.En
open Go.RowKit
theorem ofInt_cast (X : Int) (n : Nat) (h : X = (n : Int)) : BitVec.ofInt 64 X = BitVec.ofNat 64 n := by
 subst h
 apply BitVec.eq_of_toNat_eq
 simp [BitVec.toNat_ofInt]
theorem bitLen_bd (x : Nat) (h0 : x ≠ 0) (h : x < 18446744073709551616) : ∃ s, s ≤ 63 ∧ Lib.bitLen x + s = 64 ∧ 9223372036854775808 ≤ x * 2 ^ s ∧ x * 2 ^ s < 18446744073709551616 := by
 have key : ∀ n x : Nat, x ≠ 0 → x < 2 ^ n → n ≤ 64 → ∃ k, Lib.bitLen x = k + 1 ∧ 2 ^ k ≤ x ∧ x < 2 ^ (k + 1) ∧ k < n := by
  intro n
  induction n with
  | zero => intro x h0 h1; simp at h1; omega
  | succ n ih =>
   intro x h0 h1 h2
   have h64 : x < 2 ^ 64 := Nat.lt_of_lt_of_le h1 (Nat.pow_le_pow_right (by decide) h2)
   rw [Lib.bitLen_half x h0 h64]
   by_cases hx : x / 2 = 0
   ·rw [hx]
    have : Lib.bitLen 0 = 0 := by decide
    rw [this]
    exact ⟨0, rfl, by simp; omega, by simp; omega, by omega⟩
   ·obtain ⟨k, e1, e2, e3, e4⟩ := ih (x / 2) hx (by rw [Nat.pow_succ] at h1; omega) (by omega)
    refine ⟨k + 1, by omega, by rw [Nat.pow_succ]; omega, by rw [Nat.pow_succ]; omega, by omega⟩
 obtain ⟨k, e1, e2, e3, e4⟩ := key 64 x h0 h (Nat.le_refl _)
 refine ⟨63 - k, by omega, by omega, ?_, ?_⟩
 ·have := Nat.mul_le_mul_right (2 ^ (63 - k)) e2
  rw [← Nat.pow_add, show k + (63 - k) = 63 by omega] at this
  exact this
 ·have := Nat.mul_lt_mul_of_pos_right e3 (Nat.two_pow_pos (63 - k))
  rw [← Nat.pow_add, show k + 1 + (63 - k) = 64 by omega] at this
  exact this
theorem or_nat (a b s : Nat) (hs : s ≤ 63) (ha : a * 2 ^ s < 18446744073709551616) (hb : b < 2 ^ s) : bits .or .u64 ((a * 2 ^ s : Nat) : Int) (b : Nat) = ((a * 2 ^ s + b : Nat) : Int) := by
 have hb2 : b < 18446744073709551616 := Nat.lt_of_lt_of_le hb (Nat.pow_le_pow_right (n := 2) (by decide) (show s ≤ 64 by omega))
 have hsum : a * 2 ^ s + b < 18446744073709551616 := by
  have h1 : a * 2 ^ s + b < (a + 1) * 2 ^ s := by rw [Nat.add_mul]; omega
  have h2 : (a + 1) * 2 ^ s ≤ 18446744073709551616 := by
   have h3 : 18446744073709551616 = 2 ^ (64 - s) * 2 ^ s := by rw [← Nat.pow_add, show 64 - s + s = 64 by omega]
   rw [h3] at ha ⊢
   exact Nat.mul_le_mul_right _ (Nat.lt_of_mul_lt_mul_right ha)
  omega
 have e1 : BitVec.ofInt 64 ((a * 2 ^ s : Nat) : Int) = BitVec.ofNat 64 (2 ^ s * a) := ofInt_cast _ _ (by rw [Nat.mul_comm])
 have e2 : BitVec.ofInt 64 (b : Int) = BitVec.ofNat 64 b := ofInt_cast _ _ rfl
 have e3 : (BitVec.ofNat 64 (2 ^ s * a) ||| BitVec.ofNat 64 b).toNat = a * 2 ^ s + b := by
  rw [BitVec.toNat_or, BitVec.toNat_ofNat, BitVec.toNat_ofNat, Nat.mod_eq_of_lt (by rw [Nat.mul_comm]; exact ha), Nat.mod_eq_of_lt hb2, ← Nat.two_pow_add_eq_or_of_lt hb a, Nat.mul_comm]
 show IntKind.u64.wrap ((BitVec.ofInt 64 ((a * 2 ^ s : Nat) : Int) ||| BitVec.ofInt 64 (b : Int)).toNat : Int) = _
 rw [e1, e2, e3, IntKind.wrap_u64]
 omega
theorem and_lo (x : Int) (h1 : 0 ≤ x) (h2 : x ≤ 18446744073709551615) : bits .and .u64 x 4294967295 = x % 4294967296 := by
 obtain ⟨X, rfl⟩ := Int.eq_ofNat_of_zero_le h1
 have e1 : BitVec.ofInt 64 (X : Int) = BitVec.ofNat 64 X := ofInt_cast _ _ rfl
 have e2 : BitVec.ofInt 64 (4294967295 : Int) = BitVec.ofNat 64 4294967295 := ofInt_cast _ _ (by omega)
 have e3 : (BitVec.ofNat 64 X &&& BitVec.ofNat 64 4294967295).toNat = X % 4294967296 := by
  rw [BitVec.toNat_and, BitVec.toNat_ofNat, BitVec.toNat_ofNat, Nat.mod_eq_of_lt (by omega), Nat.mod_eq_of_lt (by omega)]
  exact Nat.and_two_pow_sub_one_eq_mod X 32
 show IntKind.u64.wrap ((BitVec.ofInt 64 (X : Int) &&& BitVec.ofInt 64 (4294967295 : Int)).toNat : Int) = _
 rw [e1, e2, e3, IntKind.wrap_u64]
 omega
theorem wrap_nat (n : Nat) (h : n < 18446744073709551616) : IntKind.u64.wrap (n : Int) = n := by rw [IntKind.wrap_u64]; omega
/-- What the division works with. -/
structure Norm (hi lo y s Y U A : Nat) : Prop where
 sle : s ≤ 63
 len : (64 - (Lib.bitLen y : Int)) = s
 hY : IntKind.u64.wrap ((y : Int) * 2 ^ s) = (Y : Nat)
 Y1 : 9223372036854775808 ≤ Y
 Y2 : Y < 18446744073709551616
 hU : bits .or .u64 (IntKind.u64.wrap ((hi : Int) * 2 ^ s)) ((lo : Int) / 2 ^ (64 - s)) = (U : Nat)
 lt : U < Y
 hA : IntKind.u64.wrap ((lo : Int) * 2 ^ s) = (A : Nat)
 A2 : A < 18446744073709551616
 eY : Y = y * 2 ^ s
 eN : U * 18446744073709551616 + A = (hi * 18446744073709551616 + lo) * 2 ^ s
theorem norm_of (hi lo y : Nat) (h1 : hi < y) (hy : y < 18446744073709551616) (hl : lo < 18446744073709551616) : ∃ s Y U A, Norm hi lo y s Y U A := by
 obtain ⟨s, hs, hlen, b1, b2⟩ := bitLen_bd y (by omega) hy
 have hP : 2 ^ (64 - s) * 2 ^ s = 18446744073709551616 := by rw [← Nat.pow_add, show 64 - s + s = 64 by omega]
 have hS : 0 < 2 ^ s := Nat.two_pow_pos s
 have hT : 0 < 2 ^ (64 - s) := Nat.two_pow_pos _
 have hhi : hi * 2 ^ s < 18446744073709551616 := Nat.lt_of_le_of_lt (Nat.mul_le_mul_right _ (Nat.le_of_lt h1)) b2
 have hlo : lo / 2 ^ (64 - s) < 2 ^ s := by rw [Nat.div_lt_iff_lt_mul hT, Nat.mul_comm, hP]; exact hl
 have c2 : ((2 : Int) ^ s) = ((2 ^ s : Nat) : Int) := by norm_cast
 have c3 : ((2 : Int) ^ (64 - s)) = ((2 ^ (64 - s) : Nat) : Int) := by norm_cast
 have eN : (hi * 2 ^ s + lo / 2 ^ (64 - s)) * 18446744073709551616 + lo * 2 ^ s % 18446744073709551616 = (hi * 18446744073709551616 + lo) * 2 ^ s := by
  have hd := Nat.div_add_mod lo (2 ^ (64 - s))
  have hm : lo * 2 ^ s % 18446744073709551616 = lo % 2 ^ (64 - s) * 2 ^ s := by rw [← hP, Nat.mul_mod_mul_right]
  have hq : lo * 2 ^ s = lo / 2 ^ (64 - s) * 18446744073709551616 + lo % 2 ^ (64 - s) * 2 ^ s := by
   conv => lhs; rw [← hd]
   rw [Nat.add_mul, ← hP, Nat.mul_comm (2 ^ (64 - s)) (lo / 2 ^ (64 - s)), Nat.mul_assoc]
  rw [hm, Nat.add_mul, Nat.add_mul, hq, Nat.mul_right_comm hi]
  omega
 have hUY : hi * 2 ^ s + lo / 2 ^ (64 - s) < y * 2 ^ s := by
  have h3 : hi * 18446744073709551616 + lo < y * 18446744073709551616 := by
   have := Nat.mul_le_mul_right 18446744073709551616 (show hi + 1 ≤ y by omega)
   omega
  have h4 := Nat.mul_lt_mul_of_pos_right h3 hS
  rw [← eN, Nat.mul_right_comm] at h4
  apply Nat.lt_of_not_le
  intro h5
  have h6 := Nat.mul_le_mul_right 18446744073709551616 h5
  omega
 refine ⟨s, y * 2 ^ s, hi * 2 ^ s + lo / 2 ^ (64 - s), lo * 2 ^ s % 18446744073709551616, hs, by omega, ?_, b1, b2, ?_, hUY, ?_, Nat.mod_lt _ (by decide), rfl, eN⟩
 ·rw [c2, ← Int.natCast_mul]; exact wrap_nat _ b2
 ·rw [c2, c3, ← Int.natCast_mul, wrap_nat _ hhi, ← Int.natCast_ediv]; exact or_nat hi _ s hs hhi hlo
 ·rw [c2, ← Int.natCast_mul, IntKind.wrap_u64]; omega
end Go.Proofs.En
end

