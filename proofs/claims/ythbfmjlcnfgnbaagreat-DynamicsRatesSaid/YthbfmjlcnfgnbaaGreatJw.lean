/-
  Walks: the maker's Config.
-/
import Derived.Test.YthbfmjlcnfgnbaaGreatJv
namespace Go.Proofs.En
open Go.RowKit

def pflat (ps : List Int) : List Value := ps.map fun p => .int .i64 p
theorem pvals_flat (ps : List Int) : (pvals ps).flatten = pflat ps := by
  induction ps with
  | nil => rfl
  | cons a t ih => simp only [pvals, pflat, List.map_cons, List.flatten_cons] at ih ⊢; rw [ih]; rfl
theorem pvals_len (ps : List Int) : (pvals ps).length = ps.length := by simp [pvals]

/-- Numbers within the limits of the first joints. -/
def inTo (js : List JV) (ps : List Int) : Prop := ∀ (k : Nat) (j : JV) (p : Int), js[k]? = some j → ps[k]? = some p → j.lo ≤ p ∧ p ≤ j.hi
theorem inTo_snoc {js : List JV} {ps : List Int} {j : JV} {p : Int} (h : inTo js ps) (hj : js[ps.length]? = some j) (hp : j.lo ≤ p ∧ p ≤ j.hi) : inTo js (ps ++ [p]) := by
  intro k j' p' h1 h2
  rcases Nat.lt_or_ge k ps.length with hlt | hge
  · rw [List.getElem?_append_left hlt] at h2
    exact h k j' p' h1 h2
  · rw [List.getElem?_append_right hge] at h2
    have : k = ps.length := by
      rcases Nat.eq_or_lt_of_le hge with h | h
      · exact h.symm
      · rw [List.getElem?_eq_none (by simp; omega)] at h2; cases h2
    subst this
    simp at h2
    subst h2
    rw [hj] at h1
    injection h1 with h1
    subst h1
    exact hp

/-- The world inside the maker's Config; Wb: behind the source's making. -/
structure CI (w Wb : World) (n2 nS : Nat) (rv : List Value) (os : Option Addr) (cap : Nat) (xs : List Int) (js : List JV) (ps : List Int) (v : Value) (W : World) : Prop where
  bel : Below w.heap.size w W
  r2 : Row W n2 rv
  src : Src W nS os cap xs
  own : W.ownsRow Wb.heap.size 2 1 v ps.length (pflat ps)
  hb : Wb.heap.size ≤ W.heap.size
  i0 : Sl Wb os 1 (pvals xs)
  h2 : w.heap.size ≤ n2
  h3 : n2 < nS
  h4 : nS < Wb.heap.size
  inn : inTo js ps
theorem CI.call {w Wb W W' : World} {n2 nS : Nat} {rv : List Value} {os : Option Addr} {cap : Nat} {xs : List Int} {js : List JV} {ps : List Int} {v : Value} (h : CI w Wb n2 nS rv os cap xs js ps v W) (hg : W.grownBy W' (some nS)) (hS : Src W' nS os cap xs) : CI w Wb n2 nS rv os cap xs js ps v W' := by
  have h2 := h.h2; have h3 := h.h3; have h4 := h.h4
  have ne : ∀ k, k ≠ nS → k < W.heap.size → W'.heap[k]? = W.heap[k]? := fun k hk hl => hg.block k hl (fun e => hk (by injection e))
  refine ⟨⟨hg.os.trans h.bel.os, hg.tape.trans h.bel.tape, hg.output.trans h.bel.output, Nat.le_trans h.bel.size hg.size, fun k hk => (ne k (by omega) (Nat.lt_of_lt_of_le hk h.bel.size)).trans (h.bel.block k hk)⟩, ?_, hS, own_blk h.own fun g _ hl hb => ne g (by omega) hl, Nat.le_trans h.hb hg.size, h.i0, h2, h3, h4, h.inn⟩
  have e := ne n2 (by omega) h.r2.lt
  refine ⟨fun j v hj => ?_, Nat.lt_of_lt_of_le h.r2.lt hg.size⟩
  rw [← h.r2.c j v hj]
  simp [World.cell?, e]
theorem CI.keep {w Wb W W' : World} {n2 nS : Nat} {rv : List Value} {os : Option Addr} {cap : Nat} {xs : List Int} {js : List JV} {ps : List Int} {v : Value} (h : CI w Wb n2 nS rv os cap xs js ps v W) (hb : Below W.heap.size W W') : CI w Wb n2 nS rv os cap xs js ps v W' :=
  ⟨below_call h.bel hb, h.r2.keep hb, h.src.keepB hb, own_keep h.own hb, Nat.le_trans h.hb hb.size, h.i0, h.h2, h.h3, h.h4, h.inn⟩
theorem CI.app {w Wb W W1 : World} {n2 nS : Nat} {rv : List Value} {os : Option Addr} {cap : Nat} {xs : List Int} {js : List JV} {ps : List Int} {v v' : Value} (h : CI w Wb n2 nS rv os cap xs js ps v W) {j : JV} {p : Int} (hj : js[ps.length]? = some j) (hp : j.lo ≤ p ∧ p ≤ j.hi)
    (ho : W1.ownsRow Wb.heap.size 2 1 v' (ps.length + 1) (pflat ps ++ [.int .i64 p])) (hg : W.grownBy W1 v.ownBlock) : CI w Wb n2 nS rv os cap xs js (ps ++ [p]) v' W1 := by
  have h2 := h.h2; have h3 := h.h3; have h4 := h.h4
  have B := grown_below h.own hg h.hb
  refine ⟨h.bel.trans (B.mono (by omega)), h.r2.low (by omega) B, h.src.low h.i0 h4 B, ?_, Nat.le_trans h.hb hg.size, h.i0, h2, h3, h4, inTo_snoc h.inn hj hp⟩
  rw [List.length_append, pflat, List.map_append]
  exact ho
theorem CI.done {w Wb W : World} {n2 nS : Nat} {rv : List Value} {os : Option Addr} {cap : Nat} {xs : List Int} {js : List JV} {ps : List Int} {v : Value} (h : CI w Wb n2 nS rv os cap xs js ps v W) : ∃ oa c, v = .slice oa ps.length c ∧ Sl W oa 1 (pvals ps) := by
  obtain ⟨oa, c, e, s⟩ := own_rows (rows := pvals ps) (n := 1) (by intro r hr; simp [pvals] at hr; obtain ⟨j, _, rfl⟩ := hr; rfl) (by rw [pvals_len, pvals_flat]; exact h.own)
  rw [pvals_len] at e
  exact ⟨oa, c, e, s⟩

/-- What Config answers. -/
def CfgP (js : List JV) (w : World) (e : Ending) (W' : World) : Prop := ∃ (ps : List Int) (oa : Option Addr) (c : Nat), e = .returned (.slice oa ps.length c) ∧ ps.length = js.length ∧ inTo js ps ∧ Sl W' oa 1 (pvals ps) ∧ Below w.heap.size w W'

set_option maxRecDepth 100000 in
set_option maxHeartbeats 4000000 in
theorem config_any (oa om os : Option Addr) (cj cm cap : Nat) (js : List JV) (nm : Nat) (xs : List Int) (w : World) (hj : js.length ≤ 100) (hbd : ∀ (k : Nat) (j : JV), js[k]? = some j → -1000000000 ≤ j.lo ∧ j.lo ≤ j.hi ∧ j.hi ≤ 1000000000) (hJ : Sl w oa 12 (js.map JV.vals)) (hI : Sl w os 1 (pvals xs)) (hl : xs.length ≤ 9223372036854775807) :
    Calls Tryz.prog 18 #[.agg #[.slice oa js.length cj, .slice om nm cm], .slice os xs.length cap] w (CfgP js w) := by
  go_enter Tryz.func18, Tryz.ntmps18
  go_wp2_with fail
  have hB0 : Below w.heap.size w (w.alloc (.cells #[.slice oa js.length cj, .slice om nm cm] 35)) := (Below.refl _ _).alloc (Nat.le_refl _) _
  have r0 := Row.new w [.slice oa js.length cj, .slice om nm cm] 35
  have hI0 := hI.keep hB0
  generalize (w.alloc (.cells #[.slice oa js.length cj, .slice om nm cm] 35)) = W0 at hB0 r0 hI0 ⊢
  generalize hn : w.heap.size = n2 at r0 ⊢
  have HN := Lib.hid hn
  clear hn
  refine (from_any os cap xs.length W0).mono ?_
  rintro e W1 ⟨rfl, rfl⟩
  have hS := src_new W0 os cap xs hI0 hl
  have hB1 : Below W0.heap.size W0 (W0.alloc (.cells #[.slice os xs.length cap, .int .i64 0] 120)) := (Below.refl _ _).alloc (Nat.le_refl _) _
  have hC : CI w (W0.alloc (.cells #[.slice os xs.length cap, .int .i64 0] 120)) n2 W0.heap.size [.slice oa js.length cj, .slice om nm cm] os cap xs js [] (.slice none 0 0) (W0.alloc (.cells #[.slice os xs.length cap, .int .i64 0] 120)) :=
    ⟨below_call hB0 hB1, r0.keep hB1, hS, World.ownsRow_nil _ _ _ _, Nat.le_refl _, hI0.keep hB1, Nat.le_of_eq HN.out, r0.lt, src_lt hS, fun k j p _ h => by simp at h⟩
  clear hB0 hB1 hS r0 hI0 HN hI
  generalize (W0.alloc (.cells #[.slice os xs.length cap, .int .i64 0] 120)) = W1 at hC ⊢
  generalize W0.heap.size = nS at hC ⊢
  have HBD := Lib.hid hbd
  clear hbd
  go_wp2_with fail
  go_loopw [6, 7] (fun v i W => ∃ ps : List Int, ps.length ≤ js.length ∧ i = .int .i64 (ps.length : Nat) ∧ CI w W1 n2 nS [.slice oa js.length cj, .slice om nm cm] os cap xs js ps v W) (fun _ i _ => js.length - (intOf i).toNat)
  case atStart => exact ⟨[], by simp, rfl, hC⟩
  case round =>
    clear hC
    obtain ⟨ps, hk, rfl, hC⟩ := hrel
    have s0 : wr.cell? ⟨n2, 0, none⟩ = some (.slice oa js.length cj) := hC.r2.c 0 _ rfl
    have l2 := hC.r2.lt
    by_cases hlt : ps.length < js.length
    · obtain ⟨j, hj'⟩ : ∃ j, js[ps.length]? = some j := ⟨_, List.getElem?_eq_getElem hlt⟩
      obtain ⟨b, off, rfl, hJr⟩ := (hJ.keep hC.bel) (jvals_ne hlt)
      have x6 : wr.cell? ⟨b, off + ps.length * 12 + 6, none⟩ = some (.int .i64 j.lo) := hJr.c ps.length _ (rows_get hj') 6 _ rfl
      have x7 : wr.cell? ⟨b, off + ps.length * 12 + 7, none⟩ = some (.int .i64 j.hi) := hJr.c ps.length _ (rows_get hj') 7 _ rfl
      have lb := hJr.lt
      have hbj := HBD.out _ _ hj'
      have HJ' := Lib.hid hj'
      clear hj' hJr
      go_wp2_with fail
      go_quiet (fail)
      replace hC := hC.keep (below_drew wr nq)
      clear s0 l2 x6 x7 lb
      generalize wr.drewN nq = V at hC ⊢
      go_wp2_with fail
      refine (next_any _ nS os cap xs 6 hC.src (by omega) (by omega)).mono ?_
      rintro e W2 ⟨q, q1, q2, rfl, hg2, hS2⟩
      replace hC := hC.call hg2 hS2
      clear hg2 hS2
      obtain ⟨i0, hi, hz0, hz1, hz2⟩ := info_parts info2
      by_cases h0 : q = 0
      · have h0' : (q == 0) = true := by rw [h0]; rfl
        clear h0
        have HC2 := Lib.hid (hC.keep (W' := W2.alloc (.cells #[.int .i64 j.lo] 2)) ((Below.refl _ _).alloc (Nat.le_refl _) _))
        go_wp2_with (at_builtin; refine wpList_append_own _ rfl _ _ 37 rfl W1.heap.size 2 i0 (.int .i64 0) 1 8 under37 hi hz0 hz1 hz2 rfl (by decide) _ _ _ rfl HC2.out.own ⟨W2.heap.size, 0, none⟩ 1 1 [.int .i64 j.lo] rfl rfl ?c1 ?c2 ?c3 ?c4 ?c5 ?_)
        case c1 => exact new_cells _ _ _
        case c2 => intro u hu; simp at hu; subst hu; rfl
        case c3 => unfold maxLen; omega
        case c4 => omega
        case c5 => exact HC2.out.hb
        intro v' w' hown' hgrow _
        have HN := Lib.hid (HC2.out.app HJ'.out (p := j.lo) (by omega) hown' hgrow)
        clear hown' hgrow HC2 hC hi hz0 hz1 hz2
        go_wp2
        go_roundw
        case rel => exact ⟨ps ++ [j.lo], by simp; omega, by simp, HN.out⟩
        case measure => simp [intOf]; omega
      · have h0' : (q == 0) = false := beq_eq_false_iff_ne.2 h0
        by_cases h1 : q = 1
        · have h1' : (q == 1) = true := by rw [h1]; rfl
          clear h1 h0
          have HC2 := Lib.hid (hC.keep (W' := W2.alloc (.cells #[.int .i64 j.hi] 2)) ((Below.refl _ _).alloc (Nat.le_refl _) _))
          go_wp2_with (at_builtin; refine wpList_append_own _ rfl _ _ 37 rfl W1.heap.size 2 i0 (.int .i64 0) 1 8 under37 hi hz0 hz1 hz2 rfl (by decide) _ _ _ rfl HC2.out.own ⟨W2.heap.size, 0, none⟩ 1 1 [.int .i64 j.hi] rfl rfl ?c1 ?c2 ?c3 ?c4 ?c5 ?_)
          case c1 => exact new_cells _ _ _
          case c2 => intro u hu; simp at hu; subst hu; rfl
          case c3 => unfold maxLen; omega
          case c4 => omega
          case c5 => exact HC2.out.hb
          intro v' w' hown' hgrow _
          have HN := Lib.hid (HC2.out.app HJ'.out (p := j.hi) (by omega) hown' hgrow)
          clear hown' hgrow HC2 hC hi hz0 hz1 hz2
          go_wp2
          go_roundw
          case rel => exact ⟨ps ++ [j.hi], by simp; omega, by simp, HN.out⟩
          case measure => simp [intOf]; omega
        · have h1' : (q == 1) = false := beq_eq_false_iff_ne.2 h1
          go_wp2_with fail
          refine (next_any _ nS os cap xs _ hC.src (by omega) (by omega)).mono ?_
          rintro e W3 ⟨z, z1, z2, rfl, hg3, hS3⟩
          replace hC := hC.call hg3 hS3
          clear hg3 hS3
          have HC2 := Lib.hid (hC.keep (W' := W3.alloc (.cells #[.int .i64 (j.lo + z)] 2)) ((Below.refl _ _).alloc (Nat.le_refl _) _))
          go_wp2_with (at_builtin; refine wpList_append_own _ rfl _ _ 37 rfl W1.heap.size 2 i0 (.int .i64 0) 1 8 under37 hi hz0 hz1 hz2 rfl (by decide) _ _ _ rfl HC2.out.own ⟨W3.heap.size, 0, none⟩ 1 1 [.int .i64 (j.lo + z)] rfl rfl ?c1 ?c2 ?c3 ?c4 ?c5 ?_)
          case c1 => exact new_cells _ _ _
          case c2 => intro u hu; simp at hu; subst hu; rfl
          case c3 => unfold maxLen; omega
          case c4 => omega
          case c5 => exact HC2.out.hb
          intro v' w' hown' hgrow _
          have HN := Lib.hid (HC2.out.app HJ'.out (p := j.lo + z) (by omega) hown' hgrow)
          clear hown' hgrow HC2 hC hi hz0 hz1 hz2
          go_wp2
          go_roundw
          case rel => exact ⟨ps ++ [j.lo + z], by simp; omega, by simp, HN.out⟩
          case measure => simp [intOf]; omega
    · have hke : ps.length = js.length := by omega
      obtain ⟨oa', c', rfl, hs⟩ := hC.done
      have HS := Lib.hid hs
      have HC := Lib.hid hC
      have HK := Lib.hid hke
      clear hC hs hke
      go_wp2
      go_ret
      exact ⟨ps, oa', c', rfl, HK.out, HC.out.inn, HS.out, HC.out.bel⟩
end Go.Proofs.En
