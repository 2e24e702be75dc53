/-
  Texts put together: Bc Bd Be Bf Bg Bh.
-/
import Derived.Test.YteeeogdfnpdpcaaGreatZNeighborFinds12
import Derived.Sort.Grow
import Derived.BigRegion
set_option linter.unusedVariables false
section
/-
  The maker's Config.
-/
namespace Go.Proofs.Ng
open Go.RowKit
def inTo (js : List JV) (ps : List Int) : Prop := ∀ (k : Nat) (j : JV) (p : Int), js[k]? = some j → ps[k]? = some p → j.lo ≤ p ∧ p ≤ j.hi
theorem inTo_snoc {js : List JV} {ps : List Int} {j : JV} {p : Int} (h : inTo js ps) (hj : js[ps.length]? = some j) (hp : j.lo ≤ p ∧ p ≤ j.hi) : inTo js (ps ++ [p]) := by
  intro k j' p' h1 h2
  rcases Nat.lt_or_ge k ps.length with hlt | hge
  · rw [List.getElem?_append_left hlt] at h2
    exact h k j' p' h1 h2
  · rw [List.getElem?_append_right hge] at h2
    have : k = ps.length := by
      rcases Nat.eq_or_lt_of_le hge with h | h
      · exact h.symm
      · rw [List.getElem?_eq_none (by simp; omega)] at h2; cases h2
    subst this
    simp at h2
    subst h2
    rw [hj] at h1
    injection h1 with h1
    subst h1
    exact hp

/-- The world inside the maker's Config; Wb: behind the source's making. -/
structure CI (w Wb : World) (n2 nS : Nat) (rv : List Value) (os : Option Addr) (cap : Nat) (xs : List Int) (js : List JV) (ps : List Int) (v : Value) (W : World) : Prop where
  bel : Below w.heap.size w W
  r2 : Row W n2 rv
  src : Src W nS os cap xs
  own : W.ownsRow Wb.heap.size 2 1 v ps.length (pflat ps)
  hb : Wb.heap.size ≤ W.heap.size
  i0 : Sl Wb os 1 (pvals xs)
  h2 : w.heap.size ≤ n2
  h3 : n2 < nS
  h4 : nS < Wb.heap.size
  inn : inTo js ps
theorem CI.call {w Wb W W' : World} {n2 nS : Nat} {rv : List Value} {os : Option Addr} {cap : Nat} {xs : List Int} {js : List JV} {ps : List Int} {v : Value} (h : CI w Wb n2 nS rv os cap xs js ps v W) (hg : W.grownBy W' (some nS)) (hS : Src W' nS os cap xs) : CI w Wb n2 nS rv os cap xs js ps v W' := by
  have h2 := h.h2; have h3 := h.h3; have h4 := h.h4
  have ne : ∀ k, k ≠ nS → k < W.heap.size → W'.heap[k]? = W.heap[k]? := fun k hk hl => hg.block k hl (fun e => hk (by injection e))
  refine ⟨⟨hg.os.trans h.bel.os, hg.tape.trans h.bel.tape, hg.output.trans h.bel.output, Nat.le_trans h.bel.size hg.size, fun k hk => (ne k (by omega) (Nat.lt_of_lt_of_le hk h.bel.size)).trans (h.bel.block k hk)⟩, ?_, hS, own_blk h.own fun g _ hl hb => ne g (by omega) hl, Nat.le_trans h.hb hg.size, h.i0, h2, h3, h4, h.inn⟩
  have e := ne n2 (by omega) h.r2.lt
  refine ⟨fun j v hj => ?_, Nat.lt_of_lt_of_le h.r2.lt hg.size⟩
  rw [← h.r2.c j v hj]
  simp [World.cell?, e]
theorem CI.keep {w Wb W W' : World} {n2 nS : Nat} {rv : List Value} {os : Option Addr} {cap : Nat} {xs : List Int} {js : List JV} {ps : List Int} {v : Value} (h : CI w Wb n2 nS rv os cap xs js ps v W) (hb : Below W.heap.size W W') : CI w Wb n2 nS rv os cap xs js ps v W' :=
  ⟨below_call h.bel hb, h.r2.keep hb, h.src.keepB hb, own_keep h.own hb, Nat.le_trans h.hb hb.size, h.i0, h.h2, h.h3, h.h4, h.inn⟩
theorem CI.app {w Wb W W1 : World} {n2 nS : Nat} {rv : List Value} {os : Option Addr} {cap : Nat} {xs : List Int} {js : List JV} {ps : List Int} {v v' : Value} (h : CI w Wb n2 nS rv os cap xs js ps v W) {j : JV} {p : Int} (hj : js[ps.length]? = some j) (hp : j.lo ≤ p ∧ p ≤ j.hi)
    (ho : W1.ownsRow Wb.heap.size 2 1 v' (ps.length + 1) (pflat ps ++ [.int .i64 p])) (hg : W.grownBy W1 v.ownBlock) : CI w Wb n2 nS rv os cap xs js (ps ++ [p]) v' W1 := by
  have h2 := h.h2; have h3 := h.h3; have h4 := h.h4
  have B := grown_below h.own hg h.hb
  refine ⟨h.bel.trans (B.mono (by omega)), h.r2.low (by omega) B, h.src.low h.i0 h4 B, ?_, Nat.le_trans h.hb hg.size, h.i0, h2, h3, h4, inTo_snoc h.inn hj hp⟩
  rw [List.length_append, pflat, List.map_append]
  exact ho
theorem CI.done {w Wb W : World} {n2 nS : Nat} {rv : List Value} {os : Option Addr} {cap : Nat} {xs : List Int} {js : List JV} {ps : List Int} {v : Value} (h : CI w Wb n2 nS rv os cap xs js ps v W) : ∃ oa c, v = .slice oa ps.length c ∧ Sl W oa 1 (pvals ps) := by
  obtain ⟨oa, c, e, s⟩ := own_rows (rows := pvals ps) (n := 1) (by intro r hr; simp [pvals] at hr; obtain ⟨j, _, rfl⟩ := hr; rfl) (by rw [pvals_len, pvals_flat]; exact h.own)
  rw [pvals_len] at e
  exact ⟨oa, c, e, s⟩

/-- What Config answers. -/
def CfgP (js : List JV) (w : World) (e : Ending) (W' : World) : Prop := ∃ (ps : List Int) (oa : Option Addr) (c : Nat), e = .returned (.slice oa ps.length c) ∧ ps.length = js.length ∧ inTo js ps ∧ Sl W' oa 1 (pvals ps) ∧ Below w.heap.size w W'
def CfgN (js : List JV) (w : World) (e : Ending) (W' : World) : Prop := ∃ (ps : List Int) (oa : Option Addr) (c : Nat), e = .returned (.slice oa ps.length c) ∧ ps.length = js.length ∧ inTo js ps ∧ Sl W' oa 1 (pvals ps) ∧ Below w.heap.size w W' ∧ ∀ a, oa = some a → w.heap.size ≤ a.block
set_option maxRecDepth 100000 in
set_option maxHeartbeats 4000000 in
theorem config_new (oa om os : Option Addr) (cj cm cap : Nat) (js : List JV) (nm : Nat) (xs : List Int) (w : World) (hj : js.length ≤ 100) (hbd : ∀ (k : Nat) (j : JV), js[k]? = some j → -1000000000 ≤ j.lo ∧ j.lo ≤ j.hi ∧ j.hi ≤ 1000000000) (hJ : Sl w oa 12 (js.map JV.vals)) (hI : Sl w os 1 (pvals xs)) (hl : xs.length ≤ 9223372036854775807) :
    Calls Tryz.prog 22 #[.agg #[.slice oa js.length cj, .slice om nm cm], .slice os xs.length cap] w (CfgN js w) := by
  go_enter Tryz.func22, Tryz.ntmps22
  go_wp2_with fail
  have hB0 : Below w.heap.size w (w.alloc (.cells #[.slice oa js.length cj, .slice om nm cm] 25)) := (Below.refl _ _).alloc (Nat.le_refl _) _
  have r0 := Row.new w [.slice oa js.length cj, .slice om nm cm] 25
  have hI0 := hI.keep hB0
  generalize (w.alloc (.cells #[.slice oa js.length cj, .slice om nm cm] 25)) = W0 at hB0 r0 hI0 ⊢
  generalize hn : w.heap.size = n2 at r0 ⊢
  have HN := Lib.hid hn
  clear hn
  refine (from_any os cap xs.length W0).mono ?_
  rintro e W1 ⟨rfl, rfl⟩
  have hS := src_new W0 os cap xs hI0 hl
  have hB1 : Below W0.heap.size W0 (W0.alloc (.cells #[.slice os xs.length cap, .int .i64 0] 107)) := (Below.refl _ _).alloc (Nat.le_refl _) _
  have hC : CI w (W0.alloc (.cells #[.slice os xs.length cap, .int .i64 0] 107)) n2 W0.heap.size [.slice oa js.length cj, .slice om nm cm] os cap xs js [] (.slice none 0 0) (W0.alloc (.cells #[.slice os xs.length cap, .int .i64 0] 107)) :=
    ⟨below_call hB0 hB1, r0.keep hB1, hS, World.ownsRow_nil _ _ _ _, Nat.le_refl _, hI0.keep hB1, Nat.le_of_eq HN.out, r0.lt, src_lt hS, fun k j p _ h => by simp at h⟩
  clear hB0 hB1 hS r0 hI0 HN hI
  generalize (W0.alloc (.cells #[.slice os xs.length cap, .int .i64 0] 107)) = W1 at hC ⊢
  generalize W0.heap.size = nS at hC ⊢
  have HBD := Lib.hid hbd
  clear hbd
  go_wp2_with fail
  go_loopw [6, 7] (fun v i W => ∃ ps : List Int, ps.length ≤ js.length ∧ i = .int .i64 (ps.length : Nat) ∧ CI w W1 n2 nS [.slice oa js.length cj, .slice om nm cm] os cap xs js ps v W) (fun _ i _ => js.length - (intOf i).toNat)
  case atStart => exact ⟨[], by simp, rfl, hC⟩
  case round =>
    clear hC
    obtain ⟨ps, hk, rfl, hC⟩ := hrel
    have s0 : wr.cell? ⟨n2, 0, none⟩ = some (.slice oa js.length cj) := hC.r2.c 0 _ rfl
    have l2 := hC.r2.lt
    by_cases hlt : ps.length < js.length
    · obtain ⟨j, hj'⟩ : ∃ j, js[ps.length]? = some j := ⟨_, List.getElem?_eq_getElem hlt⟩
      obtain ⟨b, off, rfl, hJr⟩ := (hJ.keep hC.bel) (jvals_ne hlt)
      have x6 : wr.cell? ⟨b, off + ps.length * 12 + 6, none⟩ = some (.int .i64 j.lo) := hJr.c ps.length _ (rows_get hj') 6 _ rfl
      have x7 : wr.cell? ⟨b, off + ps.length * 12 + 7, none⟩ = some (.int .i64 j.hi) := hJr.c ps.length _ (rows_get hj') 7 _ rfl
      have lb := hJr.lt
      have hbj := HBD.out _ _ hj'
      have HJ' := Lib.hid hj'
      clear hj' hJr
      go_wp2_with fail
      go_quiet (fail)
      replace hC := hC.keep (below_drew wr nq)
      clear s0 l2 x6 x7 lb
      generalize wr.drewN nq = V at hC ⊢
      go_wp2_with fail
      refine (next_any _ nS os cap xs 6 hC.src (by omega) (by omega)).mono ?_
      rintro e W2 ⟨q, q1, q2, rfl, hg2, hS2⟩
      replace hC := hC.call hg2 hS2
      clear hg2 hS2
      obtain ⟨i0, hi, hz0, hz1, hz2⟩ := info_parts info2
      by_cases h0 : q = 0
      · have h0' : (q == 0) = true := by rw [h0]; rfl
        clear h0
        have HC2 := Lib.hid (hC.keep (W' := W2.alloc (.cells #[.int .i64 j.lo] 2)) ((Below.refl _ _).alloc (Nat.le_refl _) _))
        go_wp2_with (at_builtin; refine wpList_append_own _ rfl _ _ 28 rfl W1.heap.size 2 i0 (.int .i64 0) 1 8 under31 hi hz0 hz1 hz2 rfl (by decide) _ _ _ rfl HC2.out.own ⟨W2.heap.size, 0, none⟩ 1 1 [.int .i64 j.lo] rfl rfl ?c1 ?c2 ?c3 ?c4 ?c5 ?_)
        case c1 => exact new_cells _ _ _
        case c2 => intro u hu; simp at hu; subst hu; rfl
        case c3 => unfold maxLen; omega
        case c4 => omega
        case c5 => exact HC2.out.hb
        intro v' w' hown' hgrow _
        have HN := Lib.hid (HC2.out.app HJ'.out (p := j.lo) (by omega) hown' hgrow)
        clear hown' hgrow HC2 hC hi hz0 hz1 hz2
        go_wp2
        go_roundw
        case rel => exact ⟨ps ++ [j.lo], by simp; omega, by simp, HN.out⟩
        case measure => simp [intOf]; omega
      · have h0' : (q == 0) = false := beq_eq_false_iff_ne.2 h0
        by_cases h1 : q = 1
        · have h1' : (q == 1) = true := by rw [h1]; rfl
          clear h1 h0
          have HC2 := Lib.hid (hC.keep (W' := W2.alloc (.cells #[.int .i64 j.hi] 2)) ((Below.refl _ _).alloc (Nat.le_refl _) _))
          go_wp2_with (at_builtin; refine wpList_append_own _ rfl _ _ 28 rfl W1.heap.size 2 i0 (.int .i64 0) 1 8 under31 hi hz0 hz1 hz2 rfl (by decide) _ _ _ rfl HC2.out.own ⟨W2.heap.size, 0, none⟩ 1 1 [.int .i64 j.hi] rfl rfl ?c1 ?c2 ?c3 ?c4 ?c5 ?_)
          case c1 => exact new_cells _ _ _
          case c2 => intro u hu; simp at hu; subst hu; rfl
          case c3 => unfold maxLen; omega
          case c4 => omega
          case c5 => exact HC2.out.hb
          intro v' w' hown' hgrow _
          have HN := Lib.hid (HC2.out.app HJ'.out (p := j.hi) (by omega) hown' hgrow)
          clear hown' hgrow HC2 hC hi hz0 hz1 hz2
          go_wp2
          go_roundw
          case rel => exact ⟨ps ++ [j.hi], by simp; omega, by simp, HN.out⟩
          case measure => simp [intOf]; omega
        · have h1' : (q == 1) = false := beq_eq_false_iff_ne.2 h1
          go_wp2_with fail
          refine (next_any _ nS os cap xs _ hC.src (by omega) (by omega)).mono ?_
          rintro e W3 ⟨z, z1, z2, rfl, hg3, hS3⟩
          replace hC := hC.call hg3 hS3
          clear hg3 hS3
          have HC2 := Lib.hid (hC.keep (W' := W3.alloc (.cells #[.int .i64 (j.lo + z)] 2)) ((Below.refl _ _).alloc (Nat.le_refl _) _))
          go_wp2_with (at_builtin; refine wpList_append_own _ rfl _ _ 28 rfl W1.heap.size 2 i0 (.int .i64 0) 1 8 under31 hi hz0 hz1 hz2 rfl (by decide) _ _ _ rfl HC2.out.own ⟨W3.heap.size, 0, none⟩ 1 1 [.int .i64 (j.lo + z)] rfl rfl ?c1 ?c2 ?c3 ?c4 ?c5 ?_)
          case c1 => exact new_cells _ _ _
          case c2 => intro u hu; simp at hu; subst hu; rfl
          case c3 => unfold maxLen; omega
          case c4 => omega
          case c5 => exact HC2.out.hb
          intro v' w' hown' hgrow _
          have HN := Lib.hid (HC2.out.app HJ'.out (p := j.lo + z) (by omega) hown' hgrow)
          clear hown' hgrow HC2 hC hi hz0 hz1 hz2
          go_wp2
          go_roundw
          case rel => exact ⟨ps ++ [j.lo + z], by simp; omega, by simp, HN.out⟩
          case measure => simp [intOf]; omega
    · have hke : ps.length = js.length := by omega
      obtain ⟨oa', c', rfl, hs⟩ := hC.done
      have HS := Lib.hid hs
      have HC := Lib.hid hC
      have HK := Lib.hid hke
      clear hC hs hke
      go_wp2
      go_ret
      exact ⟨ps, oa', c', rfl, HK.out, HC.out.inn, HS.out, HC.out.bel, fun a ha => by have := own_fresh HC.out.own a ha; have := HC.out.h2; have := HC.out.h3; have := HC.out.h4; omega⟩
theorem config_any (oa om os : Option Addr) (cj cm cap : Nat) (js : List JV) (nm : Nat) (xs : List Int) (w : World) (hj : js.length ≤ 100) (hbd : ∀ (k : Nat) (j : JV), js[k]? = some j → -1000000000 ≤ j.lo ∧ j.lo ≤ j.hi ∧ j.hi ≤ 1000000000) (hJ : Sl w oa 12 (js.map JV.vals)) (hI : Sl w os 1 (pvals xs)) (hl : xs.length ≤ 9223372036854775807) :
    Calls Tryz.prog 22 #[.agg #[.slice oa js.length cj, .slice om nm cm], .slice os xs.length cap] w (CfgP js w) :=
  (config_new oa om os cj cm cap js nm xs w hj hbd hJ hI hl).mono fun _ _ ⟨ps, o, c, h1, h2, h3, h4, h5, _⟩ => ⟨ps, o, c, h1, h2, h3, h4, h5⟩
end Go.Proofs.Ng
end

section
/-
  Points; the library's comparisons; the order of two points.
-/
namespace Go.Proofs.Ng
open Go.RowKit

/-- The answer true or false says whether p holds. -/
def VerP (p : Prop) (w : World) (e : Ending) (w' : World) : Prop := ∃ b : Bool, e = .returned (.bool b) ∧ (b = true ↔ p) ∧ Below w.heap.size w w'
theorem verP_yes {p : Prop} {w w' : World} (h : p) (hb : Below w.heap.size w w') : VerP p w (.returned (.bool true)) w' := ⟨true, rfl, ⟨fun _ => h, fun _ => rfl⟩, hb⟩
theorem verP_no {p : Prop} {w w' : World} (h : ¬ p) (hb : Below w.heap.size w w') : VerP p w (.returned (.bool false)) w' := ⟨false, rfl, ⟨fun e => (by cases e), fun e => absurd e h⟩, hb⟩
theorem verP_at {p : Prop} {w w' : World} {b : Bool} (h : b = true ↔ p) (hb : Below w.heap.size w w') : VerP p w (.returned (.bool b)) w' := ⟨b, rfl, h, hb⟩
def BoolP (b : Bool) (w : World) (e : Ending) (w' : World) : Prop := e = .returned (.bool b) ∧ Below w.heap.size w w'
theorem boolP_mk {a b : Bool} {w w' : World} (h : a = b) (hb : Below w.heap.size w w') : BoolP a w (.returned (.bool b)) w' := by subst h; exact ⟨rfl, hb⟩

/-- The old world with draws behind it and new blocks. -/
def Gr (w w' : World) : Prop := ∃ q os, w' = Sort.grow (w.drewN q) os
theorem Gr.refl (w : World) : Gr w w := ⟨0, #[], by rw [Sort.grow_empty]; rfl⟩
theorem Gr.drew {w w' : World} (h : Gr w w') : Gr w w'.drew := by
  obtain ⟨q, os, rfl⟩ := h
  exact ⟨q + 1, os, rfl⟩
theorem Gr.drewN {w w' : World} (h : Gr w w') (n : Nat) : Gr w (w'.drewN n) := by
  obtain ⟨q, os, rfl⟩ := h
  exact ⟨q + n, os, by simp [World.drewN, Sort.grow, Nat.add_assoc]⟩
theorem Gr.alloc {w w' : World} (h : Gr w w') (o : Obj) : Gr w (w'.alloc o) := by
  obtain ⟨q, os, rfl⟩ := h
  exact ⟨q, os ++ #[o], by rw [Sort.alloc_eq_grow, Sort.grow_grow]⟩
theorem Gr.trans {w a b : World} (h : Gr w a) (k : Gr a b) : Gr w b := by
  obtain ⟨q, os, rfl⟩ := h
  obtain ⟨q', os', rfl⟩ := k
  exact ⟨q + q', os ++ os', by simp [World.drewN, Sort.grow, Nat.add_assoc, Array.append_assoc]⟩
theorem Gr.below {w w' : World} (h : Gr w w') : Below w.heap.size w w' := by
  obtain ⟨q, os, rfl⟩ := h
  exact ⟨rfl, rfl, rfl, by simp, fun k hk => Sort.heap_grow_old _ _ hk⟩

/-- A point: a slice over its values. -/
def PtAt (W : World) (v : Value) (xs : List Int) : Prop := ∃ oa cap, v = .slice oa xs.length cap ∧ Sl W oa 1 (pvals xs)
theorem PtAt.keep {W W' : World} {v : Value} {xs : List Int} (h : PtAt W v xs) (hb : Below W.heap.size W W') : PtAt W' v xs := by
  obtain ⟨oa, cap, e, hs⟩ := h
  exact ⟨oa, cap, e, hs.keep hb⟩
/-- A slice of points. -/
structure Pts (W : World) (oa : Option Addr) (pts : List (List Int)) : Prop where
  ex : ∃ vs : List Value, vs.length = pts.length ∧ Sl W oa 1 (vs.map fun v => [v]) ∧ ∀ (k : Nat) (v : Value) (xs : List Int), vs[k]? = some v → pts[k]? = some xs → PtAt W v xs
theorem Pts.keep {W W' : World} {oa : Option Addr} {pts : List (List Int)} (h : Pts W oa pts) (hb : Below W.heap.size W W') : Pts W' oa pts := by
  obtain ⟨vs, h1, h2, h3⟩ := h.ex
  exact ⟨vs, h1, h2.keep hb, fun k v xs hv hx => (h3 k v xs hv hx).keep hb⟩
theorem map_ne {α : Type} {f : α → List Value} {l : List α} {k : Nat} (h : k < l.length) : l.map f ≠ [] := by
  intro h0; rw [List.map_eq_nil_iff] at h0; rw [h0] at h; simp at h
theorem map_get {α : Type} {f : α → List Value} {l : List α} {k : Nat} {a : α} (h : l[k]? = some a) : (l.map f)[k]? = some (f a) := by simp [h]
/-- What lies at a point's place. -/
theorem Pts.get {W : World} {oa : Option Addr} {pts : List (List Int)} (h : Pts W oa pts) {k : Nat} {xs : List Int} (hk : pts[k]? = some xs) :
    ∃ b off ox cx, oa = some ⟨b, off, none⟩ ∧ W.cell? ⟨b, off + k, none⟩ = some (.slice ox xs.length cx) ∧ b < W.heap.size ∧ Sl W ox 1 (pvals xs) := by
  obtain ⟨vs, h1, h2, h3⟩ := h.ex
  have hlt := (List.getElem?_eq_some_iff.1 hk).1
  obtain ⟨v, hv⟩ : ∃ v, vs[k]? = some v := ⟨_, List.getElem?_eq_getElem (by rw [h1]; exact hlt)⟩
  obtain ⟨ox, cx, rfl, hs⟩ := h3 k v xs hv hk
  obtain ⟨b, off, e, hr⟩ := h2 (map_ne (k := k) (by rw [h1]; exact hlt))
  refine ⟨b, off, ox, cx, e, ?_, hr.lt, hs⟩
  have := hr.c k _ (map_get hv) 0 _ rfl
  simpa using this
theorem pv_get {W : World} {ox : Option Addr} {xs : List Int} (h : Sl W ox 1 (pvals xs)) {k : Nat} {x : Int} (hk : xs[k]? = some x) :
    ∃ b off, ox = some ⟨b, off, none⟩ ∧ W.cell? ⟨b, off + k, none⟩ = some (.int .i64 x) ∧ b < W.heap.size := by
  obtain ⟨b, off, e, hr⟩ := h (pvals_ne (List.getElem?_eq_some_iff.1 hk).1)
  refine ⟨b, off, e, ?_, hr.lt⟩
  have := hr.c k _ (pvals_get hk) 0 _ rfl
  simpa using this

/-! the library's comparisons -/
theorem nan60 (x : Int) (w : World) : Calls Tryz.prog 69 #[.int .i64 x] w fun e w' => e = .returned (.bool false) ∧ w' = w := by
  go_enter Tryz.func69, Tryz.ntmps69
  go_wp2
  go_ret
  exact ⟨ret_bool (by simp), rfl⟩
theorem nan61 (x : Int) (w : World) : Calls Tryz.prog 70 #[.int .i64 x] w fun e w' => e = .returned (.bool false) ∧ w' = w := by
  go_enter Tryz.func70, Tryz.ntmps70
  go_wp2
  go_ret
  exact ⟨ret_bool (by simp), rfl⟩
def cmpI (x y : Int) : Int := if x < y then -1 else if y < x then 1 else 0
theorem cmp41 (x y : Int) (w : World) : Calls Tryz.prog 42 #[.int .i64 x, .int .i64 y] w fun e w' => e = .returned (.int .i64 (cmpI x y)) ∧ w' = w := by
    by_cases h1 : x < y
    · have hc : cmpI x y = -1 := by unfold cmpI; rw [if_pos h1]
      rw [hc]
      clear hc
      go_enter Tryz.func42, Tryz.ntmps42
      go_wp2_with (first | (go_at_call 69; refine (nan60 _ _).mono ?_; rintro e w' ⟨rfl, rfl⟩))
      go_ret
      exact ⟨rfl, rfl⟩
    · by_cases h2 : y < x
      · have hc : cmpI x y = 1 := by unfold cmpI; rw [if_neg h1, if_pos h2]
        rw [hc]
        clear hc
        go_enter Tryz.func42, Tryz.ntmps42
        go_wp2_with (first | (go_at_call 69; refine (nan60 _ _).mono ?_; rintro e w' ⟨rfl, rfl⟩))
        go_ret
        exact ⟨rfl, rfl⟩
      · have hc : cmpI x y = 0 := by unfold cmpI; rw [if_neg h1, if_neg h2]
        rw [hc]
        clear hc
        go_enter Tryz.func42, Tryz.ntmps42
        go_wp2_with (first | (go_at_call 69; refine (nan60 _ _).mono ?_; rintro e w' ⟨rfl, rfl⟩))
        go_ret
        exact ⟨rfl, rfl⟩
theorem cmp42 (x y : Int) (w : World) : Calls Tryz.prog 43 #[.int .i64 x, .int .i64 y] w fun e w' => e = .returned (.int .i64 (cmpI x y)) ∧ w' = w := by
    by_cases h1 : x < y
    · have hc : cmpI x y = -1 := by unfold cmpI; rw [if_pos h1]
      rw [hc]
      clear hc
      go_enter Tryz.func43, Tryz.ntmps43
      go_wp2_with (first | (go_at_call 70; refine (nan61 _ _).mono ?_; rintro e w' ⟨rfl, rfl⟩))
      go_ret
      exact ⟨rfl, rfl⟩
    · by_cases h2 : y < x
      · have hc : cmpI x y = 1 := by unfold cmpI; rw [if_neg h1, if_pos h2]
        rw [hc]
        clear hc
        go_enter Tryz.func43, Tryz.ntmps43
        go_wp2_with (first | (go_at_call 70; refine (nan61 _ _).mono ?_; rintro e w' ⟨rfl, rfl⟩))
        go_ret
        exact ⟨rfl, rfl⟩
      · have hc : cmpI x y = 0 := by unfold cmpI; rw [if_neg h1, if_neg h2]
        rw [hc]
        clear hc
        go_enter Tryz.func43, Tryz.ntmps43
        go_wp2_with (first | (go_at_call 70; refine (nan61 _ _).mono ?_; rintro e w' ⟨rfl, rfl⟩))
        go_ret
        exact ⟨rfl, rfl⟩
def orI (x y : Int) : Int := if x = 0 then y else x
set_option maxHeartbeats 1000000 in
theorem or40 (b : Nat) (x y : Int) (w : World) (c0 : w.cell? ⟨b, 0, none⟩ = some (.int .i64 x)) (c1 : w.cell? ⟨b, 1, none⟩ = some (.int .i64 y)) (lb : b < w.heap.size) :
    Calls Tryz.prog 41 #[.slice (some ⟨b, 0, none⟩) 2 2] w fun e w' => e = .returned (.int .i64 (orI x y)) ∧ w' = w := by
  unfold orI
  by_cases hx : x = 0
  · have hx' : (x != 0) = false := by simp [hx]
    rw [if_pos hx]
    clear hx
    by_cases hy : y = 0
    · have hy' : (y != 0) = false := by simp [hy]
      go_enter Tryz.func41, Tryz.ntmps41
      go_wp2
      refine wp_loop_rounds 3 ?_
      rw [rounds_succ]
      go_wp2
      rw [rounds_succ]
      go_wp2
      rw [rounds_succ]
      go_wp2
      go_ret
      exact ⟨by rw [hy]; rfl, rfl⟩
    · have hy' : (y != 0) = true := by simp [hy]
      go_enter Tryz.func41, Tryz.ntmps41
      go_wp2
      refine wp_loop_rounds 2 ?_
      rw [rounds_succ]
      go_wp2
      rw [rounds_succ]
      go_wp2
      go_ret
      exact ⟨rfl, rfl⟩
  · have hx' : (x != 0) = true := by simp [hx]
    rw [if_neg hx]
    go_enter Tryz.func41, Tryz.ntmps41
    go_wp2
    refine wp_loop_rounds 1 ?_
    rw [rounds_succ]
    go_wp2
    go_ret
    exact ⟨rfl, rfl⟩
end Go.Proofs.Ng
end

section
/-
  Walks: the order of two points, in the code and in the reference; small.
-/
namespace Go.Proofs.Ng
open Go.RowKit

theorem dr2 (w : World) (a b : Nat) : (w.drewN a).drewN b = w.drewN (a + b) := by simp [World.drewN, Nat.add_assoc]
/-- A point's value on an axis. -/
def key (pts : List (List Int)) (a i : Nat) : Int := ((pts[i]?.getD [])[a]?).getD 0
theorem key_at {pts : List (List Int)} {a i : Nat} {xs : List Int} {x : Int} (h : pts[i]? = some xs) (hx : xs[a]? = some x) : key pts a i = x := by simp [key, h, hx]
/-- The order of two points. -/
def ordI (pts : List (List Int)) (a i j : Nat) : Int := orI (cmpI (key pts a i) (key pts a j)) (cmpI i j)
def bef (pts : List (List Int)) (a i j : Nat) : Bool := decide (key pts a i < key pts a j ∨ key pts a i = key pts a j ∧ i < j)
/-- Where a point's value lies. -/
theorem Pts.val {W : World} {oa : Option Addr} {pts : List (List Int)} (h : Pts W oa pts) {a i : Nat} (hi : i < pts.length) (ha : ∀ xs ∈ pts, a < xs.length) :
    ∃ b off bx ox nx cx, oa = some ⟨b, off, none⟩ ∧ W.cell? ⟨b, off + i, none⟩ = some (.slice (some ⟨bx, ox, none⟩) nx cx) ∧ W.cell? ⟨bx, ox + a, none⟩ = some (.int .i64 (key pts a i)) ∧ b < W.heap.size ∧ bx < W.heap.size ∧ a < nx := by
  obtain ⟨xs, hx⟩ : ∃ xs, pts[i]? = some xs := ⟨_, List.getElem?_eq_getElem hi⟩
  obtain ⟨b, off, ox, cx, e, hc, hl, hs⟩ := h.get hx
  have hal := ha xs (List.mem_of_getElem? hx)
  obtain ⟨x, hxa⟩ : ∃ x, xs[a]? = some x := ⟨_, List.getElem?_eq_getElem hal⟩
  obtain ⟨bx, ofx, rfl, hcx, hlx⟩ := pv_get hs hxa
  exact ⟨b, off, bx, ofx, xs.length, cx, e, hc, by rw [key_at hx hxa]; exact hcx, hl, hlx, hal⟩
set_option maxRecDepth 100000 in
set_option maxHeartbeats 4000000 in
theorem order29 (oa : Option Addr) (ca : Nat) (pts : List (List Int)) (a i j : Nat) (w : World) (hP : Pts w oa pts) (hi : i < pts.length) (hj : j < pts.length) (ha : ∀ xs ∈ pts, a < xs.length) (hn : pts.length ≤ 100000) (haN : a < 1000) :
    Calls Tryz.prog 32 #[.slice oa pts.length ca, .int .i64 a, .int .i64 i, .int .i64 j] w fun e w' => e = .returned (.int .i64 (ordI pts a i j)) ∧ Gr w w' := by
  obtain ⟨b, off, bx, ox, nx, cx, e1, x0, x1, lb, lbx, hax⟩ := hP.val hi ha
  obtain ⟨b', off', bY, oY, nY, cY, e2, y0, y1, _, lbY, haY⟩ := hP.val hj ha
  rw [e1] at e2
  injection e2 with e2
  injection e2 with e2 e3 _
  subst e2 e3 e1
  unfold ordI
  generalize key pts a i = x at x1 ⊢
  generalize key pts a j = y at y1 ⊢
  clear hP ha
  have hmk : ∀ Y, Gr w Y → Y.cell? ⟨b, off + i, none⟩ = some (.slice (some ⟨bx, ox, none⟩) nx cx) ∧ Y.cell? ⟨bx, ox + a, none⟩ = some (.int .i64 x) ∧ Y.cell? ⟨b, off + j, none⟩ = some (.slice (some ⟨bY, oY, none⟩) nY cY) ∧ Y.cell? ⟨bY, oY + a, none⟩ = some (.int .i64 y) ∧ Gr w Y :=
    fun Y hY => ⟨(hY.below.cell (p := ⟨b, off + i, none⟩) lb).trans x0, (hY.below.cell (p := ⟨bx, ox + a, none⟩) lbx).trans x1, (hY.below.cell (p := ⟨b, off + j, none⟩) lb).trans y0, (hY.below.cell (p := ⟨bY, oY + a, none⟩) lbY).trans y1, hY⟩
  have hS := hmk w (Gr.refl w)
  have HMK := Lib.hid hmk
  clear hmk x0 x1 y0 y1
  go_enter Tryz.func32, Tryz.ntmps32
  go_upto_region 1 with fail
  go_region_held3 (fun Y => Y.cell? ⟨b, off + i, none⟩ = some (.slice (some ⟨bx, ox, none⟩) nx cx) ∧ Y.cell? ⟨bx, ox + a, none⟩ = some (.int .i64 x) ∧ Y.cell? ⟨b, off + j, none⟩ = some (.slice (some ⟨bY, oY, none⟩) nY cY) ∧ Y.cell? ⟨bY, oY + a, none⟩ = some (.int .i64 y) ∧ Gr w Y)
    (first
      | assumption
      | exact HMK.out _ (by repeat (first | exact Gr.refl _ | apply Gr.drew | apply Gr.alloc | exact (by assumption : _ ∧ _ ∧ _ ∧ _ ∧ Gr w _).2.2.2.2)))
    (first
      | (go_at_call 42; with_reducible refine (cmp41 _ _ _).mono ?_; rintro e Xa ⟨rfl, rfl⟩)
      | (go_at_call 43; with_reducible refine (cmp42 _ _ _).mono ?_; rintro e Xa ⟨rfl, rfl⟩)
      | (go_at_call 41; refine (or40 _ (cmpI x y) (cmpI i j) _ (by simp [go_sem]) (by simp [go_sem]) (by simp [go_sem])).mono ?_; rintro e Xa ⟨rfl, rfl⟩))
  all_goals
    go_wp2
    go_ret
    exact ⟨rfl, ((Gr.refl w).alloc _).drew⟩
set_option maxRecDepth 100000 in
set_option maxHeartbeats 4000000 in
theorem before36 (oa : Option Addr) (ca : Nat) (pts : List (List Int)) (a i j : Nat) (w : World) (hP : Pts w oa pts) (hi : i < pts.length) (hj : j < pts.length) (ha : ∀ xs ∈ pts, a < xs.length) (hn : pts.length ≤ 100000) (haN : a < 1000) :
    Calls Tryz.prog 51 #[.slice oa pts.length ca, .int .i64 a, .int .i64 i, .int .i64 j] w fun e w' => e = .returned (.bool (bef pts a i j)) ∧ ∃ q, w' = w.drewN q := by
  obtain ⟨b, off, bx, ox, nx, cx, e1, x0, x1, lb, lbx, hax⟩ := hP.val hi ha
  obtain ⟨b', off', bY, oY, nY, cY, e2, y0, y1, _, lbY, haY⟩ := hP.val hj ha
  rw [e1] at e2
  injection e2 with e2
  injection e2 with e2 e3 _
  subst e2 e3 e1
  unfold bef
  generalize key pts a i = x at x1 ⊢
  generalize key pts a j = y at y1 ⊢
  clear hP ha
  by_cases hxy : x = y
  · have hne : (x != y) = false := by simp [hxy]
    have HXY := Lib.hid hxy
    clear hxy
    go_enter Tryz.func51, Tryz.ntmps51
    go_wp2_with fail
    go_quiet (fail)
    go_wp2
    go_ret
    exact ⟨ret_bool (by simp [HXY.out]), _, rfl⟩
  · have hne : (x != y) = true := by simp [hxy]
    have HXY := Lib.hid hxy
    clear hxy
    go_enter Tryz.func51, Tryz.ntmps51
    go_wp2_with fail
    go_quiet (fail)
    go_wp2_with fail
    go_quiet (fail)
    go_wp2
    go_ret
    exact ⟨ret_bool (by simp [HXY.out]), _, dr2 w _ _⟩
end Go.Proofs.Ng
end

section
/-
  Walks: small; valid points, in the code and in the reference.
-/
namespace Go.Proofs.Ng
open Go.RowKit

def okX (x : Int) : Bool := decide (-2147483648 ≤ x ∧ x ≤ 2147483648)
def smallB (xs : List Int) : Bool := xs.all okX
theorem small_no {xs : List Int} {k : Nat} {x : Int} (h : xs[k]? = some x) (hx : okX x = false) : smallB xs = false := by
  unfold smallB
  rw [Bool.eq_false_iff]
  intro h1
  have := List.all_eq_true.1 h1 x (List.mem_of_getElem? h)
  rw [hx] at this; cases this
theorem small_yes {xs : List Int} (h : ∀ (j : Nat) (x : Int), j < xs.length → xs[j]? = some x → okX x = true) : smallB xs = true := by
  unfold smallB
  rw [List.all_eq_true]
  intro x hx
  obtain ⟨j, hj⟩ := List.getElem?_of_mem hx
  exact h j x (List.getElem?_eq_some_iff.1 hj).1 hj
theorem to_next {α : Type} {xs : List α} {k : Nat} {x : α} {p : α → Prop} (h : ∀ (j : Nat) (x : α), j < k → xs[j]? = some x → p x) (hx : xs[k]? = some x) (hp : p x) : ∀ (j : Nat) (x : α), j < k + 1 → xs[j]? = some x → p x := by
  intro j y hj hy
  rcases Nat.lt_or_ge j k with h1 | h1
  · exact h j y h1 hy
  · have : j = k := by omega
    subst this
    rw [hx] at hy; injection hy with hy; subst hy; exact hp
set_option maxRecDepth 100000 in
set_option maxHeartbeats 2000000 in
theorem small55 (ox : Option Addr) (cx : Nat) (xs : List Int) (w : World) (hX : Sl w ox 1 (pvals xs)) (hn : xs.length ≤ 1000000) :
    Calls Tryz.prog 62 #[.slice ox xs.length cx] w fun e w' => e = .returned (.bool (smallB xs)) ∧ w' = w := by
  go_enter Tryz.func62, Tryz.ntmps62
  go_wp2_with fail
  go_loopw [7] (fun i W => ∃ k : Nat, k ≤ xs.length ∧ i = .int .i64 (k : Nat) ∧ W = w ∧ ∀ (j : Nat) (x : Int), j < k → xs[j]? = some x → okX x = true) (fun i _ => xs.length - (intOf i).toNat)
  case atStart => exact ⟨0, Nat.zero_le _, rfl, rfl, fun j x h => absurd h (Nat.not_lt_zero _)⟩
  case round =>
    obtain ⟨k, hk, rfl, rfl, hto⟩ := hrel
    have HTO := Lib.hid hto
    clear hto
    by_cases hlt : k < xs.length
    · obtain ⟨x, hx⟩ : ∃ x, xs[k]? = some x := ⟨_, List.getElem?_eq_getElem hlt⟩
      obtain ⟨b, off, rfl, x0, lb⟩ := pv_get hX hx
      have HX := Lib.hid hx
      clear hx
      by_cases q0 : x < -2147483648
      · have d0 : decide (x < -2147483648) = true := decide_eq_true q0
        have HS := Lib.hid (small_no HX.out (by unfold okX; exact decide_eq_false (by omega)))
        clear q0
        go_wp2_with fail
        go_ret
        exact ⟨ret_bool HS.out.symm, rfl⟩
      · have d0 : decide (x < -2147483648) = false := decide_eq_false q0
        by_cases q1 : 2147483648 < x
        · have d1 : decide (2147483648 < x) = true := decide_eq_true q1
          have HS := Lib.hid (small_no HX.out (by unfold okX; exact decide_eq_false (by omega)))
          clear q0 q1
          go_wp2_with fail
          go_ret
          exact ⟨ret_bool HS.out.symm, rfl⟩
        · have d1 : decide (2147483648 < x) = false := decide_eq_false q1
          have HS := Lib.hid (to_next (p := fun x => okX x = true) HTO.out HX.out (by unfold okX; exact decide_eq_true (by omega)))
          clear q0 q1
          go_wp2_with fail
          go_roundw
          case rel => exact ⟨k + 1, by omega, by simp, by trivial, HS.out⟩
          case measure => simp [intOf]; omega
    · have he : k = xs.length := by omega
      subst he
      have HS := Lib.hid (small_yes HTO.out)
      go_wp2_with fail
      go_ret
      exact ⟨ret_bool HS.out.symm, rfl⟩

/-- A point of the right form. -/
def okC (m : Nat) (c : List Int) : Bool := decide (1 ≤ c.length ∧ c.length ≤ 10 ∧ c.length = m) && smallB c
def dimP (pts : List (List Int)) : Nat := (pts[0]?.getD []).length
def vpB (pts : List (List Int)) : Bool := decide (pts.length ≤ 1024) && pts.all (okC (dimP pts))
theorem vp_many {pts : List (List Int)} (h : 1024 < pts.length) : vpB pts = false := by
  unfold vpB; rw [decide_eq_false (by omega)]; rfl
theorem vp_no {pts : List (List Int)} {k : Nat} {c : List Int} (h : pts[k]? = some c) (hc : okC (dimP pts) c = false) : vpB pts = false := by
  unfold vpB
  rw [Bool.and_eq_false_iff]
  right
  rw [Bool.eq_false_iff]
  intro h1
  have := List.all_eq_true.1 h1 c (List.mem_of_getElem? h)
  rw [hc] at this; cases this
theorem vp_yes {pts : List (List Int)} (hl : pts.length ≤ 1024) (h : ∀ (j : Nat) (c : List Int), j < pts.length → pts[j]? = some c → okC (dimP pts) c = true) : vpB pts = true := by
  unfold vpB
  rw [decide_eq_true hl, Bool.true_and, List.all_eq_true]
  intro c hc
  obtain ⟨j, hj⟩ := List.getElem?_of_mem hc
  exact h j c (List.getElem?_eq_some_iff.1 hj).1 hj
set_option maxRecDepth 100000 in
set_option maxHeartbeats 2000000 in
theorem validPoints25 (oa : Option Addr) (ca : Nat) (pts : List (List Int)) (w : World) (hP : Pts w oa pts) :
    Calls Tryz.prog 28 #[.slice oa pts.length ca] w fun e w' => e = .returned (.bool (vpB pts)) ∧ w' = w := by
  by_cases hm : 1024 < pts.length
  · have d0 : decide (1024 < (pts.length : Int)) = true := decide_eq_true (by omega)
    have HN := Lib.hid (vp_many hm)
    clear hm
    go_enter Tryz.func28, Tryz.ntmps28
    go_wp2_with fail
    go_ret
    exact ⟨ret_bool HN.out.symm, rfl⟩
  · have d0 : decide (1024 < (pts.length : Int)) = false := decide_eq_false (by omega)
    have HM : Hid (pts.length ≤ 1024) := Lib.hid (by omega)
    go_enter Tryz.func28, Tryz.ntmps28
    go_wp2_with fail
    go_loopw [10] (fun i W => ∃ k : Nat, k ≤ pts.length ∧ i = .int .i64 (k : Nat) ∧ W = w ∧ ∀ (j : Nat) (c : List Int), j < k → pts[j]? = some c → okC (dimP pts) c = true) (fun i _ => pts.length - (intOf i).toNat)
    case atStart => exact ⟨0, Nat.zero_le _, rfl, rfl, fun j x h => absurd h (Nat.not_lt_zero _)⟩
    case round =>
      obtain ⟨k, hk, rfl, rfl, hto⟩ := hrel
      have HTO := Lib.hid hto
      clear hto
      by_cases hlt : k < pts.length
      · obtain ⟨c, hc⟩ : ∃ c, pts[k]? = some c := ⟨_, List.getElem?_eq_getElem hlt⟩
        obtain ⟨c0, hc0⟩ : ∃ c, pts[0]? = some c := ⟨_, List.getElem?_eq_getElem (by omega)⟩
        obtain ⟨b, off, ox, cx, e1, x0, lb, hs⟩ := hP.get hc
        obtain ⟨b', off', oy, cy, e2, y0, _, _⟩ := hP.get hc0
        rw [e1] at e2
        injection e2 with e2
        injection e2 with e2 e3 _
        subst e2 e3 e1
        have hdim : dimP pts = c0.length := by unfold dimP; rw [hc0]; rfl
        rw [Nat.add_zero] at y0
        have HC := Lib.hid hc
        have HD := Lib.hid hdim
        have HSx := Lib.hid hs
        clear hc hc0 hdim hs
        by_cases q0 : c.length < 1
        · have d1 : decide ((c.length : Int) < 1) = true := decide_eq_true (by omega)
          have HS := Lib.hid (vp_no HC.out (by unfold okC; rw [decide_eq_false (by omega)]; rfl))
          clear q0
          go_wp2_with fail
          go_ret
          exact ⟨ret_bool HS.out.symm, rfl⟩
        · have d1 : decide ((c.length : Int) < 1) = false := decide_eq_false (by omega)
          by_cases q1 : 10 < c.length
          · have d2 : decide (10 < (c.length : Int)) = true := decide_eq_true (by omega)
            have HS := Lib.hid (vp_no HC.out (by unfold okC; rw [decide_eq_false (by omega)]; rfl))
            clear q0 q1
            go_wp2_with fail
            go_ret
            exact ⟨ret_bool HS.out.symm, rfl⟩
          · have d2 : decide (10 < (c.length : Int)) = false := decide_eq_false (by omega)
            by_cases q2 : c.length = c0.length
            · have d3 : ((c.length : Int) != (c0.length : Int)) = false := by simp [q2]
              have HL : Hid (1 ≤ c.length ∧ c.length ≤ 10 ∧ c.length = dimP pts) := Lib.hid ⟨by omega, by omega, by rw [HD.out]; exact q2⟩
              have hcl : c.length ≤ 1000000 := by omega
              clear q0 q1 q2
              by_cases q4 : smallB c = true
              · go_wp2_with (go_at_call 62; refine (small55 _ _ c _ HSx.out hcl).mono ?_; rw [q4]; rintro e Xa ⟨rfl, rfl⟩)
                have HS := Lib.hid (to_next (p := fun c => okC (dimP pts) c = true) HTO.out HC.out (by unfold okC; rw [decide_eq_true HL.out, q4]; rfl))
                go_roundw
                case rel => exact ⟨k + 1, by omega, by simp, by trivial, HS.out⟩
                case measure => simp [intOf]; omega
              · have q4' : smallB c = false := by simpa using q4
                have HS := Lib.hid (vp_no HC.out (by unfold okC; rw [q4', Bool.and_false]))
                clear q4
                go_wp2_with (go_at_call 62; refine (small55 _ _ c _ HSx.out hcl).mono ?_; rw [q4']; rintro e Xa ⟨rfl, rfl⟩)
                go_ret
                exact ⟨ret_bool HS.out.symm, rfl⟩
            · have d3 : ((c.length : Int) != (c0.length : Int)) = true := by simp; omega
              have HS := Lib.hid (vp_no HC.out (by unfold okC; rw [decide_eq_false (by rw [HD.out]; omega)]; rfl))
              clear q0 q1 q2
              go_wp2_with fail
              go_ret
              exact ⟨ret_bool HS.out.symm, rfl⟩
      · have he : k = pts.length := by omega
        subst he
        have HS := Lib.hid (vp_yes HM.out HTO.out)
        go_wp2_with fail
        go_ret
        exact ⟨ret_bool HS.out.symm, rfl⟩
end Go.Proofs.Ng
end

section
/-
  Walks: valid points in the reference.
-/
namespace Go.Proofs.Ng
open Go.RowKit

theorem Sl.dr {w : World} {q n : Nat} {oa : Option Addr} {rows : List (List Value)} (h : Sl w oa n rows) : Sl (w.drewN q) oa n rows := h.keep (below_drew w q)
set_option maxRecDepth 100000 in
set_option maxHeartbeats 4000000 in
theorem validPoints30 (oa : Option Addr) (ca : Nat) (pts : List (List Int)) (w : World) (hP : Pts w oa pts) :
    Calls Tryz.prog 25 #[.slice oa pts.length ca] w fun e w' => e = .returned (.bool (vpB pts)) ∧ ∃ q, w' = w.drewN q := by
  by_cases hm : 1024 < pts.length
  · have d0 : decide (1024 < (pts.length : Int)) = true := decide_eq_true (by omega)
    have HN := Lib.hid (vp_many hm)
    clear hm
    go_enter Tryz.func25, Tryz.ntmps25
    go_wp2_with fail
    go_ret
    exact ⟨ret_bool HN.out.symm, 0, rfl⟩
  · have d0 : decide (1024 < (pts.length : Int)) = false := decide_eq_false (by omega)
    have HM : Hid (pts.length ≤ 1024) := Lib.hid (by omega)
    go_enter Tryz.func25, Tryz.ntmps25
    go_wp2_with fail
    clear d0
    go_loopw [3] (fun i W => ∃ k q : Nat, k ≤ pts.length ∧ i = .int .i64 (k : Nat) ∧ W = w.drewN q ∧ ∀ (j : Nat) (c : List Int), j < k → pts[j]? = some c → okC (dimP pts) c = true) (fun i _ => pts.length - (intOf i).toNat)
    case atStart => exact ⟨0, 0, Nat.zero_le _, rfl, rfl, fun j x h => absurd h (Nat.not_lt_zero _)⟩
    case round =>
      obtain ⟨k, q, hk, rfl, rfl, hto⟩ := hrel
      have HTO := Lib.hid hto
      clear hto
      by_cases hlt : k < pts.length
      · obtain ⟨c, hc⟩ : ∃ c, pts[k]? = some c := ⟨_, List.getElem?_eq_getElem hlt⟩
        obtain ⟨c0, hc0⟩ : ∃ c, pts[0]? = some c := ⟨_, List.getElem?_eq_getElem (by omega)⟩
        obtain ⟨b, off, ox, cx, e1, x0, lb, hs⟩ := hP.get hc
        obtain ⟨b', off', oy, cy, e2, y0, _, _⟩ := hP.get hc0
        rw [e1] at e2
        injection e2 with e2
        injection e2 with e2 e3 _
        subst e2 e3 e1
        have hdim : dimP pts = c0.length := by unfold dimP; rw [hc0]; rfl
        rw [Nat.add_zero] at y0
        have HC := Lib.hid hc
        have HD := Lib.hid hdim
        have HSx := Lib.hid hs
        clear hc hc0 hdim hs
        by_cases q0 : c.length < 1
        · have d1 : decide ((c.length : Int) < 1) = true := decide_eq_true (by omega)
          have HS := Lib.hid (vp_no HC.out (by unfold okC; rw [decide_eq_false (by omega)]; rfl))
          clear q0
          go_wp2_with fail
          go_quiet (fail)
          go_wp2
          go_ret
          exact ⟨ret_bool HS.out.symm, _, dr2 w _ _⟩
        · have d1 : decide ((c.length : Int) < 1) = false := decide_eq_false (by omega)
          by_cases q1 : 10 < c.length
          · have d2 : decide (10 < (c.length : Int)) = true := decide_eq_true (by omega)
            have HS := Lib.hid (vp_no HC.out (by unfold okC; rw [decide_eq_false (by omega)]; rfl))
            clear q0 q1
            go_wp2_with fail
            go_quiet (fail)
            go_wp2
            go_ret
            exact ⟨ret_bool HS.out.symm, _, dr2 w _ _⟩
          · have d2 : decide (10 < (c.length : Int)) = false := decide_eq_false (by omega)
            by_cases q2 : c.length = c0.length
            · have d3 : ((c.length : Int) != (c0.length : Int)) = false := by simp [q2]
              have HL : Hid (1 ≤ c.length ∧ c.length ≤ 10 ∧ c.length = dimP pts) := Lib.hid ⟨by omega, by omega, by rw [HD.out]; exact q2⟩
              have hcl : c.length ≤ 10 := by omega
              clear q0 q1 q2
              go_wp2_with fail
              go_quiet (fail)
              rw [dr2]
              generalize q + nq = q1
              clear d1 d2 d3 q
              go_wp2_with fail
              go_loopw [4] (fun i W => ∃ j q : Nat, j ≤ c.length ∧ i = .int .i64 (j : Nat) ∧ W = w.drewN q ∧ ∀ (t : Nat) (x : Int), t < j → c[t]? = some x → okX x = true) (fun i _ => c.length - (intOf i).toNat)
              case atStart => exact ⟨0, q1, Nat.zero_le _, rfl, rfl, fun j x h => absurd h (Nat.not_lt_zero _)⟩
              case round =>
                obtain ⟨j, q, hj, rfl, rfl, hto2⟩ := hrel
                have HTO2 := Lib.hid hto2
                clear hto2
                by_cases hlj : j < c.length
                · obtain ⟨x, hx⟩ : ∃ x, c[j]? = some x := ⟨_, List.getElem?_eq_getElem hlj⟩
                  obtain ⟨bx, ofx, rfl, z0, lbx⟩ := pv_get HSx.out hx
                  have HX := Lib.hid hx
                  clear hx
                  by_cases p0 : x < -2147483648
                  · have d1 : decide (x < -2147483648) = true := decide_eq_true p0
                    have HS := Lib.hid (vp_no HC.out (by unfold okC; rw [small_no HX.out (by unfold okX; exact decide_eq_false (by omega)), Bool.and_false]))
                    clear p0
                    go_wp2_with fail
                    go_ret
                    exact ⟨ret_bool HS.out.symm, _, rfl⟩
                  · have d1 : decide (x < -2147483648) = false := decide_eq_false p0
                    by_cases p1 : 2147483648 < x
                    · have d2 : decide (2147483648 < x) = true := decide_eq_true p1
                      have HS := Lib.hid (vp_no HC.out (by unfold okC; rw [small_no HX.out (by unfold okX; exact decide_eq_false (by omega)), Bool.and_false]))
                      clear p0 p1
                      go_wp2_with fail
                      go_ret
                      exact ⟨ret_bool HS.out.symm, _, rfl⟩
                    · have d2 : decide (2147483648 < x) = false := decide_eq_false p1
                      have HS := Lib.hid (to_next (p := fun x => okX x = true) HTO2.out HX.out (by unfold okX; exact decide_eq_true (by omega)))
                      clear p0 p1
                      go_wp2_with fail
                      go_roundw
                      case rel => exact ⟨j + 1, q, by omega, by simp, by trivial, HS.out⟩
                      case measure => simp [intOf]; omega
                · have he : j = c.length := by omega
                  subst he
                  have HS := Lib.hid (to_next (p := fun c => okC (dimP pts) c = true) HTO.out HC.out (by unfold okC; rw [decide_eq_true HL.out, small_yes HTO2.out]; rfl))
                  go_wp2_with fail
                  go_roundw
                  case rel => exact ⟨k + 1, q, by omega, by simp, by trivial, HS.out⟩
                  case measure => simp [intOf]; omega
            · have d3 : ((c.length : Int) != (c0.length : Int)) = true := by simp; omega
              have HS := Lib.hid (vp_no HC.out (by unfold okC; rw [decide_eq_false (by rw [HD.out]; omega)]; rfl))
              clear q0 q1 q2
              go_wp2_with fail
              go_quiet (fail)
              go_wp2
              go_ret
              exact ⟨ret_bool HS.out.symm, _, dr2 w _ _⟩
      · have he : k = pts.length := by omega
        subst he
        have HS := Lib.hid (vp_yes HM.out HTO.out)
        go_wp2_with fail
        go_ret
        exact ⟨ret_bool HS.out.symm, _, rfl⟩
end Go.Proofs.Ng
end

section
/-
  Walks: the reference's sorted.
-/
namespace Go.Proofs.Ng
open Go.RowKit

/-! the order of an axis, on lists of indexes -/
def leB (pts : List (List Int)) (a i j : Nat) : Bool := !bef pts a j i
def srt (pts : List (List Int)) (a : Nat) (l : List Nat) : List Nat := l.mergeSort (leB pts a)
theorem leB_iff {pts : List (List Int)} {a i j : Nat} : leB pts a i j = true ↔ (key pts a i < key pts a j ∨ key pts a i = key pts a j ∧ i ≤ j) := by
  unfold leB bef
  simp only [Bool.not_eq_true', decide_eq_false_iff_not]
  omega
theorem leB_trans (pts : List (List Int)) (a : Nat) : ∀ i j k : Nat, leB pts a i j = true → leB pts a j k = true → leB pts a i k = true := by
  intro i j k h1 h2
  rw [leB_iff] at *
  omega
theorem leB_total (pts : List (List Int)) (a : Nat) : ∀ i j : Nat, (leB pts a i j || leB pts a j i) = true := by
  intro i j
  rw [Bool.or_eq_true, leB_iff, leB_iff]
  omega
theorem leB_anti {pts : List (List Int)} {a i j : Nat} (h1 : leB pts a i j = true) (h2 : leB pts a j i = true) : i = j := by
  rw [leB_iff] at *
  omega
theorem srt_perm (pts : List (List Int)) (a : Nat) (l : List Nat) : (srt pts a l).Perm l := List.mergeSort_perm _ _
theorem srt_pw (pts : List (List Int)) (a : Nat) (l : List Nat) : (srt pts a l).Pairwise fun i j => leB pts a i j = true := List.pairwise_mergeSort (leB_trans pts a) (leB_total pts a) l
theorem srt_uniq {pts : List (List Int)} {a : Nat} {l o : List Nat} (hp : o.Perm l) (hs : o.Pairwise fun i j => leB pts a i j = true) : o = srt pts a l :=
  List.Perm.eq_of_pairwise (fun _ _ _ _ h1 h2 => leB_anti h1 h2) hs (srt_pw pts a l) (hp.trans (srt_perm pts a l).symm)
theorem srt_len (pts : List (List Int)) (a : Nat) (l : List Nat) : (srt pts a l).length = l.length := (srt_perm pts a l).length_eq
theorem srt_mem {pts : List (List Int)} {a : Nat} {l : List Nat} {x : Nat} : x ∈ srt pts a l ↔ x ∈ l := (srt_perm pts a l).mem_iff

/-! rows of indexes -/
def nvals (l : List Nat) : List (List Value) := l.map fun x => [.int .i64 (x : Nat)]
theorem nvals_len (l : List Nat) : (nvals l).length = l.length := by simp [nvals]
theorem nvals_one (l : List Nat) : ∀ r ∈ nvals l, r.length = 1 := by intro r hr; simp [nvals] at hr; obtain ⟨j, _, rfl⟩ := hr; rfl
theorem nvals_flat (l : List Nat) : (nvals l).flatten = l.map fun x => .int .i64 (x : Nat) := by
  induction l with
  | nil => rfl
  | cons a r ih => simpa [nvals] using ih
theorem nvals_set (l : List Nat) (i x : Nat) : (nvals (l.set i x)).flatten = (nvals l).flatten.set i (.int .i64 (x : Nat)) := by
  rw [nvals_flat, nvals_flat, List.map_set]
theorem nv_get {W : World} {os : Option Addr} {l : List Nat} (h : Sl W os 1 (nvals l)) {k x : Nat} (hk : l[k]? = some x) : ∃ b off, os = some ⟨b, off, none⟩ ∧ W.cell? ⟨b, off + k, none⟩ = some (.int .i64 (x : Nat)) ∧ b < W.heap.size := by
  obtain ⟨b, off, e, hr⟩ := h (map_ne (List.getElem?_eq_some_iff.1 hk).1)
  refine ⟨b, off, e, ?_, hr.lt⟩
  have := hr.c k [.int .i64 (x : Nat)] (by simp [nvals, hk]) 0 _ rfl
  simpa using this
theorem own_set1 {W : World} {base n c g size : Nat} {t : TypeId} {xs : List Value} (h : W.ownsRow base t size (.slice (some ⟨g, 0, none⟩) n c) n xs) (i : Nat) (hn : 0 < n) (x : Value) : (W.setCell ⟨g, i, none⟩ x).ownsRow base t size (.slice (some ⟨g, 0, none⟩) n c) n (xs.set i x) := by
  obtain ⟨hl, hv⟩ := h
  refine ⟨by simp [hl], .inr ?_⟩
  rcases hv with ⟨h1, h2⟩ | ⟨g', cap, cur, h1, h2, h3, h4, h5, h6, h7⟩
  · omega
  · injection h1 with h1 h8 h9
    injection h1 with h1
    injection h1 with h1 _ _
    subst h1 h9
    refine ⟨g, c, cur.setIfInBounds i x, rfl, h2, ?_, h4, h5, by simp [h6], ?_⟩
    · have hg : g < W.heap.size := by
        rcases Nat.lt_or_ge g W.heap.size with h1 | h1
        · exact h1
        · rw [Array.getElem?_eq_none h1] at h3; cases h3
      simp [World.setCell, Array.getElem?_modify, h3]
    · rw [← h7]
      simp [List.take_set]
theorem own_frozen {W : World} {base n c g size : Nat} {t : TypeId} {xs : List Value} (h : W.ownsRow base t size (.slice (some ⟨g, 0, none⟩) n c) n xs) (hn : 0 < n) (i : Nat) : W.frozen? ⟨g, i, none⟩ = false := by
  rcases h.2 with ⟨h1, h2⟩ | ⟨g', cap, cur, h1, h2, h3, -⟩
  · omega
  · injection h1 with h1 _ _
    injection h1 with h1
    injection h1 with h1 _ _
    subst h1
    simp [World.frozen?, h3]
theorem own_some {W : World} {base n size : Nat} {t : TypeId} {v : Value} {xs : List Value} (h : W.ownsRow base t size v n xs) (hn : 0 < n) : ∃ g c, v = .slice (some ⟨g, 0, none⟩) n c := by
  rcases h.2 with ⟨h1, h2⟩ | ⟨g', cap, cur, h1, _⟩
  · omega
  · exact ⟨g', cap, h1⟩
/-- What an owned row's cell holds. -/
theorem own_at {W : World} {base size n c g : Nat} {t : TypeId} {xs : List Value} (h : W.ownsRow base t size (.slice (some ⟨g, 0, none⟩) n c) n xs) (i : Nat) (v : Value) (hv : xs[i]? = some v) : W.cell? ⟨g, i, none⟩ = some v := by
  have hl := h.1
  have hi := (List.getElem?_eq_some_iff.1 hv).1
  rcases h.2 with ⟨h1, h2⟩ | ⟨g', cap, cur, h1, h2, h3, h4, h5, h6, h7⟩
  · injection h1 with h1 _ _; cases h1
  · injection h1 with h1 _ _
    injection h1 with h1
    injection h1 with h1 _ _
    subst h1
    rw [← h7, List.getElem?_take] at hv
    split at hv
    · simp [World.cell?, h3]
      simpa using hv
    · cases hv
theorem own_cell {W : World} {base c g n : Nat} {l : List Nat} (h : W.ownsRow base 3 1 (.slice (some ⟨g, 0, none⟩) n c) n (nvals l).flatten) (i y : Nat) (hy : l[i]? = some y) : W.cell? ⟨g, i, none⟩ = some (.int .i64 (y : Nat)) :=
  own_at h i _ (by rw [nvals_flat, List.getElem?_map, hy]; rfl)
theorem info3 : (Tryz.prog.info? 3).map (fun i => (i.zero, i.size, i.bytes)) = some (some (.int .i64 0), 1, 8) := by kernel_rfl
theorem under24 : Tryz.prog.underlying 29 = some (.slice 3) := by kernel_rfl

/-- What the sort has done: k indexes in order. -/
structure SoI (pts : List (List Int)) (a : Nat) (s : List Nat) (w : World) (o : List Nat) (v : Value) (W : World) : Prop where
  perm : o.Perm (s.take o.length)
  pw : o.Pairwise fun i j => leB pts a i j = true
  own : W.ownsRow w.heap.size 3 1 v o.length (nvals o).flatten
  bel : Below w.heap.size w W
/-- One index on its way down. -/
structure SoJ (pts : List (List Int)) (a : Nat) (s : List Nat) (w : World) (k x g c : Nat) (A B : List Nat) (W : World) : Prop where
  len : A.length + B.length = k
  perm : (A ++ B).Perm (s.take k)
  pw : (A ++ B).Pairwise fun i j => leB pts a i j = true
  lt : ∀ b ∈ B, bef pts a x b = true
  own : W.ownsRow w.heap.size 3 1 (.slice (some ⟨g, 0, none⟩) (k + 1) c) (k + 1) (nvals (A ++ x :: B)).flatten
  bel : Below w.heap.size w W
theorem take_snoc {s : List Nat} {k x : Nat} (h : s[k]? = some x) : s.take (k + 1) = s.take k ++ [x] := by
  rw [List.take_add_one, h]; rfl
theorem SoJ.fin {pts : List (List Int)} {a : Nat} {s : List Nat} {w W : World} {k x g c : Nat} {A B : List Nat} (h : SoJ pts a s w k x g c A B W) (hx : s[k]? = some x) (hA : ∀ z, A.getLast? = some z → bef pts a x z = false) : SoI pts a s w (A ++ x :: B) (.slice (some ⟨g, 0, none⟩) (A ++ x :: B).length c) W := by
  have hl : (A ++ x :: B).length = k + 1 := by simp; have := h.len; omega
  refine ⟨?_, ?_, by rw [hl]; exact h.own, h.bel⟩
  · rw [hl, take_snoc hx]
    have h1 : (A ++ x :: B).Perm ((A ++ B) ++ [x]) := by
      have : (A ++ x :: B).Perm (x :: (A ++ B)) := List.perm_middle
      exact this.trans (List.perm_append_comm (l₁ := [x]) (l₂ := A ++ B))
    exact h1.trans (h.perm.append_right [x])
  · have hp := List.pairwise_append.1 h.pw
    rw [List.pairwise_append]
    refine ⟨hp.1, ?_, ?_⟩
    · rw [List.pairwise_cons]
      refine ⟨fun b hb => ?_, hp.2.1⟩
      have h1 := h.lt b hb
      rw [leB_iff]
      unfold bef at h1
      simp only [decide_eq_true_eq] at h1
      omega
    · intro y hy z hz
      rw [List.mem_cons] at hz
      rcases hz with rfl | hz
      · cases hl2 : A.getLast? with
        | none =>
          rw [List.getLast?_eq_none_iff] at hl2
          subst hl2; cases hy
        | some u =>
          have hu := hA u hl2
          obtain ⟨A', hA'⟩ := List.getLast?_eq_some_iff.1 hl2
          have hux : leB pts a u z = true := by unfold leB; rw [hu]; rfl
          rw [hA'] at hy hp
          rw [List.mem_append] at hy
          rcases hy with hy | hy
          · have := (List.pairwise_append.1 hp.1).2.2 y hy u (by simp)
            exact leB_trans _ _ _ _ _ this hux
          · simp at hy; subst hy; exact hux
      · exact hp.2.2 y hy z hz
theorem SoJ.step {pts : List (List Int)} {a : Nat} {s : List Nat} {w W : World} {k x g c z : Nat} {A B : List Nat} (h : SoJ pts a s w k x g c (A ++ [z]) B W) (hz : bef pts a x z = true) (hg : w.heap.size ≤ g) : SoJ pts a s w k x g c A (z :: B) (((W.setCell ⟨g, A.length + 1, none⟩ (.int .i64 (z : Nat))).setCell ⟨g, A.length, none⟩ (.int .i64 (x : Nat))).drew) := by
  have hl := h.len
  simp only [List.length_append, List.length_cons, List.length_nil] at hl
  have e : A ++ [z] ++ B = A ++ z :: B := by simp
  refine ⟨by simp; omega, by rw [← e]; exact h.perm, by rw [← e]; exact h.pw, fun b hb => ?_, ?_, ?_⟩
  · rw [List.mem_cons] at hb
    rcases hb with rfl | hb
    · exact hz
    · exact h.lt b hb
  · have h1 := own_set1 h.own (A.length + 1) (by omega) (.int .i64 (z : Nat))
    have h2 := own_set1 h1 A.length (by omega) (.int .i64 (x : Nat))
    rw [← nvals_set, ← nvals_set] at h2
    have e2 : ((A ++ [z] ++ x :: B).set (A.length + 1) z).set A.length x = A ++ x :: z :: B := by
      rw [List.append_assoc, List.set_append_right _ _ (by omega), List.set_append_right _ _ (by omega)]
      simp
    rw [e2] at h2
    exact h2
  · exact (Below.setCell (p := ⟨g, A.length, none⟩) (Below.setCell (p := ⟨g, A.length + 1, none⟩) h.bel hg _) hg _).drew
def NatsP (l : List Nat) (w : World) (e : Ending) (W : World) : Prop := ∃ (oa : Option Addr) (ca : Nat), e = .returned (.slice oa l.length ca) ∧ l.length ≤ ca ∧ Sl W oa 1 (nvals l) ∧ Below w.heap.size w W ∧ ∀ a, oa = some a → w.heap.size ≤ a.block
end Go.Proofs.Ng
end

