/-
  Texts put together: Re Kb Ju.
-/
import Derived.Test.YtgkihlkhklmgcaaGreatZTrajectorySteps13
import Derived.Test.YtgkihlkhklmgcaaGreatZTrajectorySteps14
import Derived.OwnWalk
import Derived.BigRegion
import Derived.StillTailTactics
import Derived.Deep.RegionHeld3
import Derived.Deep.DeepCutAuto
import Derived.Deep.CutBlock
import Derived.Deep.AppendLies
import Derived.Deep.RegionLaw
set_option linter.unusedVariables false
section
/-
  Walks: the reference's product of two ranges.
-/
namespace Go.Proofs.En
open Go.RowKit
theorem Cells2.put1 {W : World} {b : Nat} {x y : Value} (h : Cells2 W b x y) (y' : Value) : Cells2 (W.setCell ⟨b, 1, none⟩ y') b x y' := by
 have h0 := h.c0; have h1 := h.c1; have h2 := h.f0; have h3 := h.f1
 refine ⟨by simp [go_sem, h0], by simp [go_sem, h1], by simp [go_sem, h2], by simp [go_sem, h3], by have := h.lt; simp [World.setCell]; exact this⟩
end Go.Proofs.En
end

section
/-
  Merged: Jk Jl Jm Jn Jo Jp Jq Jr Js Jt.
-/
section
/-
 Walks: the small functions of Rates.
-/
namespace Go.Proofs.En
open Go.RowKit
end Go.Proofs.En
end
section
/-
 The rate of a joint; Same.
-/
namespace Go.Proofs.En
open Go.RowKit
end Go.Proofs.En
end
section
/-
 A slice of the call's own; the reference's Rates.
-/
namespace Go.Proofs.En
open Go.RowKit
theorem own_keep {W W' : World} {base : Nat} {e : TypeId} {size n : Nat} {v : Value} {xs : List Value} (h : W.ownsRow base e size v n xs) (hb : Below W.heap.size W W') : W'.ownsRow base e size v n xs := by
 refine ⟨h.1, ?_⟩
 rcases h.2 with h0 | ⟨g, cap, cur, hv, hbg, hg, rest⟩
 ·exact .inl h0
 ·have hlt : g < W.heap.size := by
   rcases Nat.lt_or_ge g W.heap.size with h | h
   ·exact h
   ·rw [Array.getElem?_eq_none h] at hg; cases hg
  exact .inr ⟨g, cap, cur, hv, hbg, (hb.block g hlt).trans hg, rest⟩
theorem grown_below {W W' : World} {base : Nat} {e : TypeId} {size n : Nat} {v : Value} {xs : List Value} (h : W.ownsRow base e size v n xs) (hg : W.grownBy W' v.ownBlock) (hb : base ≤ W.heap.size) : Below base W W' := by
 refine ⟨hg.os, hg.tape, hg.output, hg.size, fun k hk => hg.block k (by omega) fun e => ?_⟩
 have := (World.ownsRow.lt h) k e.symm
 omega
theorem Row.low {W W' : World} {b base : Nat} {l : List Value} (h : Row W b l) (hlt : b < base) (hb : Below base W W') : Row W' b l := by
 refine ⟨fun j v hj => ?_, Nat.lt_of_lt_of_le h.lt hb.size⟩
 rw [← h.c j v hj]
 simp [World.cell?, hb.block b hlt]
def bothIn (js : List JV) (ms : List MV) (ps qs : List Int) : Prop := (okR js ms ∧ inP js ps) ∧ (okR js ms ∧ inP js qs)
/-- The bounds of a joint that stands. -/
theorem joint_bd {js : List JV} {j : JV} {k : Int} (h : checkJ js j k = 0) : -4194304 ≤ j.lo ∧ j.hi ≤ 4194304 := by
 unfold checkJ at h
 have lb := limitF_bd j.kind
 split at h
 ·cases h
 ·split at h
  ·cases h
  ·split at h
   ·cases h
   ·split at h
    ·cases h
    ·split at h
     ·cases h
     ·omega
end Go.Proofs.En
end
section
/-
 Walks: the reference's Rates.
-/
namespace Go.Proofs.En
open Go.RowKit
end Go.Proofs.En
end
section
/-
 Walks: Rates.
-/
namespace Go.Proofs.En
open Go.RowKit
end Go.Proofs.En
end
section
/-
 Walks: the law's rates.
-/
namespace Go.Proofs.En
open Go.RowKit
end Go.Proofs.En
end
section
/-
 Walks: the maker's source.
-/
namespace Go.Proofs.En
open Go.RowKit
/-- The source's box. -/
structure Src (W : World) (nS : Nat) (os : Option Addr) (cap : Nat) (xs : List Int) : Prop where
 box : ∃ k : Nat, k ≤ xs.length ∧ Cells2 W nS (.slice os xs.length cap) (.int .i64 k)
 ints : Sl W os 1 (pvals xs)
 off : xs ≠ [] → ∀ b o s, os = some ⟨b, o, s⟩ → b ≠ nS
 len : xs.length ≤ 9223372036854775807
theorem grown_trans {a b c : World} {r : Option Nat} (h : a.grownBy b r) (k : b.grownBy c r) : a.grownBy c r :=
 ⟨k.os.trans h.os, k.tape.trans h.tape, k.output.trans h.output, Nat.le_trans h.size k.size, fun i hi hn => (k.block i (Nat.lt_of_lt_of_le hi h.size) hn).trans (h.block i hi hn)⟩
theorem grown_of_below {a b : World} {r : Option Nat} (h : Below a.heap.size a b) : a.grownBy b r := ⟨h.os, h.tape, h.output, h.size, fun k hk _ => h.block k hk⟩
theorem grown_set (a : World) (n i : Nat) (v : Value) : a.grownBy (a.setCell ⟨n, i, none⟩ v) (some n) :=
 ⟨rfl, rfl, rfl, by simp [World.setCell], fun k _ hn => Below.heap_setCell a ⟨n, i, none⟩ v k (fun e => hn (by rw [e]))⟩
theorem RowsAt.keepG {w w' : World} {b off n nS : Nat} {l : List (List Value)} (h : RowsAt w b off n l) (hg : w.grownBy w' (some nS)) (hne : b ≠ nS) : RowsAt w' b off n l :=
 ⟨Nat.lt_of_lt_of_le h.lt hg.size, fun i r hi k v hv => by
  rw [← h.c i r hi k v hv]
  simp [World.cell?, hg.block b h.lt (fun e => hne (by injection e))]⟩
set_option maxRecDepth 100000 in
set_option maxHeartbeats 2000000 in
theorem next_any (W : World) (nS : Nat) (os : Option Addr) (cap : Nat) (xs : List Int) (n : Int) (hS : Src W nS os cap xs) (h1 : 1 ≤ n) (h2 : n ≤ 1000000000000) :
  Calls Tryz.prog 21 #[.pointer (some ⟨nS, 0, none⟩), .int .i64 n] W (fun e W' => ∃ r : Int, 0 ≤ r ∧ r < n ∧ e = .returned (.int .i64 r) ∧ W.grownBy W' (some nS) ∧ Src W' nS os cap xs) := by
 obtain ⟨⟨k, hk, hc⟩, hints, hoff, hlen⟩ := hS
 have k0 := hc.c0; have k1 := hc.c1; have k2 := hc.f0; have k3 := hc.f1; have k4 := hc.lt
 by_cases hlt : k < xs.length
 ·have hlt' : decide ((xs.length : Int) ≤ (k : Int)) = false := decide_eq_false (by omega)
  have hlt'' : decide (xs.length ≤ k) = false := decide_eq_false (by omega)
  obtain ⟨x, hx⟩ : ∃ x, xs[k]? = some x := ⟨_, List.getElem?_eq_getElem hlt⟩
  obtain ⟨b, off, rfl, hr⟩ := hints (pvals_ne hlt)
  have hbne := hoff (by intro h; subst h; simp at hlt) b off none rfl
  go_enter Tryz.func21, Tryz.ntmps21
  go_wp2_with fail
  go_quiet (fail)
  have hcV := hc.keep (below_drew W nq)
  have hrV := hr.keep (below_drew W nq)
  have hgV : W.grownBy (W.drewN nq) (some nS) := grown_of_below (below_drew W nq)
  clear k0 k1 k2 k3 k4
  generalize W.drewN nq = V at hcV hrV hgV ⊢
  have k0 := hcV.c0; have k1 := hcV.c1; have k2 := hcV.f0; have k3 := hcV.f1; have k4 := hcV.lt
  go_wp2_with fail
  have hcX : Cells2 (V.setCell ⟨nS, 1, none⟩ (.int .i64 ((k : Int) + 1))) nS (.slice (some ⟨b, off, none⟩) xs.length cap) (.int .i64 ((k : Int) + 1)) := hcV.put1 _
  have hgX := grown_trans hgV (grown_set V nS 1 (.int .i64 ((k : Int) + 1)))
  have hrX := hrV.keepG (grown_set V nS 1 (.int .i64 ((k : Int) + 1))) hbne
  clear k0 k1 k2 k3 k4 hcV hrV hgV
  generalize (V.setCell ⟨nS, 1, none⟩ (.int .i64 ((k : Int) + 1))) = X at hcX hgX hrX ⊢
  have k0 := hcX.c0; have k1 := hcX.c1; have k2 := hcX.f0; have k3 := hcX.f1; have k4 := hcX.lt
  have x0 : X.cell? ⟨b, off + k, none⟩ = some (.int .i64 x) := by have := hrX.c k _ (pvals_get hx) 0 _ rfl; simpa using this
  have hw1 : IntKind.i64.wrap ((k : Int) + 1 - 1) = (k : Int) := by rw [IntWalk.i64_in _ (by omega)]; omega
  have hw2 : IntKind.i64.wrap (k : Int) = (k : Int) := IntWalk.i64_in _ (by omega)
  have HC : Hid (∀ w, Calls Tryz.prog 8 #[.int .i64 x, .int .i64 n] w fun e w' => e = .returned (.int .i64 (x % n)) ∧ w' = w) := Lib.hid (fun w => (round_any x n w (by omega) (by omega)).mono fun _ _ ⟨h, h'⟩ => ⟨h, h'.symm⟩)
  have hr0 : 0 ≤ x % n := Int.emod_nonneg _ (by omega)
  have hr1 : x % n < n := Int.emod_lt_of_pos _ (by omega)
  have HR0 := Lib.hid hr0
  have HR1 := Lib.hid hr1
  clear hr0 hr1
  go_quiet ((go_at_call 8; exact Calls.quiet_of_same (HC.out _)))
  have hcY := hcX.keep (below_drew X nq)
  have hrY := hrX.keep (below_drew X nq)
  have hgY := grown_trans hgX (grown_of_below (below_drew X nq))
  clear k0 k1 k2 k3 k4 x0 hw1 hw2
  generalize X.drewN nq = Y at hcY hrY hgY ⊢
  go_wp2
  go_ret
  exact ⟨x % n, HR0.out, HR1.out, rfl, hgY, ⟨⟨k + 1, by omega, hcY⟩, fun _ => ⟨b, off, rfl, hrY⟩, hoff, hlen⟩⟩
 ·have hlt' : decide ((xs.length : Int) ≤ (k : Int)) = true := decide_eq_true (by omega)
  have hlt'' : decide (xs.length ≤ k) = true := decide_eq_true (by omega)
  go_enter Tryz.func21, Tryz.ntmps21
  go_wp2_with fail
  go_quiet (fail)
  have hcV := hc.keep (below_drew W nq)
  have hiV := hints.keep (below_drew W nq)
  have hgV : W.grownBy (W.drewN nq) (some nS) := grown_of_below (below_drew W nq)
  clear k0 k1 k2 k3 k4
  generalize W.drewN nq = V at hcV hiV hgV ⊢
  go_wp2
  go_ret
  exact ⟨0, by omega, by omega, rfl, hgV, ⟨⟨k, hk, hcV⟩, hiV, hoff, hlen⟩⟩
end Go.Proofs.En
end
section
/-
 Walks: the maker's small functions.
-/
namespace Go.Proofs.En
open Go.RowKit
/-- A number that the source gave. -/
def NumP (W : World) (nS : Nat) (os : Option Addr) (cap : Nat) (xs : List Int) (lo hi : Int) (e : Ending) (W' : World) : Prop := ∃ r : Int, lo ≤ r ∧ r ≤ hi ∧ e = .returned (.int .i64 r) ∧ W.grownBy W' (some nS) ∧ Src W' nS os cap xs
theorem from_any (os : Option Addr) (cap n : Nat) (w : World) : Calls Tryz.prog 20 #[.slice os n cap] w (fun e w' => e = .returned (.pointer (some ⟨w.heap.size, 0, none⟩)) ∧ w' = w.alloc (.cells #[.slice os n cap, .int .i64 0] 103)) := by
 go_enter Tryz.func20, Tryz.ntmps20
 go_wp2
 go_ret
 exact ⟨rfl, rfl⟩
set_option maxHeartbeats 1000000 in
theorem signed_any (W : World) (nS : Nat) (os : Option Addr) (cap : Nat) (xs : List Int) (n : Int) (hS : Src W nS os cap xs) (h1 : 0 ≤ n) (h2 : n ≤ 1000000) :
  Calls Tryz.prog 61 #[.pointer (some ⟨nS, 0, none⟩), .int .i64 n] W (NumP W nS os cap xs (-n) n) := by
 go_enter Tryz.func61, Tryz.ntmps61
 go_wp2_with fail
 refine (next_any W nS os cap xs _ hS (by omega) (by omega)).mono ?_
 rintro e W1 ⟨r, r1, r2, rfl, hg, hS1⟩
 go_wp2
 go_ret
 exact ⟨r - n, by omega, by omega, rfl, hg, hS1⟩
/-- The name of a made joint. -/
def nm (i : Int) : ByteArray := ⟨#[(97 + i).toNat.toUInt8]⟩
theorem letterS (i : Int) (w : World) (h1 : 0 ≤ i) (h2 : i ≤ 3) : Calls Tryz.prog 40 #[.int .i64 i] w (fun e w' => e = .returned (.string (nm i)) ∧ w' = w) := by
 rcases (show i = 0 ∨ i = 1 ∨ i = 2 ∨ i = 3 by omega) with rfl | rfl | rfl | rfl
 all_goals
  go_enter Tryz.func40, Tryz.ntmps40
  go_wp2
  go_ret
  exact ⟨by kernel_rfl, rfl⟩
end Go.Proofs.En
end
section
/-
 Walks: the maker's joint.
-/
namespace Go.Proofs.En
open Go.RowKit
/-- A block whose first cells are these, none frozen. -/
structure Blk (W : World) (b : Nat) (l : List Value) : Prop where
 c : ∀ i v, l[i]? = some v → W.cell? ⟨b, i, none⟩ = some v
 f : ∀ i, W.frozen? ⟨b, i, none⟩ = false
 lt : b < W.heap.size
theorem Blk.new (W : World) (l : List Value) (t : TypeId) : Blk (W.alloc (.cells l.toArray t)) W.heap.size l := by
 refine ⟨fun j v hj => ?_, fun i => ?_, by simp⟩
 ·exact (Row.new W l t).c j v hj
 ·simp
theorem Blk.keep {W W' : World} {b : Nat} {l : List Value} (h : Blk W b l) (hb : Below W.heap.size W W') : Blk W' b l := by
 have e := hb.block b h.lt
 refine ⟨fun i v hi => ?_, fun i => ?_, Nat.lt_of_lt_of_le h.lt hb.size⟩
 ·rw [← h.c i v hi]; simp [World.cell?, e]
 ·rw [← h.f i]; simp [World.frozen?, e]
theorem Blk.keepG {W W' : World} {b nS : Nat} {l : List Value} (h : Blk W b l) (hg : W.grownBy W' (some nS)) (hne : b ≠ nS) : Blk W' b l := by
 have e := hg.block b h.lt (fun e => hne (by injection e))
 refine ⟨fun i v hi => ?_, fun i => ?_, Nat.lt_of_lt_of_le h.lt hg.size⟩
 ·rw [← h.c i v hi]; simp [World.cell?, e]
 ·rw [← h.f i]; simp [World.frozen?, e]
theorem Blk.put {W : World} {b : Nat} {l : List Value} (h : Blk W b l) (i : Nat) (v : Value) : Blk (W.setCell ⟨b, i, none⟩ v) b (l.set i v) := by
 refine ⟨fun j u hj => ?_, fun j => ?_, by have := h.lt; simp [World.setCell]; exact this⟩
 ·rw [List.getElem?_set] at hj
  by_cases e : i = j
  ·subst e
   simp at hj
   obtain ⟨hl, rfl⟩ := hj
   have := h.c i _ (List.getElem?_eq_getElem hl)
   simp [go_sem, this]
  ·rw [if_neg e] at hj
   have := h.c j u hj
   rw [← this]
   simp [go_sem]
 ·have := h.f j
  simp [go_sem, this]
theorem Src.keepB {W W' : World} {nS : Nat} {os : Option Addr} {cap : Nat} {xs : List Int} (h : Src W nS os cap xs) (hb : Below W.heap.size W W') : Src W' nS os cap xs := by
 obtain ⟨⟨k, hk, hc⟩, hi, ho, hl⟩ := h
 exact ⟨⟨k, hk, hc.keep hb⟩, hi.keep hb, ho, hl⟩
theorem src_lt {W : World} {nS : Nat} {os : Option Addr} {cap : Nat} {xs : List Int} (h : Src W nS os cap xs) : nS < W.heap.size := by
 obtain ⟨⟨k, hk, hc⟩, _⟩ := h
 exact hc.lt
/-- The world inside the maker's joint. -/
structure MJ (w : World) (nS n4 n5 : Nat) (os : Option Addr) (cap : Nat) (xs : List Int) (j : JV) (W : World) : Prop where
 gr : w.grownBy W (some nS)
 src : Src W nS os cap xs
 b4 : ∃ l : List Value, l.length = 12 ∧ Blk W n4 l
 b5 : Blk W n5 j.vals
 h4 : n4 ≠ nS
 h5 : n5 ≠ nS
 w4 : w.heap.size ≤ n4
 w5 : w.heap.size ≤ n5
 i0 : Sl w os 1 (pvals xs)
 n45 : n4 ≠ n5
theorem MJ.next {w W W' : World} {nS n4 n5 : Nat} {os : Option Addr} {cap : Nat} {xs : List Int} {j : JV} (h : MJ w nS n4 n5 os cap xs j W) (hg : W.grownBy W' (some nS)) (hS : Src W' nS os cap xs) : MJ w nS n4 n5 os cap xs j W' := by
 obtain ⟨l, hl, hb⟩ := h.b4
 exact ⟨grown_trans h.gr hg, hS, ⟨l, hl, hb.keepG hg h.h4⟩, h.b5.keepG hg h.h5, h.h4, h.h5, h.w4, h.w5, h.i0, h.n45⟩
theorem MJ.put {w W : World} {nS n4 n5 : Nat} {os : Option Addr} {cap : Nat} {xs : List Int} {j j' : JV} (h : MJ w nS n4 n5 os cap xs j W) (i : Nat) (v : Value) (hv : j'.vals = j.vals.set i v) : MJ w nS n4 n5 os cap xs j' (W.setCell ⟨n5, i, none⟩ v) := by
 have e : ∀ k, k ≠ n5 → (W.setCell ⟨n5, i, none⟩ v).heap[k]? = W.heap[k]? := fun k hk => Below.heap_setCell W ⟨n5, i, none⟩ v k hk
 have hsz : (W.setCell ⟨n5, i, none⟩ v).heap.size = W.heap.size := by simp [World.setCell]
 have w5 := h.w5
 obtain ⟨l, hl, b4⟩ := h.b4
 obtain ⟨⟨k, hk, hc⟩, hi, ho, hln⟩ := h.src
 have h5 := h.h5
 have n45 := h.n45
 refine ⟨⟨h.gr.os, h.gr.tape, h.gr.output, by rw [hsz]; exact h.gr.size, fun q hq hn => (e q (by omega)).trans (h.gr.block q hq hn)⟩, ⟨⟨k, hk, hc.other (fun e => h5 e.symm) _ _⟩, ?_, ho, hln⟩, ⟨l, hl, ?_⟩, by rw [hv]; exact h.b5.put i v, h.h4, h.h5, h.w4, h.w5, h.i0, h.n45⟩
 ·intro hne
  obtain ⟨b, off, e1, hr⟩ := hi hne
  obtain ⟨b', off', e1', hr'⟩ := h.i0 hne
  rw [e1] at e1'
  injection e1' with e1'
  injection e1' with e1' _ _
  have hlt := hr'.lt
  refine ⟨b, off, e1, ⟨by rw [hsz]; exact hr.lt, fun i' r hr1 k' v' hv' => ?_⟩⟩
  rw [← hr.c i' r hr1 k' v' hv']
  simp [World.cell?, e b (by omega)]
 ·refine ⟨fun q u hu => ?_, fun q => ?_, by rw [hsz]; exact b4.lt⟩
  ·rw [← b4.c q u hu]; simp [World.cell?, e n4 n45]
  ·rw [← b4.f q]; simp [World.frozen?, e n4 n45]
theorem MJ.put4 {w W : World} {nS n4 n5 : Nat} {os : Option Addr} {cap : Nat} {xs : List Int} {j : JV} (h : MJ w nS n4 n5 os cap xs j W) (i : Nat) (v : Value) : MJ w nS n4 n5 os cap xs j (W.setCell ⟨n4, i, none⟩ v) := by
 have e : ∀ k, k ≠ n4 → (W.setCell ⟨n4, i, none⟩ v).heap[k]? = W.heap[k]? := fun k hk => Below.heap_setCell W ⟨n4, i, none⟩ v k hk
 have hsz : (W.setCell ⟨n4, i, none⟩ v).heap.size = W.heap.size := by simp [World.setCell]
 have w4 := h.w4
 obtain ⟨l, hl, b4⟩ := h.b4
 obtain ⟨⟨k, hk, hc⟩, hi, ho, hln⟩ := h.src
 have h4 := h.h4
 have n45 := h.n45
 have b5 := h.b5
 refine ⟨⟨h.gr.os, h.gr.tape, h.gr.output, by rw [hsz]; exact h.gr.size, fun q hq hn => (e q (by omega)).trans (h.gr.block q hq hn)⟩, ⟨⟨k, hk, hc.other (fun e => h4 e.symm) _ _⟩, ?_, ho, hln⟩, ⟨l.set i v, by simpa using hl, b4.put i v⟩, ?_, h.h4, h.h5, h.w4, h.w5, h.i0, h.n45⟩
 ·intro hne
  obtain ⟨b, off, e1, hr⟩ := hi hne
  obtain ⟨b', off', e1', hr'⟩ := h.i0 hne
  rw [e1] at e1'
  injection e1' with e1'
  injection e1' with e1' _ _
  have hlt := hr'.lt
  refine ⟨b, off, e1, ⟨by rw [hsz]; exact hr.lt, fun i' r hr1 k' v' hv' => ?_⟩⟩
  rw [← hr.c i' r hr1 k' v' hv']
  simp [World.cell?, e b (by omega)]
 ·refine ⟨fun q u hu => ?_, fun q => ?_, by rw [hsz]; exact b5.lt⟩
  ·rw [← b5.c q u hu]; simp [World.cell?, e n5 (fun e => n45 e.symm)]
  ·rw [← b5.f q]; simp [World.frozen?, e n5 (fun e => n45 e.symm)]
/-- A made joint. -/
structure GJ (i : Int) (j : JV) : Prop where
 name : j.name = nm i
 kind : 0 ≤ j.kind ∧ j.kind ≤ 5
 parent : -1 ≤ j.parent ∧ j.parent ≤ i - 1
 off : (-4194304 ≤ j.o0 ∧ j.o0 ≤ 4194304) ∧ (-4194304 ≤ j.o1 ∧ j.o1 ≤ 4194304) ∧ (-4194304 ≤ j.o2 ∧ j.o2 ≤ 4194304)
 lim : (-limitF j.kind ≤ j.lo ∧ j.lo ≤ 0) ∧ (0 ≤ j.hi ∧ j.hi ≤ limitF j.kind)
 weight : 1 ≤ j.weight ∧ j.weight ≤ 4
 speed : j.speed = 65536
 accel : 65536 ≤ j.accel ∧ j.accel ≤ 65538
 torque : j.torque = 327680
theorem tdl (a : Int) (h1 : 0 ≤ a) (h2 : a < 5) : -524288 ≤ (-a * 65536).tdiv 8 ∧ (-a * 65536).tdiv 8 ≤ 0 := by
 rcases (show a = 0 ∨ a = 1 ∨ a = 2 ∨ a = 3 ∨ a = 4 by omega) with rfl | rfl | rfl | rfl | rfl <;> decide
theorem MJ.put67 {w W : World} {nS n4 n5 : Nat} {os : Option Addr} {cap : Nat} {xs : List Int} {i : Int} {j : JV} (h : MJ w nS n4 n5 os cap xs j W) (hG : GJ i j) (x y : Int) (hx : -limitF j.kind ≤ x ∧ x ≤ 0) (hy : 0 ≤ y ∧ y ≤ limitF j.kind) : ∃ j', GJ i j' ∧ MJ w nS n4 n5 os cap xs j' ((W.setCell ⟨n5, 6, none⟩ (.int .i64 x)).setCell ⟨n5, 7, none⟩ (.int .i64 y)) :=
 ⟨{ j with lo := x, hi := y }, ⟨hG.name, hG.kind, hG.parent, hG.off, ⟨hx, hy⟩, hG.weight, hG.speed, hG.accel, hG.torque⟩, (h.put (j' := { j with lo := x }) 6 _ rfl).put 7 _ rfl⟩
set_option maxRecDepth 100000 in
set_option maxHeartbeats 4000000 in
theorem jointM (w : World) (nS : Nat) (os : Option Addr) (cap : Nat) (xs : List Int) (i : Int) (hS : Src w nS os cap xs) (h1 : 0 ≤ i) (h2 : i ≤ 3) :
  Calls Tryz.prog 60 #[.pointer (some ⟨nS, 0, none⟩), .int .i64 i] w (fun e W' => ∃ j : JV, GJ i j ∧ e = .returned (.agg j.vals.toArray) ∧ w.grownBy W' (some nS) ∧ Src W' nS os cap xs) := by
 go_enter Tryz.func60, Tryz.ntmps60
 go_wp2_with fail
 refine (letterS i _ h1 h2).mono ?_
 rintro e w1 ⟨rfl, rfl⟩
 generalize hs : nm i = s
 have HS := Lib.hid hs
 clear hs
 go_wp2_with fail
 have hba : Below w.heap.size w (w.alloc (.cells #[.string ⟨#[]⟩, .int .i64 0, .int .i64 0, .int .i64 0, .int .i64 0, .int .i64 0, .int .i64 0, .int .i64 0, .int .i64 0, .int .i64 0, .int .i64 0, .int .i64 0] 64)) := (Below.refl _ _).alloc (Nat.le_refl _) _
 have b4 := Blk.new w [.string ⟨#[]⟩, .int .i64 0, .int .i64 0, .int .i64 0, .int .i64 0, .int .i64 0, .int .i64 0, .int .i64 0, .int .i64 0, .int .i64 0, .int .i64 0, .int .i64 0] 64
 have hS0 := hS.keepB hba
 have g0 : w.grownBy (w.alloc (.cells #[.string ⟨#[]⟩, .int .i64 0, .int .i64 0, .int .i64 0, .int .i64 0, .int .i64 0, .int .i64 0, .int .i64 0, .int .i64 0, .int .i64 0, .int .i64 0, .int .i64 0] 64)) (some nS) := grown_of_below hba
 have ne4 : w.heap.size ≠ nS := by have := src_lt hS; omega
 clear hba
 generalize (w.alloc (.cells #[.string ⟨#[]⟩, .int .i64 0, .int .i64 0, .int .i64 0, .int .i64 0, .int .i64 0, .int .i64 0, .int .i64 0, .int .i64 0, .int .i64 0, .int .i64 0, .int .i64 0] 64)) = W0 at b4 hS0 g0 ⊢
 generalize hn4 : w.heap.size = n4 at b4 ne4 ⊢
 have HN4 := Lib.hid hn4
 clear hn4
 refine (next_any _ nS os cap xs 4 hS0 (by omega) (by omega)).mono ?_
 rintro e W1 ⟨r, r1, r2, rfl, hg1, hS1⟩
 have b41 := b4.keepG hg1 ne4
 have g1 := grown_trans g0 hg1
 clear b4 g0 hg1 hS0
 go_wp2_with fail
 refine (next_any _ nS os cap xs 3 hS1 (by omega) (by omega)).mono ?_
 rintro e W2 ⟨q, q1, q2, rfl, hg2, hS2⟩
 have b42 := b41.keepG hg2 ne4
 have g2 := grown_trans g1 hg2
 clear b41 g1 hg2 hS1
 go_wp2_with fail
 have hba : Below W2.heap.size W2 (W2.alloc (.cells #[.string s, .int .i64 0, .int .i64 (i - 1), .int .i64 0, .int .i64 0, .int .i64 0, .int .i64 0, .int .i64 0, .int .i64 (1 + r), .int .i64 65536, .int .i64 (65536 + q), .int .i64 327680] 64)) := (Below.refl _ _).alloc (Nat.le_refl _) _
 have hM : MJ w nS n4 W2.heap.size os cap xs ⟨s, 0, i - 1, 0, 0, 0, 0, 0, 1 + r, 65536, 65536 + q, 327680⟩ (W2.alloc (.cells #[.string s, .int .i64 0, .int .i64 (i - 1), .int .i64 0, .int .i64 0, .int .i64 0, .int .i64 0, .int .i64 0, .int .i64 (1 + r), .int .i64 65536, .int .i64 (65536 + q), .int .i64 327680] 64)) :=
  ⟨grown_trans g2 (grown_of_below hba), hS2.keepB hba, ⟨_, rfl, b42.keep hba⟩, Blk.new W2 [.string s, .int .i64 0, .int .i64 (i - 1), .int .i64 0, .int .i64 0, .int .i64 0, .int .i64 0, .int .i64 0, .int .i64 (1 + r), .int .i64 65536, .int .i64 (65536 + q), .int .i64 327680] 64, ne4, by have := src_lt hS2; omega, by rw [HN4.out]; exact Nat.le_refl _, g2.size, hS.ints, by have := b42.lt; omega⟩
 clear hba g2 hS2 b42 hS
 generalize (W2.alloc (.cells #[.string s, .int .i64 0, .int .i64 (i - 1), .int .i64 0, .int .i64 0, .int .i64 0, .int .i64 0, .int .i64 0, .int .i64 (1 + r), .int .i64 65536, .int .i64 (65536 + q), .int .i64 327680] 64)) = W3 at hM ⊢
 generalize W2.heap.size = n5 at hM ⊢
 have hwt : 1 ≤ 1 + r ∧ 1 + r ≤ 4 := by omega
 have hac : 65536 ≤ 65536 + q ∧ 65536 + q ≤ 65538 := by omega
 have hpa : -1 ≤ i - 1 ∧ i - 1 ≤ i - 1 := by omega
 have HWT := Lib.hid hwt
 have HAC := Lib.hid hac
 have HPA := Lib.hid hpa
 clear hwt hac hpa
 generalize 1 + r = wt at hM HWT ⊢
 generalize 65536 + q = ac at hM HAC ⊢
 generalize hpv : i - 1 = pa at hM ⊢
 have HPA : Hid (-1 ≤ pa ∧ pa ≤ i - 1) := Lib.hid (by rw [← hpv]; exact HPA.out)
 clear hpv
 refine (next_any _ nS os cap xs 8 hM.src (by omega) (by omega)).mono ?_
 rintro e W4 ⟨t, t1, t2, rfl, hg4, hS4⟩
 replace hM := hM.next hg4 hS4
 clear hg4 hS4
 have hix : ∃ kd : Int, (0 ≤ kd ∧ kd ≤ 5) ∧ ∀ w, (Instr.index 187 (.agg #[.int .i64 3, .int .i64 3, .int .i64 1, .int .i64 2, .int .i64 4, .int .i64 5, .int .i64 3, .int .i64 0]) (.int .i64 t)).run Tryz.prog w = .ok (.int .i64 kd) w := by
  rcases (show t = 0 ∨ t = 1 ∨ t = 2 ∨ t = 3 ∨ t = 4 ∨ t = 5 ∨ t = 6 ∨ t = 7 by omega) with rfl | rfl | rfl | rfl | rfl | rfl | rfl | rfl
  ·exact ⟨3, by omega, fun _ => by kernel_rfl⟩
  ·exact ⟨3, by omega, fun _ => by kernel_rfl⟩
  ·exact ⟨1, by omega, fun _ => by kernel_rfl⟩
  ·exact ⟨2, by omega, fun _ => by kernel_rfl⟩
  ·exact ⟨4, by omega, fun _ => by kernel_rfl⟩
  ·exact ⟨5, by omega, fun _ => by kernel_rfl⟩
  ·exact ⟨3, by omega, fun _ => by kernel_rfl⟩
  ·exact ⟨0, by omega, fun _ => by kernel_rfl⟩
 obtain ⟨kd, hkd, hix⟩ := hix
 have HKD := Lib.hid hkd
 clear hkd
 have c1 := hM.b5.c 1 _ rfl
 have f1 := hM.b5.f 1
 go_wp2_with fail
 have hM5 := hM.put (j' := ⟨s, kd, pa, 0, 0, 0, 0, 0, wt, 65536, ac, 327680⟩) 1 (.int .i64 kd) rfl
 clear hM c1 f1 hix
 generalize W4.setCell ⟨n5, 1, none⟩ (.int .i64 kd) = W5 at hM5 ⊢
 refine (next_any _ nS os cap xs 4 hM5.src (by omega) (by omega)).mono ?_
 rintro e W6 ⟨u, u1, u2, rfl, hg6, hS6⟩
 have hM := hM5.next hg6 hS6
 clear hg6 hS6 hM5
 have hG : GJ i ⟨s, kd, pa, 0, 0, 0, 0, 0, wt, 65536, ac, 327680⟩ := ⟨HS.out.symm, HKD.out, HPA.out, by simp, by have := limitF_bd kd; simp; omega, HWT.out, rfl, HAC.out, rfl⟩
 clear HS HKD HPA HWT HAC
 generalize hjj : (⟨s, kd, pa, 0, 0, 0, 0, 0, wt, 65536, ac, 327680⟩ : JV) = jj at hM hG
 clear hjj
 have c2 : W6.cell? ⟨n5, 2, none⟩ = some (.int .i64 jj.parent) := hM.b5.c 2 _ rfl
 have f2 := hM.b5.f 2
 have l5 := hM.b5.lt
 go_upto_if 24 with fail
 go_cut [] (fun W => ∃ j, GJ i j ∧ MJ w nS n4 n5 os cap xs j W)
 case first =>
  go_wp2_with fail
  ·go_meet
   exact ⟨{ jj with parent := -1 }, ⟨hG.name, hG.kind, by simp; omega, hG.off, hG.lim, hG.weight, hG.speed, hG.accel, hG.torque⟩, hM.put (j' := { jj with parent := -1 }) 2 _ rfl⟩
  ·go_meet
   exact ⟨_, hG, hM⟩
 case rest =>
  clear hM hG c2 f2 l5
  obtain ⟨j1, hG, hM⟩ := hcut
  go_upto_if 27 with fail
  go_cut [] (fun W => ∃ j, GJ i j ∧ MJ w nS n4 n5 os cap xs j W)
  case first =>
   by_cases hi0 : 0 < i
   ·go_wp2_with fail
    refine (signed_any _ nS os cap xs 2 hM.src (by omega) (by omega)).mono ?_
    rintro e V1 ⟨a1, a11, a12, rfl, hg, hS⟩
    replace hM := hM.next hg hS
    clear hg hS
    go_wp2_with fail
    refine (signed_any _ nS os cap xs 1 hM.src (by omega) (by omega)).mono ?_
    rintro e V2 ⟨a2, a21, a22, rfl, hg, hS⟩
    replace hM := hM.next hg hS
    clear hg hS
    have c3 : V2.cell? ⟨n5, 3, none⟩ = some (.int .i64 j1.o0) := hM.b5.c 3 _ rfl
    have c4 : V2.cell? ⟨n5, 4, none⟩ = some (.int .i64 j1.o1) := hM.b5.c 4 _ rfl
    have c5 : V2.cell? ⟨n5, 5, none⟩ = some (.int .i64 j1.o2) := hM.b5.c 5 _ rfl
    have f3 := hM.b5.f 3
    have f4 := hM.b5.f 4
    have f5 := hM.b5.f 5
    go_wp2_with fail
    go_meet
    exact ⟨{ j1 with o0 := 131072, o1 := a1 * 32768, o2 := a2 * 32768 }, ⟨hG.name, hG.kind, hG.parent, by simp; omega, hG.lim, hG.weight, hG.speed, hG.accel, hG.torque⟩, ((hM.put (j' := { j1 with o0 := 131072 }) 3 _ rfl).put (j' := { j1 with o0 := 131072, o1 := a1 * 32768 }) 4 _ rfl).put (j' := { j1 with o0 := 131072, o1 := a1 * 32768, o2 := a2 * 32768 }) 5 _ rfl⟩
   ·go_wp2_with fail
    go_meet
    exact ⟨_, hG, hM⟩
  case rest =>
   clear hM hG
   obtain ⟨j2, hG, hM⟩ := hcut
   have c1 : wc.cell? ⟨n5, 1, none⟩ = some (.int .i64 j2.kind) := hM.b5.c 1 _ rfl
   have l5 := hM.b5.lt
   go_upto_block 0 with fail
   go_cut [] (fun W => ∃ j, GJ i j ∧ MJ w nS n4 n5 os cap xs j W)
   case first =>
    by_cases q0 : j2.kind = 0
    ·have q0' : (j2.kind == 0) = true := by rw [q0]; rfl
     go_wp2_with fail
     go_meet
     exact ⟨_, hG, hM⟩
    ·have q0' : (j2.kind == 0) = false := beq_eq_false_iff_ne.2 q0
     by_cases q4 : j2.kind = 4
     ·have q4' : (j2.kind == 4) = true := by rw [q4]; rfl
      have hlim : limitF j2.kind = 4194304 := by rw [q4]; rfl
      clear q4
      go_wp2_with fail
      refine (next_any _ nS os cap xs 3 hM.src (by omega) (by omega)).mono ?_
      rintro e V1 ⟨a, a1, a2, rfl, hg, hS⟩
      replace hM := hM.next hg hS
      clear hg hS
      go_wp2_with fail
      refine (next_any _ nS os cap xs 4 hM.src (by omega) (by omega)).mono ?_
      rintro e V2 ⟨b, b1, b2, rfl, hg, hS⟩
      replace hM := hM.next hg hS
      clear hg hS
      have c6 : V2.cell? ⟨n5, 6, none⟩ = some (.int .i64 j2.lo) := hM.b5.c 6 _ rfl
      have c7 : V2.cell? ⟨n5, 7, none⟩ = some (.int .i64 j2.hi) := hM.b5.c 7 _ rfl
      have f6 := hM.b5.f 6
      have f7 := hM.b5.f 7
      have l5' := hM.b5.lt
      go_wp2_with fail
      go_meet
      exact hM.put67 hG _ _ (by omega) (by omega)
     ·have q4' : (j2.kind == 4) = false := beq_eq_false_iff_ne.2 q4
      by_cases q5 : j2.kind = 5
      ·have q5' : (j2.kind == 5) = true := by rw [q5]; rfl
       have hlim : limitF j2.kind = 4194304 := by rw [q5]; rfl
       clear q5
       go_wp2_with fail
       refine (next_any _ nS os cap xs 3 hM.src (by omega) (by omega)).mono ?_
       rintro e V1 ⟨a, a1, a2, rfl, hg, hS⟩
       replace hM := hM.next hg hS
       clear hg hS
       go_wp2_with fail
       refine (next_any _ nS os cap xs 4 hM.src (by omega) (by omega)).mono ?_
       rintro e V2 ⟨b, b1, b2, rfl, hg, hS⟩
       replace hM := hM.next hg hS
       clear hg hS
       have c6 : V2.cell? ⟨n5, 6, none⟩ = some (.int .i64 j2.lo) := hM.b5.c 6 _ rfl
       have c7 : V2.cell? ⟨n5, 7, none⟩ = some (.int .i64 j2.hi) := hM.b5.c 7 _ rfl
       have f6 := hM.b5.f 6
       have f7 := hM.b5.f 7
       have l5' := hM.b5.lt
       go_wp2_with fail
       go_meet
       exact hM.put67 hG _ _ (by omega) (by omega)
      ·have q5' : (j2.kind == 5) = false := beq_eq_false_iff_ne.2 q5
       have hlim : limitF j2.kind = 524288 := by have := hG.kind; unfold limitF; rw [if_pos (by omega)]
       go_wp2_with fail
       refine (next_any _ nS os cap xs 5 hM.src (by omega) (by omega)).mono ?_
       rintro e V1 ⟨a, a1, a2, rfl, hg, hS⟩
       replace hM := hM.next hg hS
       clear hg hS
       go_wp2_with fail
       refine (next_any _ nS os cap xs 4 hM.src (by omega) (by omega)).mono ?_
       rintro e V2 ⟨b, b1, b2, rfl, hg, hS⟩
       replace hM := hM.next hg hS
       clear hg hS
       go_wp2_with fail
       refine (next_any _ nS os cap xs 3 hM.src (by omega) (by omega)).mono ?_
       rintro e V3 ⟨c, c1, c2, rfl, hg, hS⟩
       replace hM := hM.next hg hS
       clear hg hS
       have c6 : V3.cell? ⟨n5, 6, none⟩ = some (.int .i64 j2.lo) := hM.b5.c 6 _ rfl
       have c7 : V3.cell? ⟨n5, 7, none⟩ = some (.int .i64 j2.hi) := hM.b5.c 7 _ rfl
       have f6 := hM.b5.f 6
       have f7 := hM.b5.f 7
       have l5' := hM.b5.lt
       go_wp2_with fail
       go_meet
       have htd := tdl a a1 a2
       exact hM.put67 hG _ _ (by omega) (by omega)
   case rest =>
    clear hM hG c1 l5
    obtain ⟨j3, hG, hM⟩ := hcut
    have d0 : wc.cell? ⟨n5, 0, none⟩ = some (.string j3.name) := hM.b5.c 0 _ rfl
    have d1 : wc.cell? ⟨n5, 1, none⟩ = some (.int .i64 j3.kind) := hM.b5.c 1 _ rfl
    have d2 : wc.cell? ⟨n5, 2, none⟩ = some (.int .i64 j3.parent) := hM.b5.c 2 _ rfl
    have d3 : wc.cell? ⟨n5, 3, none⟩ = some (.int .i64 j3.o0) := hM.b5.c 3 _ rfl
    have d4 : wc.cell? ⟨n5, 4, none⟩ = some (.int .i64 j3.o1) := hM.b5.c 4 _ rfl
    have d5 : wc.cell? ⟨n5, 5, none⟩ = some (.int .i64 j3.o2) := hM.b5.c 5 _ rfl
    have d6 : wc.cell? ⟨n5, 6, none⟩ = some (.int .i64 j3.lo) := hM.b5.c 6 _ rfl
    have d7 : wc.cell? ⟨n5, 7, none⟩ = some (.int .i64 j3.hi) := hM.b5.c 7 _ rfl
    have d8 : wc.cell? ⟨n5, 8, none⟩ = some (.int .i64 j3.weight) := hM.b5.c 8 _ rfl
    have d9 : wc.cell? ⟨n5, 9, none⟩ = some (.int .i64 j3.speed) := hM.b5.c 9 _ rfl
    have d10 : wc.cell? ⟨n5, 10, none⟩ = some (.int .i64 j3.accel) := hM.b5.c 10 _ rfl
    have d11 : wc.cell? ⟨n5, 11, none⟩ = some (.int .i64 j3.torque) := hM.b5.c 11 _ rfl
    obtain ⟨l, hl, hb4⟩ := hM.b4
    obtain ⟨a0, a1, a2, a3, a4, a5, a6, a7, a8, a9, a10, a11, rfl⟩ : ∃ a0 a1 a2 a3 a4 a5 a6 a7 a8 a9 a10 a11, l = [a0, a1, a2, a3, a4, a5, a6, a7, a8, a9, a10, a11] := by
     match l, hl with
     | [a0, a1, a2, a3, a4, a5, a6, a7, a8, a9, a10, a11], _ => exact ⟨_, _, _, _, _, _, _, _, _, _, _, _, rfl⟩
    have e0 : wc.cell? ⟨n4, 0, none⟩ = some a0 := hb4.c 0 _ rfl
    have f0 := hb4.f 0
    have e1 : wc.cell? ⟨n4, 1, none⟩ = some a1 := hb4.c 1 _ rfl
    have f1 := hb4.f 1
    have e2 : wc.cell? ⟨n4, 2, none⟩ = some a2 := hb4.c 2 _ rfl
    have f2 := hb4.f 2
    have e3 : wc.cell? ⟨n4, 3, none⟩ = some a3 := hb4.c 3 _ rfl
    have f3 := hb4.f 3
    have e4 : wc.cell? ⟨n4, 4, none⟩ = some a4 := hb4.c 4 _ rfl
    have f4 := hb4.f 4
    have e5 : wc.cell? ⟨n4, 5, none⟩ = some a5 := hb4.c 5 _ rfl
    have f5 := hb4.f 5
    have e6 : wc.cell? ⟨n4, 6, none⟩ = some a6 := hb4.c 6 _ rfl
    have f6 := hb4.f 6
    have e7 : wc.cell? ⟨n4, 7, none⟩ = some a7 := hb4.c 7 _ rfl
    have f7 := hb4.f 7
    have e8 : wc.cell? ⟨n4, 8, none⟩ = some a8 := hb4.c 8 _ rfl
    have f8 := hb4.f 8
    have e9 : wc.cell? ⟨n4, 9, none⟩ = some a9 := hb4.c 9 _ rfl
    have f9 := hb4.f 9
    have e10 : wc.cell? ⟨n4, 10, none⟩ = some a10 := hb4.c 10 _ rfl
    have f10 := hb4.f 10
    have e11 : wc.cell? ⟨n4, 11, none⟩ = some a11 := hb4.c 11 _ rfl
    have f11 := hb4.f 11
    have l4 := hb4.lt
    have l5 := hM.b5.lt
    go_wp2_with fail
    have hF := ((((((((((((hM.put4 0 (.string j3.name)).put4 1 (.int .i64 j3.kind)).put4 2 (.int .i64 j3.parent)).put4 3 (.int .i64 j3.o0)).put4 4 (.int .i64 j3.o1)).put4 5 (.int .i64 j3.o2)).put4 6 (.int .i64 j3.lo)).put4 7 (.int .i64 j3.hi)).put4 8 (.int .i64 j3.weight)).put4 9 (.int .i64 j3.speed)).put4 10 (.int .i64 j3.accel)).put4 11 (.int .i64 j3.torque))
    exact bodyPost_ret (v := .agg j3.vals.toArray) (by simp [results, Tryz.results60, go_sem, JV.vals, e0, e1, e2, e3, e4, e5, e6, e7, e8, e9, e10, e11]) rfl ⟨j3, hG, rfl, hF.gr, hF.src⟩
end Go.Proofs.En
end
section
/-
 The world inside the maker's robot.
-/
namespace Go.Proofs.En
open Go.RowKit
/-- An owned row is kept where its block is. -/
theorem own_blk {W W' : World} {base : Nat} {e : TypeId} {size n : Nat} {v : Value} {xs : List Value} (h : W.ownsRow base e size v n xs) (hb : ∀ g, v.ownBlock = some g → g < W.heap.size → base ≤ g → W'.heap[g]? = W.heap[g]?) : W'.ownsRow base e size v n xs := by
 refine ⟨h.1, ?_⟩
 rcases h.2 with h0 | ⟨g, cap, cur, hv, hbg, hg, rest⟩
 ·exact .inl h0
 ·have hlt : g < W.heap.size := by
   rcases Nat.lt_or_ge g W.heap.size with h | h
   ·exact h
   ·rw [Array.getElem?_eq_none h] at hg; cases hg
  exact .inr ⟨g, cap, cur, hv, hbg, (hb g (by rw [hv]; rfl) hlt hbg).trans hg, rest⟩
theorem own_lt {W : World} {base : Nat} {e : TypeId} {size n : Nat} {v : Value} {xs : List Value} (h : W.ownsRow base e size v n xs) (g : Nat) (hg : v.ownBlock = some g) : g < W.heap.size ∧ base ≤ g := by
 rcases h.2 with ⟨rfl, _⟩ | ⟨g', cap, cur, rfl, hbg, hh, rest⟩
 ·cases hg
 ·simp [Value.ownBlock] at hg
  subst hg
  refine ⟨?_, hbg⟩
  rcases Nat.lt_or_ge g' W.heap.size with h | h
  ·exact h
  ·rw [Array.getElem?_eq_none h] at hh; cases hh
theorem own_base {W : World} {base base' : Nat} {e : TypeId} {size n : Nat} {v : Value} {xs : List Value} (h : W.ownsRow base e size v n xs) (hb : base' ≤ base) : W.ownsRow base' e size v n xs := by
 refine ⟨h.1, ?_⟩
 rcases h.2 with h0 | ⟨g, cap, cur, hv, hbg, rest⟩
 ·exact .inl h0
 ·exact .inr ⟨g, cap, cur, hv, by omega, rest⟩
theorem flat_get (rows : List (List Value)) (n : Nat) (hn : ∀ r ∈ rows, r.length = n) (i : Nat) (r : List Value) (h : rows[i]? = some r) (k : Nat) (v : Value) (hv : r[k]? = some v) : rows.flatten[i * n + k]? = some v := by
 induction rows generalizing i with
 | nil => simp at h
 | cons a t ih =>
  have ha : a.length = n := hn a (by simp)
  have hk : k < n := by
   have hr : r.length = n := hn r (List.mem_of_getElem? h)
   rcases Nat.lt_or_ge k r.length with h' | h'
   ·omega
   ·rw [List.getElem?_eq_none h'] at hv; cases hv
  cases i with
  | zero =>
   simp at h; subst h
   rw [List.flatten_cons, List.getElem?_append_left (by omega)]
   simpa using hv
  | succ i =>
   simp at h
   have := ih (fun r hr => hn r (by simp [hr])) i h
   rw [List.flatten_cons, List.getElem?_append_right (by rw [ha, Nat.succ_mul]; omega), ha]
   have e : (i + 1) * n + k - n = i * n + k := by rw [Nat.succ_mul]; omega
   rw [e]
   exact this
/-- An owned row reads as its rows. -/
theorem own_rows {W : World} {base : Nat} {e : TypeId} {n : Nat} {v : Value} {rows : List (List Value)} (hn : ∀ r ∈ rows, r.length = n) (h : W.ownsRow base e n v rows.length rows.flatten) : ∃ oa cap, v = .slice oa rows.length cap ∧ Sl W oa n rows := by
 rcases h.2 with ⟨rfl, h0⟩ | ⟨g, cap, cur, rfl, hbg, hg, hc, hm, hs, ht⟩
 ·have : rows = [] := List.length_eq_zero_iff.1 h0
  subst this
  exact ⟨none, 0, rfl, fun h => absurd rfl h⟩
 ·refine ⟨_, cap, rfl, fun _ => ⟨g, 0, rfl, ?_⟩⟩
  have hlt : g < W.heap.size := by
   rcases Nat.lt_or_ge g W.heap.size with h | h
   ·exact h
   ·rw [Array.getElem?_eq_none h] at hg; cases hg
  refine ⟨hlt, fun i r hi k u hu => ?_⟩
  have hq := flat_get rows n hn i r hi k u hu
  rw [← ht, List.getElem?_take] at hq
  split at hq
  ·simp [World.cell?, hg]
   simpa using hq
  ·cases hq
def jflat (js : List JV) : List Value := (js.map JV.vals).flatten
def mflat (ms : List MV) : List Value := (ms.map MV.vals).flatten
theorem jflat_snoc (js : List JV) (j : JV) : jflat (js ++ [j]) = jflat js ++ j.vals := by simp [jflat]
theorem mflat_snoc (ms : List MV) (m : MV) : mflat (ms ++ [m]) = mflat ms ++ m.vals := by simp [mflat]
theorem Src.low {w W W' : World} {nS : Nat} {os : Option Addr} {cap : Nat} {xs : List Int} (h : Src W nS os cap xs) (i0 : Sl w os 1 (pvals xs)) (hn : nS < w.heap.size) (hb : Below w.heap.size W W') : Src W' nS os cap xs := by
 obtain ⟨⟨k, hk, hc⟩, hi, ho, hl⟩ := h
 refine ⟨⟨k, hk, ?_⟩, ?_, ho, hl⟩
 ·have e := hb.block nS hn
  obtain ⟨c0, c1, f0, f1, lt⟩ := hc
  refine ⟨?_, ?_, ?_, ?_, Nat.lt_of_lt_of_le lt hb.size⟩
  ·rw [← c0]; simp [World.cell?, e]
  ·rw [← c1]; simp [World.cell?, e]
  ·rw [← f0]; simp [World.frozen?, e]
  ·rw [← f1]; simp [World.frozen?, e]
 ·intro hne
  obtain ⟨b, off, e1, hr⟩ := hi hne
  obtain ⟨b', off', e1', hr'⟩ := i0 hne
  rw [e1] at e1'
  injection e1' with e1'
  injection e1' with e1' _ _
  have hlt := hr'.lt
  refine ⟨b, off, e1, ⟨Nat.lt_of_lt_of_le hr.lt hb.size, fun i' r hr1 k' v' hv' => ?_⟩⟩
  rw [← hr.c i' r hr1 k' v' hv']
  simp [World.cell?, hb.block b (by omega)]
theorem grown_low {w W W' : World} {r : Option Nat} (h : w.grownBy W r) (hb : Below w.heap.size W W') : w.grownBy W' r :=
 ⟨hb.os.trans h.os, hb.tape.trans h.tape, hb.output.trans h.output, Nat.le_trans h.size hb.size, fun k hk hn => (hb.block k hk).trans (h.block k hk hn)⟩
theorem Blk.low {W W' : World} {b base : Nat} {l : List Value} (h : Blk W b l) (hlt : b < base) (hb : Below base W W') : Blk W' b l := by
 have e := hb.block b hlt
 refine ⟨fun i v hi => ?_, fun i => ?_, Nat.lt_of_lt_of_le h.lt hb.size⟩
 ·rw [← h.c i v hi]; simp [World.cell?, e]
 ·rw [← h.f i]; simp [World.frozen?, e]
/-- The world inside the maker's robot. -/
structure RB (w : World) (nS n2 n3 : Nat) (os : Option Addr) (cap : Nat) (xs : List Int) (js : List JV) (ms : List MV) (v u : Value) (W : World) : Prop where
 gr : w.grownBy W (some nS)
 src : Src W nS os cap xs
 b2 : ∃ x y, Blk W n2 [x, y]
 b3 : Blk W n3 [v, u]
 oj : W.ownsRow (n3 + 1) 64 12 v js.length (jflat js)
 om : W.ownsRow (n3 + 1) 136 5 u ms.length (mflat ms)
 ap : ∀ g, v.ownBlock = some g → u.ownBlock ≠ some g
 hb : n3 + 1 ≤ W.heap.size
 gj : ∀ (k : Nat) (j : JV), js[k]? = some j → GJ k j
 i0 : Sl w os 1 (pvals xs)
 hs : nS < w.heap.size
 h2 : w.heap.size ≤ n2
 h3 : n2 < n3
theorem RB.call {w W W' : World} {nS n2 n3 : Nat} {os : Option Addr} {cap : Nat} {xs : List Int} {js : List JV} {ms : List MV} {v u : Value} (h : RB w nS n2 n3 os cap xs js ms v u W) (hg : W.grownBy W' (some nS)) (hS : Src W' nS os cap xs) : RB w nS n2 n3 os cap xs js ms v u W' := by
 have hs := h.hs; have h2 := h.h2; have h3 := h.h3
 obtain ⟨x, y, hb2⟩ := h.b2
 refine ⟨grown_trans h.gr hg, hS, ⟨x, y, hb2.keepG hg (by omega)⟩, h.b3.keepG hg (by omega), own_blk h.oj fun g _ hl hb => hg.block g hl (fun e => by injection e; omega), own_blk h.om fun g _ hl hb => hg.block g hl (fun e => by injection e; omega), h.ap, Nat.le_trans h.hb hg.size, h.gj, h.i0, hs, h2, h3⟩
theorem RB.bel {w W W' : World} {nS n2 n3 : Nat} {os : Option Addr} {cap : Nat} {xs : List Int} {js : List JV} {ms : List MV} {v u : Value} (h : RB w nS n2 n3 os cap xs js ms v u W) (hg : Below W.heap.size W W') : RB w nS n2 n3 os cap xs js ms v u W' := by
 obtain ⟨x, y, hb2⟩ := h.b2
 exact ⟨grown_trans h.gr (grown_of_below hg), h.src.keepB hg, ⟨x, y, hb2.keep hg⟩, h.b3.keep hg, own_keep h.oj hg, own_keep h.om hg, h.ap, Nat.le_trans h.hb hg.size, h.gj, h.i0, h.hs, h.h2, h.h3⟩
theorem RB.appJ {w W W1 : World} {nS n2 n3 : Nat} {os : Option Addr} {cap : Nat} {xs : List Int} {js : List JV} {ms : List MV} {v u : Value} (h : RB w nS n2 n3 os cap xs js ms v u W) (j : JV) (hj : GJ js.length j) (g c : Nat)
  (ho : W1.ownsRow (n3 + 1) 64 12 (.slice (some ⟨g, 0, none⟩) (js.length + 1) c) (js.length + 1) (jflat js ++ j.vals)) (hg : W.grownBy W1 v.ownBlock) (ha : v.ownBlock = some g ∨ g = W.heap.size) :
  RB w nS n2 n3 os cap xs (js ++ [j]) ms (.slice (some ⟨g, 0, none⟩) (js.length + 1) c) u (W1.setCell ⟨n3, 0, none⟩ (.slice (some ⟨g, 0, none⟩) (js.length + 1) c)) := by
 have hs := h.hs; have h2 := h.h2; have h3 := h.h3; have hb := h.hb
 obtain ⟨x, y, hb2⟩ := h.b2
 have B1 : Below (n3 + 1) W W1 := grown_below h.oj hg h.hb
 have e : ∀ k, k ≠ n3 → (W1.setCell ⟨n3, 0, none⟩ (.slice (some ⟨g, 0, none⟩) (js.length + 1) c)).heap[k]? = W1.heap[k]? := fun k hk => Below.heap_setCell W1 ⟨n3, 0, none⟩ _ k hk
 have B2 : Below n3 W (W1.setCell ⟨n3, 0, none⟩ (.slice (some ⟨g, 0, none⟩) (js.length + 1) c)) := (B1.mono (Nat.le_succ n3)).setCell (p := ⟨n3, 0, none⟩) (Nat.le_refl _) _
 refine ⟨grown_low h.gr (B2.mono (by omega)), h.src.low h.i0 hs (B2.mono (by omega)), ⟨x, y, hb2.low (by omega) B2⟩, (h.b3.low (by omega) B1).put 0 _, ?_, ?_, ?_, ?_, ?_, h.i0, hs, h2, h3⟩
 ·rw [jflat_snoc, List.length_append]
  exact own_blk ho fun q _ _ hq => e q (by omega)
 ·refine own_blk h.om fun q hq1 hq2 hq3 => (e q (by omega)).trans (hg.block q hq2 ?_)
  exact fun e => h.ap q e.symm hq1
 ·intro q hq
  have hqg : q = g := by
   simp [Value.ownBlock] at hq
   exact hq.symm
  subst hqg
  rcases ha with ha | ha
  ·exact h.ap q ha
  ·intro hc
   have := (own_lt h.om q hc).1
   omega
 ·exact Nat.le_trans hb B2.size
 ·intro k j' hk
  rcases Nat.lt_or_ge k js.length with hlt | hge
  ·rw [List.getElem?_append_left hlt] at hk
   exact h.gj k j' hk
  ·rw [List.getElem?_append_right hge] at hk
   have : k = js.length := by
    rcases Nat.eq_or_lt_of_le hge with h | h
    ·exact h.symm
    ·rw [List.getElem?_eq_none (by simp; omega)] at hk; cases hk
   subst this
   simp at hk
   subst hk
   exact hj
theorem RB.appM {w W W1 : World} {nS n2 n3 : Nat} {os : Option Addr} {cap : Nat} {xs : List Int} {js : List JV} {ms : List MV} {v u : Value} (h : RB w nS n2 n3 os cap xs js ms v u W) (m : MV) (g c : Nat)
  (ho : W1.ownsRow (n3 + 1) 136 5 (.slice (some ⟨g, 0, none⟩) (ms.length + 1) c) (ms.length + 1) (mflat ms ++ m.vals)) (hg : W.grownBy W1 u.ownBlock) (ha : u.ownBlock = some g ∨ g = W.heap.size) :
  RB w nS n2 n3 os cap xs js (ms ++ [m]) v (.slice (some ⟨g, 0, none⟩) (ms.length + 1) c) (W1.setCell ⟨n3, 1, none⟩ (.slice (some ⟨g, 0, none⟩) (ms.length + 1) c)) := by
 have hs := h.hs; have h2 := h.h2; have h3 := h.h3; have hb := h.hb
 obtain ⟨x, y, hb2⟩ := h.b2
 have B1 : Below (n3 + 1) W W1 := grown_below h.om hg h.hb
 have e : ∀ k, k ≠ n3 → (W1.setCell ⟨n3, 1, none⟩ (.slice (some ⟨g, 0, none⟩) (ms.length + 1) c)).heap[k]? = W1.heap[k]? := fun k hk => Below.heap_setCell W1 ⟨n3, 1, none⟩ _ k hk
 have B2 : Below n3 W (W1.setCell ⟨n3, 1, none⟩ (.slice (some ⟨g, 0, none⟩) (ms.length + 1) c)) := (B1.mono (Nat.le_succ n3)).setCell (p := ⟨n3, 1, none⟩) (Nat.le_refl _) _
 refine ⟨grown_low h.gr (B2.mono (by omega)), h.src.low h.i0 hs (B2.mono (by omega)), ⟨x, y, hb2.low (by omega) B2⟩, (h.b3.low (by omega) B1).put 1 _, ?_, ?_, ?_, ?_, h.gj, h.i0, hs, h2, h3⟩
 ·refine own_blk h.oj fun q hq1 hq2 hq3 => (e q (by omega)).trans (hg.block q hq2 ?_)
  exact fun e => h.ap q hq1 e.symm
 ·rw [mflat_snoc, List.length_append]
  exact own_blk ho fun q _ _ hq => e q (by omega)
 ·intro q hq hc
  have hqg : q = g := by
   simp [Value.ownBlock] at hc
   exact hc.symm
  subst hqg
  rcases ha with ha | ha
  ·exact h.ap q hq ha
  ·have := (own_lt h.oj q hq).1
   omega
 ·exact Nat.le_trans hb B2.size
theorem RB.put2 {w W : World} {nS n2 n3 : Nat} {os : Option Addr} {cap : Nat} {xs : List Int} {js : List JV} {ms : List MV} {v u : Value} (h : RB w nS n2 n3 os cap xs js ms v u W) (x y : Value) :
  RB w nS n2 n3 os cap xs js ms v u ((W.setCell ⟨n2, 0, none⟩ x).setCell ⟨n2, 1, none⟩ y) := by
 have hs := h.hs; have h2 := h.h2; have h3 := h.h3; have hb := h.hb
 obtain ⟨a, b, hb2⟩ := h.b2
 have B : Below n2 W ((W.setCell ⟨n2, 0, none⟩ x).setCell ⟨n2, 1, none⟩ y) := ((Below.refl _ _).setCell (p := ⟨n2, 0, none⟩) (Nat.le_refl _) _).setCell (p := ⟨n2, 1, none⟩) (Nat.le_refl _) _
 have e : ∀ g, g ≠ n2 → ((W.setCell ⟨n2, 0, none⟩ x).setCell ⟨n2, 1, none⟩ y).heap[g]? = W.heap[g]? := fun g hg => (Below.heap_setCell _ ⟨n2, 1, none⟩ _ g hg).trans (Below.heap_setCell _ ⟨n2, 0, none⟩ _ g hg)
 refine ⟨grown_low h.gr (B.mono h2), h.src.low h.i0 hs (B.mono h2), ⟨_, _, (hb2.put 0 x).put 1 y⟩, ?_, own_blk h.oj fun g _ _ hg => e g (by omega), own_blk h.om fun g _ _ hg => e g (by omega), h.ap, Nat.le_trans hb B.size, h.gj, h.i0, hs, h2, h3⟩
 have e3 := e n3 (by omega)
 refine ⟨fun i v hi => ?_, fun i => ?_, Nat.lt_of_lt_of_le h.b3.lt B.size⟩
 ·rw [← h.b3.c i v hi]; simp [World.cell?, e3]
 ·rw [← h.b3.f i]; simp [World.frozen?, e3]
/-- What the maker's robot answers. -/
def RobP (js : List JV) (ms : List MV) (oa om : Option Addr) (W : World) : Prop := (1 ≤ js.length ∧ js.length ≤ 3) ∧ ms.length ≤ 2 ∧ (∀ (k : Nat) (j : JV), js[k]? = some j → GJ k j) ∧ (∀ (k : Nat) (m : MV), ms[k]? = some m → massB js.length m = true) ∧ Sl W oa 12 (js.map JV.vals) ∧ Sl W om 5 (ms.map MV.vals)
theorem own_done {w W W'' : World} {nS n2 n3 : Nat} {os : Option Addr} {cap : Nat} {xs : List Int} {js : List JV} {ms : List MV} {v u : Value} (h : RB w nS n2 n3 os cap xs js ms v u W) (hag : ∀ g, w.heap.size ≤ g → g < W.heap.size → W''.heap[g]? = W.heap[g]?) : ∃ oa cj om cm, v = .slice oa js.length cj ∧ u = .slice om ms.length cm ∧ Sl W'' oa 12 (js.map JV.vals) ∧ Sl W'' om 5 (ms.map MV.vals) := by
 have h2 := h.h2; have h3 := h.h3
 obtain ⟨oa, cj, e1, s1⟩ := own_rows (rows := js.map JV.vals) (n := 12) (by intro r hr; simp at hr; obtain ⟨j, _, rfl⟩ := hr; rfl) (by rw [List.length_map]; exact own_blk h.oj fun g _ hl hb => hag g (by omega) hl)
 obtain ⟨om, cm, e2, s2⟩ := own_rows (rows := ms.map MV.vals) (n := 5) (by intro r hr; simp at hr; obtain ⟨j, _, rfl⟩ := hr; rfl) (by rw [List.length_map]; exact own_blk h.om fun g _ hl hb => hag g (by omega) hl)
 rw [List.length_map] at e1 e2
 exact ⟨oa, cj, om, cm, e1, e2, s1, s2⟩
theorem RB.done {w W : World} {nS n2 n3 : Nat} {os : Option Addr} {cap : Nat} {xs : List Int} {js : List JV} {ms : List MV} {v u : Value} (h : RB w nS n2 n3 os cap xs js ms v u W) : ∃ oa cj om cm, v = .slice oa js.length cj ∧ u = .slice om ms.length cm ∧ Sl W oa 12 (js.map JV.vals) ∧ Sl W om 5 (ms.map MV.vals) := own_done h fun _ _ _ => rfl
end Go.Proofs.En
end
end

section
/-
  Walks: the maker's robot.
-/
namespace Go.Proofs.En
open Go.RowKit
theorem info80 : (Tryz.prog.info? 64).map (fun i => (i.zero, i.size, i.bytes)) = some (some (.agg #[.string ⟨#[]⟩, .int .i64 0, .int .i64 0, .int .i64 0, .int .i64 0, .int .i64 0, .int .i64 0, .int .i64 0, .int .i64 0, .int .i64 0, .int .i64 0, .int .i64 0]), 12, 104) := by kernel_rfl
theorem info54 : (Tryz.prog.info? 136).map (fun i => (i.zero, i.size, i.bytes)) = some (some (.agg #[.int .i64 0, .int .i64 0, .int .i64 0, .int .i64 0, .int .i64 0]), 5, 40) := by kernel_rfl
theorem info2 : (Tryz.prog.info? 2).map (fun i => (i.zero, i.size, i.bytes)) = some (some (.int .i64 0), 1, 8) := by kernel_rfl
theorem under32 : Tryz.prog.underlying 22 = some (.slice 64) := by kernel_rfl
theorem under33 : Tryz.prog.underlying 23 = some (.slice 136) := by kernel_rfl
theorem under37 : Tryz.prog.underlying 26 = some (.slice 2) := by kernel_rfl
/-- The cells of a block that was just made. -/
theorem new_cells (W : World) (l : List Value) (t : TypeId) : ∀ (j : Nat) (u : Value), l[j]? = some u → (W.alloc (.cells l.toArray t)).cell? ((⟨W.heap.size, 0, none⟩ : Addr).add j) = some u := by
 intro j u hu
 have := (Row.new W l t).c j u hu
 rw [← this]
 congr 1
 unfold Addr.add
 split <;> simp_all
theorem jv_one (j : JV) : ∀ u ∈ j.vals, u.oneCell' = true := by
 intro u hu
 simp [JV.vals] at hu
 rcases hu with rfl | rfl | rfl | rfl | rfl | rfl | rfl | rfl | rfl | rfl | rfl | rfl <;> rfl
theorem mv_one (j : MV) : ∀ u ∈ j.vals, u.oneCell' = true := by
 intro u hu
 simp [MV.vals] at hu
 rcases hu with rfl | rfl | rfl | rfl | rfl <;> rfl
theorem mass_ok (n : Nat) (a b c d : Int) (h1 : 0 ≤ a ∧ a < n) (h2 : 0 ≤ b ∧ b < 9000) (h3 : -3 ≤ c ∧ c ≤ 3) (h4 : -2 ≤ d ∧ d ≤ 2) : massB n ⟨a, IntKind.i64.wrap (1 + b), IntKind.i64.wrap (c * 32768), 0, IntKind.i64.wrap (d * 32768)⟩ = true := by
 rw [IntWalk.i64_in _ (by omega), IntWalk.i64_in _ (by omega), IntWalk.i64_in _ (by omega)]
 simp [massB, from1B, beyondB, farB]; omega
theorem mass_snoc {n : Nat} {ms : List MV} {m : MV} (h : ∀ (k : Nat) (m : MV), ms[k]? = some m → massB n m = true) (hm : massB n m = true) : ∀ (k : Nat) (m' : MV), (ms ++ [m])[k]? = some m' → massB n m' = true := by
 intro k m' hk
 have := List.mem_of_getElem? hk
 simp at this
 rcases this with h1 | rfl
 ·obtain ⟨i, hi⟩ := List.getElem?_of_mem h1
  exact h i _ hi
 ·exact hm
theorem own_cap {W : World} {base size n cap m : Nat} {e : TypeId} {oa : Option Addr} {xs : List Value} (h : W.ownsRow base e size (.slice oa n cap) m xs) : n ≤ cap ∧ (oa = none → cap = 0) := by
 rcases h.2 with ⟨h1, _⟩ | ⟨g, cap', cur, h1, _, _, h2, _⟩
 ·injection h1 with h1 h3 h4
  exact ⟨by omega, fun _ => h4⟩
 ·injection h1 with h1 h3 h4
  subst h1 h3 h4
  exact ⟨h2, fun e => by cases e⟩
theorem own_fresh0 {W : World} {base size n cap m : Nat} {e : TypeId} {oa : Option Addr} {xs : List Value} (h : W.ownsRow base e size (.slice oa n cap) m xs) : ∀ a, oa = some a → base ≤ a.block := fun a ha => by
 rcases h.2 with ⟨h1, _⟩ | ⟨g, cap', cur, h1, h2, _⟩
 ·injection h1 with h1
  rw [h1] at ha; cases ha
 ·injection h1 with h1
  rw [h1] at ha; injection ha with ha; subst ha; exact h2
def RobE (w : World) (nS : Nat) (e : Ending) (W' : World) : Prop := ∃ js ms oa cj om cm, e = .returned (.agg #[.slice oa (List.length js) cj, .slice om (List.length ms) cm]) ∧ (∀ W'', (∀ g, w.heap.size ≤ g → g < W'.heap.size → W''.heap[g]? = W'.heap[g]?) → RobP js ms oa om W'') ∧ w.grownBy W' (some nS) ∧ (ms.length ≤ cm ∧ (om = none → cm = 0)) ∧ (∀ W'' : World, (∀ g, w.heap.size ≤ g → g < W'.heap.size → W''.heap[g]? = W'.heap[g]?) → W''.ownsRow w.heap.size 64 12 (.slice oa (List.length js) cj) js.length (jflat js)) ∧ (∀ g, (Value.slice oa (List.length js) cj).ownBlock = some g → (Value.slice om (List.length ms) cm).ownBlock ≠ some g) ∧ (∀ a, om = some a → w.heap.size ≤ a.block)
set_option maxRecDepth 100000 in
set_option maxHeartbeats 4000000 in
theorem robot_any (w : World) (nS : Nat) (os : Option Addr) (cap : Nat) (xs : List Int) (hS : Src w nS os cap xs) :
  Calls Tryz.prog 31 #[.pointer (some ⟨nS, 0, none⟩)] w (RobE w nS) := by
 go_enter Tryz.func31, Tryz.ntmps31
 go_wp2_with fail
 have hR : RB w nS w.heap.size (w.heap.size + 1) os cap xs [] [] (.slice none 0 0) (.slice none 0 0) ((w.alloc (.cells #[.slice none 0 0, .slice none 0 0] 25)).alloc (.cells #[.slice none 0 0, .slice none 0 0] 25)) := by
  have hb1 : Below w.heap.size w (w.alloc (.cells #[.slice none 0 0, .slice none 0 0] 25)) := (Below.refl _ _).alloc (Nat.le_refl _) _
  have hb2 : Below (w.alloc (.cells #[.slice none 0 0, .slice none 0 0] 25)).heap.size (w.alloc (.cells #[.slice none 0 0, .slice none 0 0] 25)) ((w.alloc (.cells #[.slice none 0 0, .slice none 0 0] 25)).alloc (.cells #[.slice none 0 0, .slice none 0 0] 25)) := (Below.refl _ _).alloc (Nat.le_refl _) _
  have e : (w.alloc (.cells #[.slice none 0 0, .slice none 0 0] 25)).heap.size = w.heap.size + 1 := by simp
  have B2 := Blk.new (w.alloc (.cells #[.slice none 0 0, .slice none 0 0] 25)) [.slice none 0 0, .slice none 0 0] 25
  rw [e] at B2
  exact ⟨grown_of_below (below_call hb1 hb2), (hS.keepB hb1).keepB hb2, ⟨_, _, (Blk.new w [.slice none 0 0, .slice none 0 0] 25).keep hb2⟩, B2, World.ownsRow_nil _ _ _ _, World.ownsRow_nil _ _ _ _, (fun g h => by cases h), by simp, (fun k j h => by simp at h), hS.ints, src_lt hS, Nat.le_refl _, Nat.lt_succ_self _⟩
 generalize ((w.alloc (.cells #[.slice none 0 0, .slice none 0 0] 25)).alloc (.cells #[.slice none 0 0, .slice none 0 0] 25)) = W0 at hR ⊢
 generalize hn2 : w.heap.size = n2 at hR ⊢
 generalize hn3 : n2 + 1 = n3 at hR ⊢
 have HN2 := Lib.hid hn2
 clear hn2 hn3
 refine (next_any _ nS os cap xs 3 hR.src (by omega) (by omega)).mono ?_
 rintro e W1 ⟨r, r1, r2, rfl, hg1, hS1⟩
 replace hR := hR.call hg1 hS1
 clear hg1 hS1 hS
 have hn1 : 1 ≤ 1 + r ∧ 1 + r ≤ 3 := by omega
 go_wp2_with fail
 generalize 1 + r = n at hn1 ⊢
 clear r1 r2
 go_loopw [5] (fun i W => ∃ js v, i = .int .i64 (List.length js : Nat) ∧ (js.length : Int) ≤ n ∧ RB w nS n2 n3 os cap xs js [] v (.slice none 0 0) W) (fun i _ => (n - intOf i).toNat)
 case atStart => exact ⟨[], _, rfl, by simp; omega, hR⟩
 case round =>
  clear hR
  obtain ⟨js, v, rfl, hk, hR⟩ := hrel
  by_cases hlt : (js.length : Int) < n
  ·obtain ⟨i0, hi, hz0, hz1, hz2⟩ := info_parts info80
   go_upto_block 1 with fail
   go_cut [] (fun W => ∃ j v', RB w nS n2 n3 os cap xs (js ++ [j]) [] v' (.slice none 0 0) W)
   case first =>
    have c0 : wr.cell? ⟨n3, 0, none⟩ = some v := hR.b3.c 0 _ rfl
    have f0 := hR.b3.f 0
    have l3 := hR.b3.lt
    go_wp2_with fail
    have hS0 : Src wr.drew nS os cap xs := hR.src.keepB (Below.refl _ _).drew
    have hk3 : (js.length : Int) ≤ 3 := by omega
    go_region_law (first
     | (refine step_append_lies _ rfl (.tmp 16) (.tmp 20) 22 rfl (n3 + 1) 64 i0 _ 12 104 under32 hi hz0 hz1 hz2 rfl (by decide) v js.length (jflat js) (by simp [Act.eval]) HA.out.oj ⟨W2.heap.size, 0, none⟩ 1 1 j.vals (by simp [Act.eval]) rfl (new_cells _ _ _) (jv_one j) (by decide) (by unfold maxLen; omega) (by omega) HA.out.hb _ rfl ?_; intro g c W3 hown hgrow hat hlt3; have hB3 := HA.out.b3.low (Nat.lt_succ_self _) (grown_below HA.out.oj hgrow HA.out.hb); have c04 := hB3.c 0 _ rfl; have f04 := hB3.f 0; have HO := Lib.hid hown; clear hown)
     | (go_simp; go_at_call 60; refine (jointM _ nS os cap xs _ hS0 (by omega) hk3).mono ?_; rintro e W2 ⟨j, hGj, he, hg2, hS2⟩; replace he : e = .returned (.agg #[.string j.name, .int .i64 j.kind, .int .i64 j.parent, .int .i64 j.o0, .int .i64 j.o1, .int .i64 j.o2, .int .i64 j.lo, .int .i64 j.hi, .int .i64 j.weight, .int .i64 j.speed, .int .i64 j.accel, .int .i64 j.torque]) := he; subst he; have HR2 := Lib.hid ((hR.bel (Below.refl _ _).drew).call hg2 hS2); have c02 := HR2.out.b3.c 0 _ rfl; have HA := Lib.hid (HR2.out.bel (W' := W2.alloc (.cells #[.string j.name, .int .i64 j.kind, .int .i64 j.parent, .int .i64 j.o0, .int .i64 j.o1, .int .i64 j.o2, .int .i64 j.lo, .int .i64 j.hi, .int .i64 j.weight, .int .i64 j.speed, .int .i64 j.accel, .int .i64 j.torque] 64)) ((Below.refl _ _).alloc (Nat.le_refl _) _)); have c03 := HA.out.b3.c 0 _ rfl))
    all_goals
     go_wp2_with fail
     go_meet
     exact ⟨j, _, HA.out.appJ j hGj g c HO.out hgrow hat⟩
   case rest =>
    clear hR
    obtain ⟨j, v', hR⟩ := hcut
    go_wp2
    go_roundw
    case rel => exact ⟨js ++ [j], v', by simp, by simp; omega, hR⟩
    case measure => simp [intOf]; omega
  ·have hle : n = (js.length : Int) := by omega
   go_wp2_with fail
   refine (next_any _ nS os cap xs 3 hR.src (by omega) (by omega)).mono ?_
   rintro e W2 ⟨q, q1, q2, rfl, hg2, hS2⟩
   replace hR := hR.call hg2 hS2
   clear hg2 hS2
   have hjl : 1 ≤ js.length ∧ js.length ≤ 3 := by omega
   clear hk hlt
   go_wp2_with fail
   go_loopw [6] (fun i W => ∃ (k : Int) (ms : List MV) (u : Value), i = .int .i64 k ∧ 0 ≤ k ∧ (ms.length : Int) + k ≤ 2 ∧ (∀ (k : Nat) (m : MV), ms[k]? = some m → massB js.length m = true) ∧ RB w nS n2 n3 os cap xs js ms v u W) (fun i _ => (intOf i).toNat)
   case atStart => exact ⟨q, [], _, rfl, q1, by simp; omega, by simp, hR⟩
   case round =>
    clear hR q1 q2
    obtain ⟨k, ms, u, rfl, hk0, hk, hgm, hR⟩ := hrel
    have HGM := Lib.hid hgm
    clear hgm
    by_cases hlt : 0 < k
    ·obtain ⟨i0, hi, hz0, hz1, hz2⟩ := info_parts info54
     go_upto_block 3 with fail
     go_cut [] (fun W => ∃ m u', massB js.length m = true ∧ RB w nS n2 n3 os cap xs js (ms ++ [m]) v u' W)
     case first =>
      have c0 : wr.cell? ⟨n3, 1, none⟩ = some u := hR.b3.c 1 _ rfl
      have f0 := hR.b3.f 1
      have l3 := hR.b3.lt
      have hS0 : Src wr.drew nS os cap xs := hR.src.keepB (Below.refl _ _).drew
      go_wp2_with fail
      go_region_law (first
       | (have hxx := HA; clear hxx; refine step_append_lies _ rfl (.tmp 30) (.tmp 45) 23 rfl (n3 + 1) 136 i0 _ 5 40 under33 hi hz0 hz1 hz2 rfl (by decide) u ms.length (mflat ms) (by simp [Act.eval]) HA.out.om ⟨V4.heap.size, 0, none⟩ 1 1 (MV.vals ⟨a1, IntKind.i64.wrap (1 + a2), IntKind.i64.wrap (a3 * 32768), 0, IntKind.i64.wrap (a4 * 32768)⟩) (by simp [Act.eval]) rfl (new_cells _ _ _) (mv_one _) (by decide) (by unfold maxLen; omega) (by omega) HA.out.hb _ rfl ?_; intro g c W3 hown hgrow hat hlt3; have hB3 := HA.out.b3.low (Nat.lt_succ_self _) (grown_below HA.out.om hgrow HA.out.hb); have c04 := hB3.c 1 _ rfl; have f04 := hB3.f 1; have HO := Lib.hid hown; clear hown)
       | (have hxx := hS3; clear hxx; go_simp; go_at_call 61; refine (signed_any _ nS os cap xs 2 hS3 (by omega) (by omega)).mono ?_; rintro e V4 ⟨a4, a41, a42, rfl, hg4, hS4⟩; have HR4 := Lib.hid (HR3.out.call hg4 hS4); clear hg4; have c14 := HR4.out.b3.c 1 _ rfl; have HA := Lib.hid (HR4.out.bel (W' := V4.alloc (.cells #[.int .i64 a1, .int .i64 (IntKind.i64.wrap (1 + a2)), .int .i64 (IntKind.i64.wrap (a3 * 32768)), .int .i64 0, .int .i64 (IntKind.i64.wrap (a4 * 32768))] 136)) ((Below.refl _ _).alloc (Nat.le_refl _) _)); have c15 := HA.out.b3.c 1 _ rfl)
       | (have hxx := hS2; clear hxx; go_simp; go_at_call 61; refine (signed_any _ nS os cap xs 3 hS2 (by omega) (by omega)).mono ?_; rintro e V3 ⟨a3, a31, a32, rfl, hg3, hS3⟩; have HR3 := Lib.hid (HR2.out.call hg3 hS3); clear hg3; have c13 := HR3.out.b3.c 1 _ rfl)
       | (have hxx := hS1; clear hxx; go_simp; go_at_call 21; refine (next_any _ nS os cap xs 9000 hS1 (by omega) (by omega)).mono ?_; rintro e V2 ⟨a2, a21, a22, rfl, hg2, hS2⟩; have HR2 := Lib.hid (HR1.out.call hg2 hS2); clear hg2; have c12 := HR2.out.b3.c 1 _ rfl)
       | (go_simp; go_at_call 21; refine (next_any _ nS os cap xs js.length hS0 (by omega) (by omega)).mono ?_; rintro e V1 ⟨a1, a11, a12, rfl, hg1, hS1⟩; have HR1 := Lib.hid ((hR.bel (Below.refl _ _).drew).call hg1 hS1); clear hg1; have c11 := HR1.out.b3.c 1 _ rfl))
      all_goals
       go_wp2_with fail
       go_meet
       exact ⟨_, _, mass_ok _ a1 a2 a3 a4 ⟨a11, a12⟩ ⟨a21, a22⟩ ⟨a31, a32⟩ ⟨a41, a42⟩, HA.out.appM _ g c HO.out hgrow hat⟩
     case rest =>
      clear hR
      obtain ⟨m, u', hm, hR⟩ := hcut
      go_wp2
      go_roundw
      case rel => exact ⟨k - 1, ms ++ [m], u', by simp, by omega, by simp; omega, mass_snoc HGM.out hm, hR⟩
      case measure => simp [intOf]; omega
    ·obtain ⟨oa, cj, om, cm, rfl, rfl, s1, s2⟩ := hR.done
     obtain ⟨x, y, hb2⟩ := hR.b2
     have d0 := hR.b3.c 0 _ rfl
     have d1 := hR.b3.c 1 _ rfl
     have e0 := hb2.c 0 _ rfl
     have e1 := hb2.c 1 _ rfl
     have f0 := hb2.f 0
     have f1 := hb2.f 1
     have l2 := hb2.lt
     have l3 := hR.b3.lt
     have HC := Lib.hid (own_cap hR.om)
     have HR := Lib.hid hR
     have HS1 := Lib.hid s1
     have HS2 := Lib.hid s2
     clear hR s1 s2 hb2
     go_wp2_with fail
     have hF := HR.out.put2 (.slice oa js.length cj) (.slice om ms.length cm)
     refine bodyPost_ret (v := .agg #[.slice oa js.length cj, .slice om ms.length cm]) (by simp [results, Tryz.results31, go_sem, e0, e1]) rfl ⟨js, ms, oa, cj, om, cm, rfl, ?_, hF.gr, HC.out, fun W'' hag => own_base (own_blk hF.oj fun g _ hl hb => hag g (by have := hF.h2; have := hF.h3; omega) hl) (by have := hF.h2; have := hF.h3; omega), hF.ap, fun a ha => by have h0 := own_fresh0 hF.om a ha; have := hF.h2; have := hF.h3; omega⟩
     intro W'' hag
     obtain ⟨oa', cj', om', cm', q1, q2, s1, s2⟩ := own_done hF hag
     injection q1 with q1 _ q1'
     injection q2 with q2 _ q2'
     subst q1 q2
     exact ⟨hjl, by omega, hF.gj, HGM.out, s1, s2⟩
end Go.Proofs.En
end

