/-
  Texts put together: Db.
-/
import Derived.Test.YthcmkpcefiiiaaaGreatDoorZFormatCanonicalCard19
import Derived.Test.YthcmkpcefiiiaaaGreatDoorZFormatCanonicalCard8
set_option linter.unusedVariables false
/-
 Walks: a path that is made. Printed by gen_db.py out of db_src.txt.
-/
namespace Go.Proofs.Ng
open Go.RowKit
/-- A source whose numbers lie below n2. -/
structure SrS (n2 nS : Nat) (os : Option Addr) (cap : Nat) (xs : List Int) (W : World) : Prop where
 src : Src W nS os cap xs
 low : ∀ a, os = some a → xs ≠ [] → a.block < n2
section
variable {n2 nS cap : Nat} {os : Option Addr} {xs : List Int} {W X : World}
theorem SrS.on (h : SrS n2 nS os cap xs W) (hz : W.heap.size ≤ X.heap.size) (hk : ∀ k, k < n2 ∨ k = nS → X.heap[k]? = W.heap[k]?) : SrS n2 nS os cap xs X := by
 obtain ⟨⟨⟨k, hk1, hc⟩, hi, ho, hl⟩, hlow⟩ := h
 refine ⟨⟨⟨k, hk1, ?_⟩, ?_, ho, hl⟩, hlow⟩
 ·have e := hk nS (.inr rfl)
  obtain ⟨c0, c1, f0, f1, lt⟩ := hc
  refine ⟨?_, ?_, ?_, ?_, Nat.lt_of_lt_of_le lt hz⟩
  ·rw [← c0]; simp [World.cell?, e]
  ·rw [← c1]; simp [World.cell?, e]
  ·rw [← f0]; simp [World.frozen?, e]
  ·rw [← f1]; simp [World.frozen?, e]
 ·intro hne
  obtain ⟨b, off, e1, hr⟩ := hi hne
  have hb := hlow _ e1 (by intro e; exact hne (by rw [e]; rfl))
  refine ⟨b, off, e1, ⟨Nat.lt_of_lt_of_le hr.lt hz, fun i' r hr1 k' v' hv' => ?_⟩⟩
  rw [← hr.c i' r hr1 k' v' hv']
  simp [World.cell?, hk b (.inl hb)]
theorem SrS.keepA {B : Nat} (h : SrS n2 nS os cap xs W) (hb : Below B W X) (h1 : n2 ≤ B) (h2 : nS < B) : SrS n2 nS os cap xs X := h.on hb.size fun k hk => hb.block k (by omega)
theorem SrS.keep (h : SrS n2 nS os cap xs W) (hb : Below W.heap.size W X) (h1 : n2 ≤ W.heap.size) : SrS n2 nS os cap xs X := h.keepA hb h1 (src_lt h.src)
theorem SrS.put (h : SrS n2 nS os cap xs W) (n i : Nat) (v : Value) (h1 : n2 ≤ n) (h2 : n ≠ nS) : SrS n2 nS os cap xs (W.setCell ⟨n, i, none⟩ v) :=
 h.on (by simp [World.setCell]) fun k hk => Below.heap_setCell W ⟨n, i, none⟩ v k (by show k ≠ n; omega)
end
theorem grown_bel {b n2 : Nat} {w W X : World} (h : Below n2 w W) (hg : W.grownBy X (some b)) (hb : n2 ≤ b) (hz : n2 ≤ W.heap.size) : Below n2 w X :=
 h.trans ⟨hg.os, hg.tape, hg.output, hg.size, fun k hk => hg.block k (by omega) (fun e => by injection e with e; omega)⟩
theorem bel_put {n2 : Nat} {w W : World} {n i : Nat} (h : Below n2 w W) (v : Value) (hn : n2 ≤ n) : Below n2 w (W.setCell ⟨n, i, none⟩ v) :=
 h.trans ⟨rfl, rfl, rfl, by simp [World.setCell], fun k hk => Below.heap_setCell W ⟨n, i, none⟩ v k (by show k ≠ n; omega)⟩
/-- The next number of a source. -/
theorem next20 {n2 nS cap : Nat} {os : Option Addr} {xs : List Int} {W : World} (n : Int) (h : SrS n2 nS os cap xs W) (h1 : 1 ≤ n) (h2 : n ≤ 1000000000000) :
  Calls Tryz.prog 30 #[.pointer (some ⟨nS, 0, none⟩), .int .i64 n] W (fun e W' => ∃ r : Nat, (r : Int) < n ∧ e = .returned (.int .i64 (r : Nat)) ∧ W.grownBy W' (some nS) ∧ SrS n2 nS os cap xs W') := by
 refine (next_any W nS os cap xs n h.src h1 h2).mono ?_
 rintro e W' ⟨r, h0, h1, rfl, hg, hS⟩
 obtain ⟨k, rfl⟩ := Int.eq_ofNat_of_zero_le h0
 exact ⟨k, h1, rfl, hg, hS, h.low⟩
theorem numb21 {n2 nS cap : Nat} {os : Option Addr} {xs : List Int} {W : World} (h : SrS n2 nS os cap xs W) :
  Calls Tryz.prog 31 #[.pointer (some ⟨nS, 0, none⟩)] W (fun e W' => ∃ r : Int, Fm.inR64 r ∧ e = .returned (.int .i64 r) ∧ W.grownBy W' (some nS) ∧ SrS n2 nS os cap xs W') := by
 refine (number21 W nS os cap xs h.src).mono ?_
 rintro e W' ⟨r, h0, rfl, hg, hS⟩
 exact ⟨r, h0, rfl, hg, hS, h.low⟩
/-- What is made is small. -/
def MkPt (q : List Int) : Prop := q.length ≤ 3 ∧ ∀ n ∈ q, Fm.inR64 n
def MkUse (u : Fm.UseD) : Prop := u.nums.length ≤ 2 ∧ ∀ n ∈ u.depth :: u.index :: u.nums, Fm.inR64 n
def MkEd (e : Fm.EdgeD) : Prop := e.table.length ≤ 2 ∧ (∀ v ∈ e.table, ∀ n ∈ Fm.vecL v, Fm.inR64 n) ∧ e.uses.length ≤ 2 ∧ ∀ u ∈ e.uses, MkUse u
structure MkPath (p : Fm.PathD) : Prop where
 np : p.pts.length ≤ 4
 pt : ∀ q ∈ p.pts, MkPt q
 ne : p.edges.length ≤ 3
 ed : ∀ e ∈ p.edges, MkEd e
 rt : Fm.rightP p = true
theorem right_mk {zs : List (List Int)} {ws : List Fm.EdgeD} {j : Nat} (h1 : 2 ≤ zs.length) (h2 : zs.length ≤ 4) (h3 : ws.length + 1 = zs.length) (hj : 1 ≤ j ∧ j ≤ 3) (h : ∀ q ∈ zs, q.length = j) : Fm.rightP ⟨zs, ws⟩ = true := by
 obtain ⟨q, r, rfl⟩ := List.exists_cons_of_ne_nil (l := zs) (by intro e; rw [e] at h1; simp at h1)
 have hq := h q (by simp)
 unfold Fm.rightP
 rw [Bool.and_eq_true]
 simp only [List.head?_cons, Option.getD_some]
 refine ⟨decide_eq_true ⟨h1, by omega, by omega, by omega, by omega⟩, ?_⟩
 rw [List.all_eq_true]
 intro x hx
 exact decide_eq_true (by rw [h x hx, hq])
structure Rd20K (n2 nS cap n7 : Nat) (os : Option Addr) (xs : List Int) (vt : Value) (ts : List (Int × Int × Int)) (W5 : World) (L : Nat → Bool) (v56 v57 v58 v59 v60 v61 v62 v63 v64 v65 v66 v67 : Value) (w : World) : Prop where
 wf : SrS n2 nS os cap xs w ∧ (L 10 = false → W5.grownBy w (some nS))
 f0 : L 0 = true → v56 = .pointer (some ⟨n7, 0, none⟩)
 f1 : L 1 = true → v57 = vt
 f2 : L 2 = true → v58 = .pointer (some ⟨nS, 0, none⟩)
 f3 : L 3 = true → ∃ r, Fm.inR64 r ∧ v59 = .int .i64 r
 f4 : L 4 = true → v60 = .pointer (some ⟨nS, 0, none⟩)
 f5 : L 5 = true → ∃ r, Fm.inR64 r ∧ v61 = .int .i64 r
 f6 : L 6 = true → v62 = .pointer (some ⟨nS, 0, none⟩)
 f7 : L 7 = true → ∃ r, Fm.inR64 r ∧ v63 = .int .i64 r
 f8 : L 8 = true → ∃ r s t, (Fm.inR64 r ∧ Fm.inR64 s ∧ Fm.inR64 t) ∧ v64 = .agg #[.int .i64 r, .int .i64 s, .int .i64 t]
 f9 : L 9 = true → L 10 = false → ∃ r s t g, (Fm.inR64 r ∧ Fm.inR64 s ∧ Fm.inR64 t) ∧ v65 = .slice (some ⟨g, 0, none⟩) 1 1 ∧ Bx w g [.int .i64 r, .int .i64 s, .int .i64 t] 40 ∧ g ≠ nS
 f10 : L 10 = true → ∃ z, (∀ a ∈ Fm.vecL z, Fm.inR64 a) ∧ RowO VecD 40 3 (n7 + 1) w v66 (ts ++ [z]) ∧ Fr3 (n7 + 1) nS n7 W5 w ∧ (L 12 = false → Bx w n7 [vt, .slice none 0 0] 73)
 f11 : L 11 = true → v67 = .pointer (some ⟨n7, 0, none⟩)
 f12 : L 12 = true → ∃ z, (∀ a ∈ Fm.vecL z, Fm.inR64 a) ∧ Bx w n7 [v66, .slice none 0 0] 73
 c1_0 : L 1 = true → L 0 = true
 c3_2 : L 3 = true → L 2 = true
 c5_4 : L 5 = true → L 4 = true
 c7_6 : L 7 = true → L 6 = true
 c8_3 : L 8 = true → L 3 = true
 c8_5 : L 8 = true → L 5 = true
 c8_7 : L 8 = true → L 7 = true
 c9_8 : L 9 = true → L 8 = true
 c10_1 : L 10 = true → L 1 = true
 c10_9 : L 10 = true → L 9 = true
 c12_10 : L 12 = true → L 10 = true
 c12_11 : L 12 = true → L 11 = true
theorem Rd20K.keep {n2 nS cap n7 : Nat} {os : Option Addr} {xs : List Int} {vt : Value} {ts : List (Int × Int × Int)} {W5 : World} {L : Nat → Bool} {v56 v57 v58 v59 v60 v61 v62 v63 v64 v65 v66 v67 : Value} {w X : World} (k : Rd20K n2 nS cap n7 os xs vt ts W5 L v56 v57 v58 v59 v60 v61 v62 v63 v64 v65 v66 v67 w) (h10 : L 10 = false) (hg : w.grownBy X (some nS)) (hs : SrS n2 nS os cap xs X) : Rd20K n2 nS cap n7 os xs vt ts W5 L v56 v57 v58 v59 v60 v61 v62 v63 v64 v65 v66 v67 X :=
 ⟨⟨hs, fun h => grown_trans (k.wf.2 h) hg⟩, k.f0, k.f1, k.f2, k.f3, k.f4, k.f5, k.f6, k.f7, k.f8, fun h e => (k.f9 h e).elim fun r h => h.elim fun s h => h.elim fun t h => h.elim fun g h => ⟨r, s, t, g, h.1, h.2.1, h.2.2.1.grown hg h.2.2.2, h.2.2.2⟩, fun h => absurd (h10.symm.trans h) (by decide), k.f11, fun h => absurd (h10.symm.trans (k.c12_10 h)) (by decide), k.c1_0, k.c3_2, k.c5_4, k.c7_6, k.c8_3, k.c8_5, k.c8_7, k.c9_8, k.c10_1, k.c10_9, k.c12_10, k.c12_11⟩
structure Rd28K (n2 nS cap n14 : Nat) (os : Option Addr) (xs ns : List Int) (dp ix : Int) (vn : Value) (W5 : World) (L : Nat → Bool) (v86 v87 v88 v89 v90 v91 v92 v93 : Value) (w : World) : Prop where
 wf : SrS n2 nS os cap xs w ∧ (L 6 = false → W5.grownBy w (some nS))
 f0 : L 0 = true → v86 = .pointer (some ⟨n14, 2, none⟩)
 f1 : L 1 = true → v87 = vn
 f2 : L 2 = true → v88 = .pointer (some ⟨nS, 0, none⟩)
 f3 : L 3 = true → ∃ r : Nat, (r : Int) < 9 ∧ v89 = .int .i64 (r : Nat)
 f4 : L 4 = true → ∃ r : Int, Fm.inR64 r ∧ v90 = .int .i64 r
 f5 : L 5 = true → L 6 = false → ∃ (r : Int) (g : Nat), Fm.inR64 r ∧ v91 = .slice (some ⟨g, 0, none⟩) 1 1 ∧ Bx w g [.int .i64 r] 3 ∧ g ≠ nS
 f6 : L 6 = true → ∃ r : Int, Fm.inR64 r ∧ w.ownsRow (n14 + 1) 3 1 v92 (ns.length + 1) (pflat (ns ++ [r])) ∧ Fr3 (n14 + 1) nS n14 W5 w ∧ (L 8 = false → Bx w n14 [.int .i64 dp, .int .i64 ix, vn] 75)
 f7 : L 7 = true → v93 = .pointer (some ⟨n14, 2, none⟩)
 f8 : L 8 = true → Bx w n14 [.int .i64 dp, .int .i64 ix, v92] 75
 c1_0 : L 1 = true → L 0 = true
 c3_2 : L 3 = true → L 2 = true
 c4_3 : L 4 = true → L 3 = true
 c5_4 : L 5 = true → L 4 = true
 c6_1 : L 6 = true → L 1 = true
 c6_5 : L 6 = true → L 5 = true
 c8_6 : L 8 = true → L 6 = true
 c8_7 : L 8 = true → L 7 = true
theorem Rd28K.keep {n2 nS cap n14 : Nat} {os : Option Addr} {xs ns : List Int} {dp ix : Int} {vn : Value} {W5 : World} {L : Nat → Bool} {v86 v87 v88 v89 v90 v91 v92 v93 : Value} {w X : World} (k : Rd28K n2 nS cap n14 os xs ns dp ix vn W5 L v86 v87 v88 v89 v90 v91 v92 v93 w) (h6 : L 6 = false) (hg : w.grownBy X (some nS)) (hs : SrS n2 nS os cap xs X) : Rd28K n2 nS cap n14 os xs ns dp ix vn W5 L v86 v87 v88 v89 v90 v91 v92 v93 X :=
 ⟨⟨hs, fun h => grown_trans (k.wf.2 h) hg⟩, k.f0, k.f1, k.f2, k.f3, k.f4, fun h e => (k.f5 h e).elim fun r h => h.elim fun g h => ⟨r, g, h.1, h.2.1, h.2.2.1.grown hg h.2.2.2, h.2.2.2⟩, fun h => absurd (h6.symm.trans h) (by decide), k.f7, fun h => absurd (h6.symm.trans (k.c8_6 h)) (by decide), k.c1_0, k.c3_2, k.c4_3, k.c5_4, k.c6_1, k.c6_5, k.c8_6, k.c8_7⟩
theorem Bx.put32 {W : World} {b : Nat} {x y v : Value} {ty : TypeId} (h : Bx W b [x, y, v] ty) (u : Value) : Bx (W.setCell ⟨b, 2, none⟩ u) b [x, y, u] ty := ⟨by simp [World.setCell, Array.getElem?_modify, h.h]⟩
/-- The three blocks at the start. -/
theorem start7 (w : World) (os : Option Addr) (cap : Nat) (xs : List Int) (hI : Sl w os 1 (pvals xs)) (hl : xs.length ≤ 9223372036854775807) (X : World)
  (hX : X = ((w.alloc (.cells #[.slice none 0 0, .slice none 0 0] 29)).alloc (.cells #[.slice os xs.length cap, .int .i64 0] 115)).alloc (.cells #[.slice none 0 0, .slice none 0 0] 29)) :
  Bx X w.heap.size [.slice none 0 0, .slice none 0 0] 29 ∧ SrS w.heap.size (w.heap.size + 1) os cap xs X ∧ Bx X (w.heap.size + 2) [.slice none 0 0, .slice none 0 0] 29 ∧ Below w.heap.size w X ∧ X.heap.size = w.heap.size + 3 := by
 have h1 : Below w.heap.size w (w.alloc (.cells #[.slice none 0 0, .slice none 0 0] 29)) := (Below.refl _ _).alloc (Nat.le_refl _) _
 have s1 : (w.alloc (.cells #[.slice none 0 0, .slice none 0 0] 29)).heap.size = w.heap.size + 1 := by simp
 have x1 := Bx.new w [.slice none 0 0, .slice none 0 0] 29
 have i1 := hI.keep h1
 simp only [List.toArray] at x1
 generalize w.alloc (.cells #[.slice none 0 0, .slice none 0 0] 29) = w1 at *
 have h2 : Below w1.heap.size w1 (w1.alloc (.cells #[.slice os xs.length cap, .int .i64 0] 115)) := (Below.refl _ _).alloc (Nat.le_refl _) _
 have s2 : (w1.alloc (.cells #[.slice os xs.length cap, .int .i64 0] 115)).heap.size = w1.heap.size + 1 := by simp
 have x2 := src_new w1 os cap xs i1 hl
 rw [s1] at x2
 have x1b := x1.keep h2
 generalize w1.alloc (.cells #[.slice os xs.length cap, .int .i64 0] 115) = w2 at *
 have h3 : Below w2.heap.size w2 (w2.alloc (.cells #[.slice none 0 0, .slice none 0 0] 29)) := (Below.refl _ _).alloc (Nat.le_refl _) _
 have s3 : (w2.alloc (.cells #[.slice none 0 0, .slice none 0 0] 29)).heap.size = w2.heap.size + 1 := by simp
 have x3 := Bx.new w2 [.slice none 0 0, .slice none 0 0] 29
 have e2 : w2.heap.size = w.heap.size + 2 := by omega
 rw [e2] at x3
 subst hX
 refine ⟨x1b.keep h3, ⟨x2.keepB h3, fun a ha hne => ?_⟩, x3, below_call (below_call h1 h2) h3, by omega⟩
 subst ha
 obtain ⟨b, off, e, hr⟩ := hI (by simpa [pvals] using hne)
 injection e with e
 subst e
 exact hr.lt
set_option maxRecDepth 100000 in
set_option maxHeartbeats 16000000 in
theorem Path7_new (w : World) (os : Option Addr) (cap : Nat) (xs : List Int) (hI : Sl w os 1 (pvals xs)) (hl : xs.length ≤ 9223372036854775807) :
  Calls Tryz.prog 7 #[.slice os xs.length cap] w (fun e W' => ∃ v p, e = .returned v ∧ New w.heap.size W' (PathV v p) ∧ MkPath p ∧ Below w.heap.size w W') := by
 obtain ⟨x1, s1, x4, hb, hsz⟩ := start7 w os cap xs hI hl _ rfl
 have HF := Lib.hid (fun V => from_any os cap xs.length V)
 have HX2 := Lib.hid x1
 have HS := Lib.hid s1
 have HX4 := Lib.hid x4
 have HB := Lib.hid hb
 have HSZ := Lib.hid hsz
 clear hI hl x1 s1 x4 hb hsz
 go_enter Tryz.func7, Tryz.ntmps7
 go_wp2_with fail
 refine (HF.out _).mono ?_
 rintro e W1 ⟨rfl, rfl⟩
 go_upto_region 3 with fail
 generalize ((w.alloc (.cells #[.slice none 0 0, .slice none 0 0] 29)).alloc (.cells #[.slice os xs.length cap, .int .i64 0] 115)).alloc (.cells #[.slice none 0 0, .slice none 0 0] 29) = W1 at HX2 HS HX4 HB HSZ ⊢
 clear HF
 obtain ⟨n2, hn2⟩ : ∃ n, n = w.heap.size := ⟨_, rfl⟩
 have HN2 := Lib.hid hn2
 rw [← hn2] at HX2 HS HX4 HB HSZ ⊢
 clear hn2
 obtain ⟨nS, hnS⟩ : ∃ n, n = n2 + 1 := ⟨_, rfl⟩
 obtain ⟨n4, hn4⟩ : ∃ n, n = n2 + 2 := ⟨_, rfl⟩
 rw [← hn4] at HX4 ⊢
 rw [← hnS] at HS ⊢
 have hs1 : n2 < nS := by omega
 have hs2 : nS < n4 := by omega
 have HSZ : Hid (W1.heap.size = n4 + 1) := Lib.hid (by have := HSZ.out; omega)
 clear hnS hn4
 go_wp2_with fail
 refine (next20 3 HS.out (by decide) (by decide)).mono ?_
 rintro e W2 ⟨r1, hr1, rfl, hg, hs⟩
 have HS2 := Lib.hid hs
 have HX22 := Lib.hid (HX2.out.grown hg (by omega))
 have HX42 := Lib.hid (HX4.out.grown hg (by omega))
 have HB2 := Lib.hid (grown_bel HB.out hg (by omega) (by have := HSZ.out; omega))
 have HSZ2 : Hid (n4 + 1 ≤ W2.heap.size) := Lib.hid (by have := HSZ.out; have := hg.size; omega)
 clear hg hs HS HX2 HX4 HB HSZ
 go_wp2_with fail
 refine (next20 3 HS2.out (by decide) (by decide)).mono ?_
 rintro e W3 ⟨r2, hr2, rfl, hg, hs⟩
 have HS3 := Lib.hid hs
 have HX23 := Lib.hid (HX22.out.grown hg (by omega))
 have HX43 := Lib.hid (HX42.out.grown hg (by omega))
 have HB3 := Lib.hid (grown_bel HB2.out hg (by omega) (by have := HSZ2.out; omega))
 have HSZ3 : Hid (n4 + 1 ≤ W3.heap.size) := Lib.hid (by have := HSZ2.out; have := hg.size; omega)
 clear hg hs HS2 HX22 HX42 HB2 HSZ2
 obtain ⟨n, hn⟩ : ∃ n : Nat, n = 2 + r1 := ⟨_, rfl⟩
 obtain ⟨j, hj⟩ : ∃ n : Nat, n = 1 + r2 := ⟨_, rfl⟩
 have hn1 : (2 : Int) + (r1 : Int) = (n : Nat) := by omega
 have hj1 : (1 : Int) + (r2 : Int) = (j : Nat) := by omega
 have hnl : 2 ≤ n ∧ n ≤ 4 := by omega
 have hjl : 1 ≤ j ∧ j ≤ 3 := by omega
 clear hn hj
 go_wp2_with fail
 go_loopw [7] (fun i X => ∃ (k : Nat) (zs : List (List Int)) (v : Value), k ≤ n ∧ i = .int .i64 (k : Nat) ∧ zs.length = k ∧ (∀ q ∈ zs, MkPt q ∧ q.length = j) ∧ Bx X n4 [v, .slice none 0 0] 29 ∧ RowO PtD 68 1 (n4 + 1) X v zs ∧ SrS n2 nS os cap xs X ∧ Bx X n2 [.slice none 0 0, .slice none 0 0] 29 ∧ Below n2 w X ∧ n4 + 1 ≤ X.heap.size) (fun i _ => n - (intOf i).toNat)
 case atStart => exact ⟨0, [], .slice none 0 0, Nat.zero_le _, rfl, rfl, nofun, HX43.out, RowO.nil _ _ _ _ _, HS3.out, HX23.out, HB3.out, HSZ3.out⟩
 case round =>
  obtain ⟨k, zs, v, hk, rfl, hzl, hmk, hX4, hRow, hS, hX2, hB, hz⟩ := hrel
  obtain ⟨W5, rfl⟩ : ∃ X, X = wr := ⟨_, rfl⟩
  have HMK := Lib.hid hmk
  have HX45 := Lib.hid hX4
  have HRow5 := Lib.hid hRow
  have HS5 := Lib.hid hS
  have HX25 := Lib.hid hX2
  have HB5 := Lib.hid hB
  have HZ5 := Lib.hid hz
  have HZL := Lib.hid hzl
  clear hmk hX4 hRow hS hX2 hB hz hzl
  by_cases hlt : k < n
  ·have hd : decide ((k : Int) < (n : Int)) = true := decide_eq_true (by omega)
   go_wp2_with fail
   clear hd
   go_loopw [8, 9] (fun v i X => ∃ (m : Nat) (ns : List Int), m ≤ j ∧ i = .int .i64 (m : Nat) ∧ ns.length = m ∧ (∀ a ∈ ns, Fm.inR64 a) ∧ X.ownsRow W5.heap.size 2 1 v m (pflat ns) ∧ SrS n2 nS os cap xs X ∧ W5.grownBy X (some nS)) (fun _ i _ => j - (intOf i).toNat)
   case atStart => exact ⟨0, [], Nat.zero_le _, rfl, rfl, nofun, World.ownsRow_nil _ _ _ _, HS5.out, World.grownBy.refl _ _⟩
   case round =>
    obtain ⟨m, ns, hm, rfl, hnl2, hin, hO, hS, hG⟩ := hrel
    by_cases hlt2 : m < j
    ·have hd : decide ((m : Int) < (j : Int)) = true := decide_eq_true (by omega)
     have HC := Lib.hid (numb21 hS)
     have HIN := Lib.hid hin
     have HO := Lib.hid hO
     have HG := Lib.hid hG
     have HNL := Lib.hid hnl2
     clear hin hO hS hG hnl2
     go_wp2_with fail
     refine HC.out.mono ?_
     clear HC hd
     rintro e Wa ⟨r, hr, rfl, hg, hs⟩
     have hz5 := HZ5.out
     have ho2 := own_blk (W' := Wa) HO.out fun g _ hl hb => hg.block g hl (by intro e; injection e with e; omega)
     have hb2 : Below Wa.heap.size Wa (Wa.alloc (.cells #[.int .i64 r] 2)) := (Below.refl _ _).alloc (Nat.le_refl _) _
     have HO2 := Lib.hid (own_keep ho2 hb2)
     have HG2 := Lib.hid (grown_call (grown_trans HG.out hg) hb2)
     have HS2 := Lib.hid (hs.keep hb2 (by have := HG.out.size; have := hg.size; omega))
     have hsz : W5.heap.size ≤ (Wa.alloc (.cells #[.int .i64 r] 2)).heap.size := HG2.out.size
     have HR := Lib.hid hr
     obtain ⟨i0, hi, hz0, hz1, hz2⟩ := info_parts info2
     clear hg hs ho2 hb2 HO HG hr
     go_wp2_with (at_builtin; refine wpList_append_own _ rfl _ _ 68 rfl W5.heap.size 2 i0 (.int .i64 0) 1 8 under42 hi hz0 hz1 hz2 rfl (by decide) _ _ _ rfl HO2.out ⟨Wa.heap.size, 0, none⟩ 1 1 [.int .i64 r] rfl rfl ?c1 ?c2 ?c3 ?c4 ?c5 ?_)
     case c1 => exact new_cells _ _ _
     case c2 => intro u hu; simp at hu; subst hu; rfl
     case c3 => unfold maxLen; omega
     case c4 => omega
     case c5 => exact hsz
     intro v' w' hown' hgrow _
     have hbw := grown_below HO2.out hgrow hsz
     have HO3 : Hid (w'.ownsRow W5.heap.size 2 1 v' (m + 1) (pflat (ns ++ [r]))) := Lib.hid (by rw [pflat_app]; exact hown')
     have HG3 := Lib.hid (grown_low2 HG2.out hbw (Nat.le_refl _))
     have HS3 := Lib.hid (HS2.out.keepA hbw (by omega) (by omega))
     clear hown' hgrow hbw HO2 HG2 HS2 hsz hi hz0 hz1 hz2
     go_wp2_with fail
     go_roundw
     case rel => exact ⟨m + 1, ns ++ [r], by omega, by simp, by rw [List.length_append, HNL.out]; rfl, fun a ha => (List.mem_append.1 ha).elim (HIN.out a) (fun h => by rw [List.mem_singleton] at h; subst h; exact HR.out), HO3.out, HS3.out, HG3.out⟩
     case measure => simp [intOf]; omega
    ·have hke : m = j := by omega
     subst hke
     have hd : decide ((m : Int) < (m : Int)) = false := by simp
     have hd2 : decide (m < m) = false := by simp
     have hz5 := HZ5.out
     have hzg := hG.size
     have hmk : MkPt ns ∧ ns.length = m := ⟨⟨by omega, hin⟩, hnl2⟩
     have hNV := NumV.mk (lo' := W5.heap.size) hnl2 hO (Nat.le_refl _)
     obtain ⟨o8, c8, rfl⟩ := own_sl hO
     have HD : Hid (New W5.heap.size wr (fun Y => PtD Y [.slice o8 m c8] ns)) := Lib.hid (fun Y hY => by
      obtain ⟨oa, cp, e, -, hs⟩ := hNV Y hY
      exact ⟨oa, cp, by rw [e], hs⟩)
     have HMN := Lib.hid hmk
     have hX4 := HX45.out.grown hG (by omega)
     have hX2 := HX25.out.grown hG (by omega)
     have hB := grown_bel HB5.out hG (by omega) (by omega)
     obtain ⟨rows, hV0⟩ := HRow5.out.ex
     have hAg := grown_ag hG (n4 + 1) (by omega)
     have hVl := hV0.len
     have hrl : rows.length = k := by have := HZL.out; omega
     have hb2 : Below wr.heap.size wr (wr.alloc (.cells #[.slice o8 m c8] 68)) := (Below.refl _ _).alloc (Nat.le_refl _) _
     have HV2 := Lib.hid ((hV0.keep hAg).keep (AgI.of hb2))
     have HV0 := Lib.hid hV0
     have HAG := Lib.hid hAg
     have HB2 := Lib.hid hb2
     have hsz : n4 + 1 ≤ (wr.alloc (.cells #[.slice o8 m c8] 68)).heap.size := by have := hb2.size; omega
     have HX46 := Lib.hid hX4
     have HX26 := Lib.hid hX2
     have HB6 := Lib.hid hB
     have HS6 := Lib.hid hS
     have c0 := hX4.c 0 _ rfl
     have cl := hX4.lt
     obtain ⟨i0, hi, hz0, hz1, hz2⟩ := info_parts info42
     clear hin hO hS hG hnl2 hmk hNV hX4 hX2 hB hV0 hAg hb2 hVl hzg HX45 HX25 HB5 HRow5 HS5
     go_wp2_with (at_builtin; refine wpList_append_own_at _ rfl _ _ 26 rfl (n4 + 1) 68 i0 (.slice none 0 0) 1 24 under22 hi hz0 hz1 hz2 rfl (by decide) _ _ _ rfl HV2.out.own ⟨wr.heap.size, 0, none⟩ 1 1 [.slice o8 m c8] rfl rfl ?c1 ?c2 ?c3 ?c4 ?c5 ?_)
     case c1 => exact new_cells _ _ _
     case c2 => intro u hu; simp at hu; subst hu; rfl
     case c3 => unfold maxLen; omega
     case c4 => omega
     case c5 => exact hsz
     intro v' w' hown' hgrow _ hat
     obtain ⟨o9, c9, rfl⟩ := own_sl hown'
     have hrow := HV0.out.app HAG.out HD.out rfl HB2.out (by rw [hrl]; exact hown') hgrow (by simpa using hat) (by omega)
     have hbw : Below (n4 + 1) wr w' := (HB2.out.mono (by omega)).trans (grown_below HV2.out.own hgrow hsz)
     have hX4 := HX46.out.low hbw (by omega)
     have hf := hX4.f 0
     have hX2 := HX26.out.low hbw (by omega)
     have HX47 := Lib.hid (hX4.put1 (.slice o9 (k + 1) c9))
     have HX27 := Lib.hid (hX2.other (show n2 ≠ n4 by omega) 0 (.slice o9 (k + 1) c9))
     have HS7 := Lib.hid ((HS6.out.keepA hbw (by omega) (by omega)).put n4 0 (.slice o9 (k + 1) c9) (by omega) (by omega))
     have HRow7 := Lib.hid (hrow.keep (AgI.set (lo := n4 + 1) w' (n := n4) (i := 0) (.slice o9 (k + 1) c9) (by omega)))
     have HB7 := Lib.hid (bel_put (HB6.out.trans (hbw.mono (by omega))) (i := 0) (.slice o9 (k + 1) c9) (show n2 ≤ n4 by omega))
     have HZ7 : Hid (n4 + 1 ≤ (w'.setCell ⟨n4, 0, none⟩ (.slice o9 (k + 1) c9)).heap.size) := Lib.hid (by have := HX47.out.lt; omega)
     have hlt4 := hX4.lt
     have hc4 := hX4.c 0 _ rfl
     clear hown' hgrow hat hrow hbw hX2 HV0 HAG HD HB2 HV2 hi hz0 hz1 hz2 c0 cl hsz HX46 HX26 HS6 HB6 hX4
     go_wp2_with fail
     go_roundw
     case rel => exact ⟨k + 1, zs ++ [ns], _, by omega, by simp, by rw [List.length_append, HZL.out]; rfl, fun q hq => (List.mem_append.1 hq).elim (HMK.out q) (fun h => by rw [List.mem_singleton] at h; subst h; exact HMN.out), HX47.out, HRow7.out, HS7.out, HX27.out, HB7.out, HZ7.out⟩
     case measure => simp [intOf]; omega
  ·have hke : k = n := by omega
   subst hke
   obtain ⟨op, np, rfl, hPts, -, -⟩ := HRow5.out.done
   have HPT := Lib.hid hPts
   have hd : decide ((k : Int) < (k : Int)) = false := by simp
   have hd2 : decide (k < k) = false := by simp
   have hzl := HZL.out
   have hz5 := HZ5.out
   clear hPts HRow5 HS3 HX23 HX43 HB3 HSZ3 hk hlt
   obtain ⟨W6, rfl⟩ : ∃ X, X = W5 := ⟨_, rfl⟩
   go_wp2_with fail
   clear hd hd2
   go_loopw [10] (fun i X => ∃ (q : Nat) (ws : List Fm.EdgeD) (ve : Value), 1 ≤ q ∧ q ≤ k ∧ i = .int .i64 (q : Nat) ∧ ws.length + 1 = q ∧ (∀ e ∈ ws, MkEd e) ∧ Bx X n4 [.slice op zs.length np, ve] 29 ∧ RowO EdD 73 2 W6.heap.size X ve ws ∧ SrS n2 nS os cap xs X ∧ Fr3 W6.heap.size nS n4 W6 X) (fun i _ => k - (intOf i).toNat)
   case atStart => exact ⟨1, [], .slice none 0 0, Nat.le_refl _, by omega, rfl, rfl, nofun, HX45.out, RowO.nil _ _ _ _ _, HS5.out, Fr3.refl _ _ _ _⟩
   case round =>
    obtain ⟨q, ws, ve, hq1, hq2, rfl, hwl, hmk, hX4, hRow, hS, hF⟩ := hrel
    obtain ⟨W7, rfl⟩ : ∃ X, X = wr := ⟨_, rfl⟩
    have HME := Lib.hid hmk
    have HX47 := Lib.hid hX4
    have HRow7 := Lib.hid hRow
    have HS7 := Lib.hid hS
    have HF7 := Lib.hid hF
    have HWL := Lib.hid hwl
    have hz7 : n4 + 1 ≤ W7.heap.size := Nat.le_trans hz5 hF.size
    clear hmk hX4 hRow hS hF hwl
    by_cases hlt : q < k
    ·have hd : decide ((q : Int) < (k : Int)) = true := decide_eq_true (by omega)
     have hb1 : Below W7.heap.size W7 (W7.alloc (.cells #[.slice none 0 0, .slice none 0 0] 73)) := (Below.refl _ _).alloc (Nat.le_refl _) _
     have HS8 := Lib.hid (HS7.out.keep hb1 (by omega))
     have HX78 := Lib.hid (Bx.new W7 [.slice none 0 0, .slice none 0 0] 73)
     have HB8 := Lib.hid hb1
     clear hb1
     go_upto_region 17 with fail
     generalize W7.alloc (.cells #[.slice none 0 0, .slice none 0 0] 73) = W8 at HS8 HX78 HB8 ⊢
     obtain ⟨n7, hn7⟩ : ∃ n, n = W7.heap.size := ⟨_, rfl⟩
     have HN7 := Lib.hid hn7
     rw [← hn7] at HX78 hz7 ⊢
     clear hn7
     go_wp2_with fail
     refine (next20 3 HS8.out (by decide) (by decide)).mono ?_
     rintro e W9 ⟨r3, hr3, rfl, hg, hs⟩
     have HS9 := Lib.hid hs
     have HX79 := Lib.hid (HX78.out.grown hg (by omega))
     have HG9 := Lib.hid (grown_trans (grown_of_below HB8.out) hg)
     clear hg hs HS8 HX78 HB8 hd
     go_wp2_with fail
     go_loopw [12] (fun i X => ∃ (m : Nat) (ts : List (Int × Int × Int)) (vt : Value), i = .int .i64 (m : Nat) ∧ ts.length + m ≤ 2 ∧ (∀ v ∈ ts, ∀ a ∈ Fm.vecL v, Fm.inR64 a) ∧ Bx X n7 [vt, .slice none 0 0] 73 ∧ RowO VecD 40 3 (n7 + 1) X vt ts ∧ SrS n2 nS os cap xs X ∧ W7.grownBy X (some nS)) (fun i _ => (intOf i).toNat)
     case atStart => exact ⟨r3, [], .slice none 0 0, rfl, by simp; omega, nofun, HX79.out, RowO.nil _ _ _ _ _, HS9.out, HG9.out⟩
     case round =>
      obtain ⟨m, ts, vt, rfl, hml, hin, hX7, hRow, hS, hG⟩ := hrel
      obtain ⟨Wa, rfl⟩ : ∃ X, X = wr := ⟨_, rfl⟩
      have HIN := Lib.hid hin
      have HX7a := Lib.hid hX7
      have HRowa := Lib.hid hRow
      have HSa := Lib.hid hS
      have HGa := Lib.hid hG
      have hza : n7 + 1 ≤ Wa.heap.size := hX7.lt
      clear hin hX7 hRow hS hG
      by_cases hgt : 0 < m
      ·have hd : decide ((0 : Int) < (m : Int)) = true := decide_eq_true (by omega)
       go_wp2_with fail
       have HXL : Hid (∀ rows : List (List Value), rows.length = ts.length → rows.length + 1 ≤ 1048576) := Lib.hid (fun rows h => by omega)
       have h7S : n7 ≠ nS := by omega
       have hS7 : nS < n7 + 1 := by omega
       have h7z : W7.heap.size = n7 := HN7.out.symm
       clear hd
       refine wp_region_inv (by kernel_rfl) (by kernel_rfl) (fun L a w => ∃ v56 v57 v58 v59 v60 v61 v62 v63 v64 v65 v66 v67 : Value, a = { tmps := #[((Value.slice os xs.length cap)), undef, ((Value.pointer (some ⟨n2, 0, none⟩))), ((Value.pointer (some ⟨nS, 0, none⟩))), ((Value.pointer (some ⟨n4, 0, none⟩))), ((Value.int IntKind.i64 ((k : Nat) : Int))), ((Value.int IntKind.i64 ((j : Nat) : Int))), ((Value.int IntKind.i64 ((k : Nat) : Int))), u8, u9, ((Value.int IntKind.i64 ((q : Nat) : Int))), ((Value.pointer (some ⟨n7, 0, none⟩))), ((Value.int IntKind.i64 ((m : Nat) : Int))), u13, u14, u15, ((Value.slice os xs.length cap)), ((Value.pointer (some ⟨nS, 0, none⟩))), ((Value.pointer (some ⟨nS, 0, none⟩))), ((Value.int IntKind.i64 ((r1 : Nat) : Int))), ((Value.int IntKind.i64 ((k : Nat) : Int))), ((Value.pointer (some ⟨nS, 0, none⟩))), ((Value.int IntKind.i64 ((r2 : Nat) : Int))), ((Value.int IntKind.i64 ((j : Nat) : Int))), ((Value.int IntKind.i64 ((k : Nat) : Int))), ((Value.int IntKind.i64 ((k : Nat) : Int))), ((Value.bool false)), u27, u28, u29, u30, u31, u32, u33, u34, u35, u36, u37, u38, u39, u40, u41, u42, u43, u44, ((Value.int IntKind.i64 ((q : Nat) : Int))), ((Value.int IntKind.i64 ((k : Nat) : Int))), ((Value.bool true)), u48, u49, ((Value.pointer (some ⟨nS, 0, none⟩))), ((Value.int IntKind.i64 ((r3 : Nat) : Int))), ((Value.int IntKind.i64 ((m : Nat) : Int))), ((Value.bool true)), u54, u55, v56, v57, v58, v59, v60, v61, v62, v63, v64, v65, v66, v67, u68, u69, u70, u71, u72, u73, u74, u75, u76, u77, u78, u79, u80, u81, u82, u83, u84, u85, u86, u87, u88, u89, u90, u91, u92, u93, u94, u95, u96, u97, u98, u99, u100, u101, u102, u103, u104, u105, undef], defers := [] } ∧ Rd20K n2 nS cap n7 os xs vt ts Wa L v56 v57 v58 v59 v60 v61 v62 v63 v64 v65 v66 v67 w) ?_ ?_ ?_
       ·exact ⟨_, _, _, _, _, _, _, _, _, _, _, _, rfl, ⟨⟨HSa.out.keep (below_drew Wa 1) (by omega), fun _ => grown_of_below (below_drew Wa 1)⟩, nofun, nofun, nofun, nofun, nofun, nofun, nofun, nofun, nofun, nofun, nofun, nofun, nofun, nofun, nofun, nofun, nofun, nofun, nofun, nofun, nofun, nofun, nofun, nofun, nofun⟩⟩
       ·intro iq oq ho L a w hL hd hJ
        obtain ⟨v56, v57, v58, v59, v60, v61, v62, v63, v64, v65, v66, v67, rfl, k⟩ := hJ
        have hiq : iq < 13 := by have := (Array.getElem?_eq_some_iff.1 ho).1; simpa using this
        match iq, hiq, ho, hL with
        | 0, _, ho, hL =>
         have ho2 := ho
         simp only [qz1, qz2, qz3, qz4] at ho
         subst ho
         refine wpOp_step ho2 (fun K hK => ?_)
         go_simp
         exact hK _ _ ⟨_, _, _, _, _, _, _, _, _, _, _, _, rfl, ⟨k.wf, fun _ => rfl, k.f1, k.f2, k.f3, k.f4, k.f5, k.f6, k.f7, k.f8, k.f9, k.f10, k.f11, k.f12, fun h => up_or (k.c1_0 h), fun h => up_or (k.c3_2 h), fun h => up_or (k.c5_4 h), fun h => up_or (k.c7_6 h), fun h => up_or (k.c8_3 h), fun h => up_or (k.c8_5 h), fun h => up_or (k.c8_7 h), fun h => up_or (k.c9_8 h), fun h => up_or (k.c10_1 h), fun h => up_or (k.c10_9 h), fun h => up_or (k.c12_10 h), fun h => up_or (k.c12_11 h)⟩⟩
        | 1, _, ho, hL =>
         have ho2 := ho
         simp only [qz1, qz2, qz3, qz4] at ho
         subst ho
         refine wpOp_step ho2 (fun K hK => ?_)
         obtain rfl := k.f0 (hd ⟨0, .data⟩ (by simp) rfl)
         have h10 : L 10 = false := by
          cases h : L 10 with
          | false => rfl
          | true => exact absurd (hL.symm.trans (k.c10_1 h)) (by decide)
         have hbx := HX7a.out.grown (k.wf.2 h10) h7S
         have c1 := hbx.c 0 _ rfl
         have cl := hbx.lt
         go_simp
         exact hK _ _ ⟨_, _, _, _, _, _, _, _, _, _, _, _, rfl, ⟨k.wf, k.f0, fun _ => rfl, k.f2, k.f3, k.f4, k.f5, k.f6, k.f7, k.f8, k.f9, k.f10, k.f11, k.f12, fun _ => up_or (hd ⟨0, .data⟩ (by simp) rfl), fun h => up_or (k.c3_2 h), fun h => up_or (k.c5_4 h), fun h => up_or (k.c7_6 h), fun h => up_or (k.c8_3 h), fun h => up_or (k.c8_5 h), fun h => up_or (k.c8_7 h), fun h => up_or (k.c9_8 h), fun h => up_or (k.c10_1 h), fun h => up_or (k.c10_9 h), fun h => up_or (k.c12_10 h), fun h => up_or (k.c12_11 h)⟩⟩
        | 2, _, ho, hL =>
         have ho2 := ho
         simp only [qz1, qz2, qz3, qz4] at ho
         subst ho
         refine wpOp_step ho2 (fun K hK => ?_)
         go_simp
         exact hK _ _ ⟨_, _, _, _, _, _, _, _, _, _, _, _, rfl, ⟨k.wf, k.f0, k.f1, fun _ => rfl, k.f3, k.f4, k.f5, k.f6, k.f7, k.f8, k.f9, k.f10, k.f11, k.f12, fun h => up_or (k.c1_0 h), fun h => up_or (k.c3_2 h), fun h => up_or (k.c5_4 h), fun h => up_or (k.c7_6 h), fun h => up_or (k.c8_3 h), fun h => up_or (k.c8_5 h), fun h => up_or (k.c8_7 h), fun h => up_or (k.c9_8 h), fun h => up_or (k.c10_1 h), fun h => up_or (k.c10_9 h), fun h => up_or (k.c12_10 h), fun h => up_or (k.c12_11 h)⟩⟩
        | 3, _, ho, hL =>
         have ho2 := ho
         simp only [qz1, qz2, qz3, qz4] at ho
         subst ho
         refine wpOp_step ho2 (fun K hK => ?_)
         obtain rfl := k.f2 (hd ⟨2, .data⟩ (by simp) rfl)
         have h10 : L 10 = false := by
          cases h : L 10 with
          | false => rfl
          | true => exact absurd (hL.symm.trans (k.c8_3 (k.c9_8 (k.c10_9 h)))) (by decide)
         have hcall := numb21 k.wf.1
         go_simp
         refine hcall.mono ?_
         rintro e X ⟨r, hr, rfl, hg, hs⟩
         replace k := k.keep h10 hg hs
         exact hK _ _ ⟨_, _, _, _, _, _, _, _, _, _, _, _, rfl, ⟨k.wf, k.f0, k.f1, k.f2, fun _ => ⟨r, hr, rfl⟩, k.f4, k.f5, k.f6, k.f7, k.f8, k.f9, k.f10, k.f11, k.f12, fun h => up_or (k.c1_0 h), fun _ => up_or (hd ⟨2, .data⟩ (by simp) rfl), fun h => up_or (k.c5_4 h), fun h => up_or (k.c7_6 h), fun h => up_or (k.c8_3 h), fun h => up_or (k.c8_5 h), fun h => up_or (k.c8_7 h), fun h => up_or (k.c9_8 h), fun h => up_or (k.c10_1 h), fun h => up_or (k.c10_9 h), fun h => up_or (k.c12_10 h), fun h => up_or (k.c12_11 h)⟩⟩
        | 4, _, ho, hL =>
         have ho2 := ho
         simp only [qz1, qz2, qz3, qz4] at ho
         subst ho
         refine wpOp_step ho2 (fun K hK => ?_)
         go_simp
         exact hK _ _ ⟨_, _, _, _, _, _, _, _, _, _, _, _, rfl, ⟨k.wf, k.f0, k.f1, k.f2, k.f3, fun _ => rfl, k.f5, k.f6, k.f7, k.f8, k.f9, k.f10, k.f11, k.f12, fun h => up_or (k.c1_0 h), fun h => up_or (k.c3_2 h), fun h => up_or (k.c5_4 h), fun h => up_or (k.c7_6 h), fun h => up_or (k.c8_3 h), fun h => up_or (k.c8_5 h), fun h => up_or (k.c8_7 h), fun h => up_or (k.c9_8 h), fun h => up_or (k.c10_1 h), fun h => up_or (k.c10_9 h), fun h => up_or (k.c12_10 h), fun h => up_or (k.c12_11 h)⟩⟩
        | 5, _, ho, hL =>
         have ho2 := ho
         simp only [qz1, qz2, qz3, qz4] at ho
         subst ho
         refine wpOp_step ho2 (fun K hK => ?_)
         obtain rfl := k.f4 (hd ⟨4, .data⟩ (by simp) rfl)
         have h10 : L 10 = false := by
          cases h : L 10 with
          | false => rfl
          | true => exact absurd (hL.symm.trans (k.c8_5 (k.c9_8 (k.c10_9 h)))) (by decide)
         have hcall := numb21 k.wf.1
         go_simp
         refine hcall.mono ?_
         rintro e X ⟨r, hr, rfl, hg, hs⟩
         replace k := k.keep h10 hg hs
         exact hK _ _ ⟨_, _, _, _, _, _, _, _, _, _, _, _, rfl, ⟨k.wf, k.f0, k.f1, k.f2, k.f3, k.f4, fun _ => ⟨r, hr, rfl⟩, k.f6, k.f7, k.f8, k.f9, k.f10, k.f11, k.f12, fun h => up_or (k.c1_0 h), fun h => up_or (k.c3_2 h), fun _ => up_or (hd ⟨4, .data⟩ (by simp) rfl), fun h => up_or (k.c7_6 h), fun h => up_or (k.c8_3 h), fun h => up_or (k.c8_5 h), fun h => up_or (k.c8_7 h), fun h => up_or (k.c9_8 h), fun h => up_or (k.c10_1 h), fun h => up_or (k.c10_9 h), fun h => up_or (k.c12_10 h), fun h => up_or (k.c12_11 h)⟩⟩
        | 6, _, ho, hL =>
         have ho2 := ho
         simp only [qz1, qz2, qz3, qz4] at ho
         subst ho
         refine wpOp_step ho2 (fun K hK => ?_)
         go_simp
         exact hK _ _ ⟨_, _, _, _, _, _, _, _, _, _, _, _, rfl, ⟨k.wf, k.f0, k.f1, k.f2, k.f3, k.f4, k.f5, fun _ => rfl, k.f7, k.f8, k.f9, k.f10, k.f11, k.f12, fun h => up_or (k.c1_0 h), fun h => up_or (k.c3_2 h), fun h => up_or (k.c5_4 h), fun h => up_or (k.c7_6 h), fun h => up_or (k.c8_3 h), fun h => up_or (k.c8_5 h), fun h => up_or (k.c8_7 h), fun h => up_or (k.c9_8 h), fun h => up_or (k.c10_1 h), fun h => up_or (k.c10_9 h), fun h => up_or (k.c12_10 h), fun h => up_or (k.c12_11 h)⟩⟩
        | 7, _, ho, hL =>
         have ho2 := ho
         simp only [qz1, qz2, qz3, qz4] at ho
         subst ho
         refine wpOp_step ho2 (fun K hK => ?_)
         obtain rfl := k.f6 (hd ⟨6, .data⟩ (by simp) rfl)
         have h10 : L 10 = false := by
          cases h : L 10 with
          | false => rfl
          | true => exact absurd (hL.symm.trans (k.c8_7 (k.c9_8 (k.c10_9 h)))) (by decide)
         have hcall := numb21 k.wf.1
         go_simp
         refine hcall.mono ?_
         rintro e X ⟨r, hr, rfl, hg, hs⟩
         replace k := k.keep h10 hg hs
         exact hK _ _ ⟨_, _, _, _, _, _, _, _, _, _, _, _, rfl, ⟨k.wf, k.f0, k.f1, k.f2, k.f3, k.f4, k.f5, k.f6, fun _ => ⟨r, hr, rfl⟩, k.f8, k.f9, k.f10, k.f11, k.f12, fun h => up_or (k.c1_0 h), fun h => up_or (k.c3_2 h), fun h => up_or (k.c5_4 h), fun _ => up_or (hd ⟨6, .data⟩ (by simp) rfl), fun h => up_or (k.c8_3 h), fun h => up_or (k.c8_5 h), fun h => up_or (k.c8_7 h), fun h => up_or (k.c9_8 h), fun h => up_or (k.c10_1 h), fun h => up_or (k.c10_9 h), fun h => up_or (k.c12_10 h), fun h => up_or (k.c12_11 h)⟩⟩
        | 8, _, ho, hL =>
         have ho2 := ho
         simp only [qz1, qz2, qz3, qz4] at ho
         subst ho
         refine wpOp_step ho2 (fun K hK => ?_)
         obtain ⟨r, hr, rfl⟩ := k.f3 (hd ⟨3, .data⟩ (by simp) rfl)
         obtain ⟨s, hs, rfl⟩ := k.f5 (hd ⟨5, .data⟩ (by simp) rfl)
         obtain ⟨t, ht, rfl⟩ := k.f7 (hd ⟨7, .data⟩ (by simp) rfl)
         go_simp
         exact hK _ _ ⟨_, _, _, _, _, _, _, _, _, _, _, _, rfl, ⟨k.wf, k.f0, k.f1, k.f2, k.f3, k.f4, k.f5, k.f6, k.f7, fun _ => ⟨r, s, t, ⟨hr, hs, ht⟩, rfl⟩, k.f9, k.f10, k.f11, k.f12, fun h => up_or (k.c1_0 h), fun h => up_or (k.c3_2 h), fun h => up_or (k.c5_4 h), fun h => up_or (k.c7_6 h), fun _ => up_or (hd ⟨3, .data⟩ (by simp) rfl), fun _ => up_or (hd ⟨5, .data⟩ (by simp) rfl), fun _ => up_or (hd ⟨7, .data⟩ (by simp) rfl), fun h => up_or (k.c9_8 h), fun h => up_or (k.c10_1 h), fun h => up_or (k.c10_9 h), fun h => up_or (k.c12_10 h), fun h => up_or (k.c12_11 h)⟩⟩
        | 9, _, ho, hL =>
         have ho2 := ho
         simp only [qz1, qz2, qz3, qz4] at ho
         subst ho
         refine wpOp_step ho2 (fun K hK => ?_)
         have h10 : L 10 = false := by
          cases h : L 10 with
          | false => rfl
          | true => exact absurd (hL.symm.trans (k.c10_9 h)) (by decide)
         obtain ⟨r, s, t, hin, rfl⟩ := k.f8 (hd ⟨8, .data⟩ (by simp) rfl)
         have hb : Below w.heap.size w (w.alloc (.cells #[.int .i64 r, .int .i64 s, .int .i64 t] 40)) := (Below.refl _ _).alloc (Nat.le_refl _) _
         have hbx := Bx.new w [.int .i64 r, .int .i64 s, .int .i64 t] 40
         have hwz := (k.wf.2 h10).size
         have hne : w.heap.size ≠ nS := by omega
         go_simp
         replace k := k.keep h10 (grown_of_below hb) (k.wf.1.keep hb (by omega))
         exact hK _ _ ⟨_, _, _, _, _, _, _, _, _, _, _, _, rfl, ⟨k.wf, k.f0, k.f1, k.f2, k.f3, k.f4, k.f5, k.f6, k.f7, k.f8, fun _ _ => ⟨r, s, t, w.heap.size, hin, rfl, hbx, hne⟩, k.f10, k.f11, k.f12, fun h => up_or (k.c1_0 h), fun h => up_or (k.c3_2 h), fun h => up_or (k.c5_4 h), fun h => up_or (k.c7_6 h), fun h => up_or (k.c8_3 h), fun h => up_or (k.c8_5 h), fun h => up_or (k.c8_7 h), fun _ => up_or (hd ⟨8, .data⟩ (by simp) rfl), fun h => up_or (k.c10_1 h), fun h => up_or (k.c10_9 h), fun h => up_or (k.c12_10 h), fun h => up_or (k.c12_11 h)⟩⟩
        | 10, _, ho, hL =>
         have ho2 := ho
         simp only [qz1, qz2, qz3, qz4] at ho
         subst ho
         refine wpOp_step ho2 (fun K hK => ?_)
         obtain rfl := k.f1 (hd ⟨1, .data⟩ (by simp) rfl)
         obtain ⟨r, s, t, g4, hin, rfl, hbx, hgs⟩ := k.f9 (hd ⟨9, .data⟩ (by simp) rfl) hL
         have hg := k.wf.2 hL
         obtain ⟨rows, hV0⟩ := HRowa.out.ex
         have hV := hV0.keep (grown_ag hg (n7 + 1) hS7)
         have hrl := HXL.out rows hV0.len
         have hlx : n7 + 1 ≤ w.heap.size := Nat.le_trans hza hg.size
         obtain ⟨i0, hi0, hz0, hz1, hz2⟩ := info_parts info38
         refine step_append_lies _ rfl (.tmp 57) (.tmp 65) 70 rfl (n7 + 1) 40 i0 (.agg #[.int .i64 0, .int .i64 0, .int .i64 0]) 3 24 under49 hi0 hz0 hz1 hz2 rfl (by decide) _ rows.length rows.flatten (by simp [Act.eval]) hV.own ⟨g4, 0, none⟩ 1 1 [.int .i64 r, .int .i64 s, .int .i64 t] (by simp [Act.eval]) rfl (World.news_of_block hbx.h) (by intro u hu; simp at hu; rcases hu with rfl | rfl | rfl <;> rfl) (by decide) (by unfold maxLen; omega) (by omega) hlx _ rfl ?_
         intro gN cN X hown hgrow hat hltN
         have hrow := hV0.app (W2 := w) (x := (r, s, t)) (D := VecD) (grown_ag hg (n7 + 1) hS7) (fun _ _ => rfl) rfl (Below.refl _ _) hown hgrow (hat.elim (fun e => .inl e.symm) (fun e => .inr (by rw [e]; rfl))) hza
         have hbn1 : Below (n7 + 1) w X := grown_below hV.own hgrow hlx
         have hbX : Bx X n7 [_, .slice none 0 0] 73 := (HX7a.out.grown hg h7S).low hbn1 (by omega)
         have hin2 : ∀ a ∈ Fm.vecL (r, s, t), Fm.inR64 a := by intro a ha; simp [Fm.vecL] at ha; rcases ha with rfl | rfl | rfl <;> first | exact hin.1 | exact hin.2.1 | exact hin.2.2
         exact hK _ _ ⟨_, _, _, _, _, _, _, _, _, _, _, _, rfl, ⟨⟨k.wf.1.keepA hbn1 (by omega) hS7, nofun⟩, k.f0, k.f1, k.f2, k.f3, k.f4, k.f5, k.f6, k.f7, k.f8, fun _ => nofun, fun _ => ⟨_, hin2, hrow, (Fr3.grown hg hza).trans (Fr3.low hbn1), fun _ => hbX⟩, k.f11, fun h => absurd (hL.symm.trans (k.c12_10 h)) (by decide), fun h => up_or (k.c1_0 h), fun h => up_or (k.c3_2 h), fun h => up_or (k.c5_4 h), fun h => up_or (k.c7_6 h), fun h => up_or (k.c8_3 h), fun h => up_or (k.c8_5 h), fun h => up_or (k.c8_7 h), fun h => up_or (k.c9_8 h), fun _ => up_or (hd ⟨1, .data⟩ (by simp) rfl), fun _ => up_or (hd ⟨9, .data⟩ (by simp) rfl), fun h => up_or (k.c12_10 h), fun h => up_or (k.c12_11 h)⟩⟩
        | 11, _, ho, hL =>
         have ho2 := ho
         simp only [qz1, qz2, qz3, qz4] at ho
         subst ho
         refine wpOp_step ho2 (fun K hK => ?_)
         go_simp
         exact hK _ _ ⟨_, _, _, _, _, _, _, _, _, _, _, _, rfl, ⟨k.wf, k.f0, k.f1, k.f2, k.f3, k.f4, k.f5, k.f6, k.f7, k.f8, k.f9, k.f10, fun _ => rfl, k.f12, fun h => up_or (k.c1_0 h), fun h => up_or (k.c3_2 h), fun h => up_or (k.c5_4 h), fun h => up_or (k.c7_6 h), fun h => up_or (k.c8_3 h), fun h => up_or (k.c8_5 h), fun h => up_or (k.c8_7 h), fun h => up_or (k.c9_8 h), fun h => up_or (k.c10_1 h), fun h => up_or (k.c10_9 h), fun h => up_or (k.c12_10 h), fun h => up_or (k.c12_11 h)⟩⟩
        | 12, _, ho, hL =>
         have ho2 := ho
         simp only [qz1, qz2, qz3, qz4] at ho
         subst ho
         refine wpOp_step ho2 (fun K hK => ?_)
         obtain rfl := k.f11 (hd ⟨11, .data⟩ (by simp) rfl)
         have h15 := hd ⟨10, .data⟩ (by simp) rfl
         obtain ⟨z, hz, hr15, hF, hx15⟩ := k.f10 h15
         have hbx := hx15 hL
         have bl := hbx.lt
         have bf := hbx.f 0
         have bc := hbx.c 0 _ rfl
         obtain ⟨o46, c46, rfl, _⟩ := hr15.done
         simp only [List.length_append, List.length_cons, List.length_nil, Nat.zero_add] at hr15
         go_simp
         exact hK _ _ ⟨_, _, _, _, _, _, _, _, _, _, _, _, rfl, ⟨⟨k.wf.1.put n7 0 _ (by omega) h7S, fun h => absurd (h15.symm.trans h) (by decide)⟩, k.f0, k.f1, k.f2, k.f3, k.f4, k.f5, k.f6, k.f7, k.f8, fun _ h => absurd (h15.symm.trans h) (by decide), fun _ => ⟨z, hz, hr15.keep (AgI.set w _ (by omega)), hF.trans (Fr3.set w 0 _), nofun⟩, k.f11, fun _ => ⟨z, hz, hbx.put1 _⟩, fun h => up_or (k.c1_0 h), fun h => up_or (k.c3_2 h), fun h => up_or (k.c5_4 h), fun h => up_or (k.c7_6 h), fun h => up_or (k.c8_3 h), fun h => up_or (k.c8_5 h), fun h => up_or (k.c8_7 h), fun h => up_or (k.c9_8 h), fun h => up_or (k.c10_1 h), fun h => up_or (k.c10_9 h), fun _ => up_or (hd ⟨10, .data⟩ (by simp) rfl), fun _ => up_or (hd ⟨11, .data⟩ (by simp) rfl)⟩⟩
        | n + 13, h, _, _ => omega
       ·intro L a w hL hJ
        obtain ⟨v56, v57, v58, v59, v60, v61, v62, v63, v64, v65, v66, v67, rfl, k⟩ := hJ
        obtain ⟨z, hz, hr15, hF9, -⟩ := k.f10 (hL 10 (by decide))
        obtain ⟨-, -, hx17⟩ := k.f12 (hL 12 (by decide))
        have hs9 := k.wf.1
        obtain rfl := k.f0 (hL 0 (by decide))
        obtain rfl := k.f2 (hL 2 (by decide))
        obtain rfl := k.f4 (hL 4 (by decide))
        obtain rfl := k.f6 (hL 6 (by decide))
        obtain rfl := k.f11 (hL 11 (by decide))
        dsimp only
        have HRY := Lib.hid hr15
        have HXY := Lib.hid hx17
        have HSY := Lib.hid hs9
        have HGY := Lib.hid (hF9.back HGa.out (by omega) (by omega))
        clear hr15 hx17 hs9 hF9 k hL
        have hwr : IntKind.i64.wrap ((m : Int) - 1) = (((m - 1 : Nat)) : Int) := by rw [IntWalk.i64_in _ (by omega)]; omega
        go_wp2_with fail
        go_roundw
        case rel => exact ⟨m - 1, ts ++ [z], _, by first | rfl | simp, by rw [List.length_append, List.length_cons, List.length_nil]; omega, fun v hv => (List.mem_append.1 hv).elim (HIN.out v) (fun h => by rw [List.mem_singleton] at h; subst h; exact hz), HXY.out, HRY.out, HSY.out, HGY.out⟩
        case measure => simp [intOf]; omega
      ·have hm0 : m = 0 := by omega
       subst hm0
       obtain ⟨oT, cT, rfl, hT, -, -⟩ := HRowa.out.done
       have HT := Lib.hid hT
       have htl : ts.length ≤ 2 := by omega
       have HC := Lib.hid (next20 3 HSa.out (by decide) (by decide))
       clear hT HRowa hgt hml HX79 HS9 HG9
       go_wp2_with fail
       refine HC.out.mono ?_
       clear HC
       rintro e W11 ⟨r4, hr4, rfl, hg, hs⟩
       have HS11 := Lib.hid hs
       have HX711 := Lib.hid (HX7a.out.grown hg (by omega))
       have HG11 := Lib.hid (grown_trans HGa.out hg)
       have HT11 := Lib.hid (New.keep HT.out (grown_ag hg (n7 + 1) (by omega)))
       have hz11 : n7 + 1 ≤ W11.heap.size := Nat.le_trans hza hg.size
       clear hg hs HSa HX7a HGa HT
       go_wp2_with fail
       go_loopw [13] (fun i X => ∃ (m : Nat) (us : List Fm.UseD) (vu : Value), i = .int .i64 (m : Nat) ∧ us.length + m ≤ 2 ∧ (∀ u ∈ us, MkUse u) ∧ Bx X n7 [.slice oT ts.length cT, vu] 73 ∧ RowO UseAt 75 3 W11.heap.size X vu us ∧ SrS n2 nS os cap xs X ∧ Fr3 W11.heap.size nS n7 W11 X) (fun i _ => (intOf i).toNat)
       case atStart => exact ⟨r4, [], .slice none 0 0, rfl, by simp; omega, nofun, HX711.out, RowO.nil _ _ _ _ _, HS11.out, Fr3.refl _ _ _ _⟩
       case round =>
        obtain ⟨m, us, vu, rfl, hml, hmu, hX7, hRow, hS, hF⟩ := hrel
        obtain ⟨Wb, rfl⟩ : ∃ X, X = wr := ⟨_, rfl⟩
        have HMU := Lib.hid hmu
        have HX7b := Lib.hid hX7
        have HRowb := Lib.hid hRow
        have HSb := Lib.hid hS
        have HFb := Lib.hid hF
        have hzb : W11.heap.size ≤ Wb.heap.size := hF.size
        clear hmu hX7 hRow hS hF
        by_cases hgt : 0 < m
        ·have hd : decide ((0 : Int) < (m : Int)) = true := decide_eq_true (by omega)
         have HC := Lib.hid (next20 9 HSb.out (by decide) (by decide))
         go_wp2_with fail
         refine HC.out.mono ?_
         clear HC
         rintro e Wc ⟨r5, hr5, rfl, hg, hs⟩
         have HC := Lib.hid (numb21 hs)
         have HGc := Lib.hid hg
         clear hg hs
         go_wp2_with fail
         refine HC.out.mono ?_
         clear HC
         rintro e Wd ⟨ix, hix, rfl, hg, hs⟩
         have HIX := Lib.hid hix
         have HDR : Hid (Fm.inR64 ((r5 : Int) - 2)) := Lib.hid (by unfold Fm.inR64; omega)
         have hb1 : Below Wd.heap.size Wd (Wd.alloc (.cells #[.int .i64 ((r5 : Int) - 2), .int .i64 ix, .slice none 0 0] 75)) := (Below.refl _ _).alloc (Nat.le_refl _) _
         have HXe := Lib.hid (Bx.new Wd [.int .i64 ((r5 : Int) - 2), .int .i64 ix, .slice none 0 0] 75)
         have hzd : Wb.heap.size ≤ Wd.heap.size := Nat.le_trans HGc.out.size hg.size
         have HGe := Lib.hid (grown_call (grown_trans HGc.out hg) hb1)
         have HSe := Lib.hid (hs.keep hb1 (by omega))
         clear hg hs hb1 HGc hix
         go_upto_region 25 with fail
         generalize (r5 : Int) - 2 = dp at HXe HGe HSe HDR ⊢
         generalize Wd.alloc (.cells #[.int .i64 dp, .int .i64 ix, .slice none 0 0] 75) = We at HXe HGe HSe ⊢
         generalize Wd.heap.size = n14 at HXe hzd ⊢
         have HC := Lib.hid (next20 3 HSe.out (by decide) (by decide))
         go_wp2_with fail
         refine HC.out.mono ?_
         clear HC hd
         rintro e Wf ⟨r6, hr6, rfl, hg, hs⟩
         have HSf := Lib.hid hs
         have HXf := Lib.hid (HXe.out.grown hg (by omega))
         have HGf := Lib.hid (grown_trans HGe.out hg)
         clear hg hs HSe HXe HGe
         go_wp2_with fail
         go_loopw [15] (fun i X => ∃ (p : Nat) (ns : List Int) (vn : Value), i = .int .i64 (p : Nat) ∧ ns.length + p ≤ 2 ∧ (∀ a ∈ ns, Fm.inR64 a) ∧ Bx X n14 [.int .i64 dp, .int .i64 ix, vn] 75 ∧ X.ownsRow (n14 + 1) 3 1 vn ns.length (pflat ns) ∧ SrS n2 nS os cap xs X ∧ Wb.grownBy X (some nS)) (fun i _ => (intOf i).toNat)
         case atStart => exact ⟨r6, [], .slice none 0 0, rfl, by simp; omega, nofun, HXf.out, World.ownsRow_nil _ _ _ _, HSf.out, HGf.out⟩
         case round =>
          obtain ⟨p, ns, vn, rfl, hpl, hin, hX14, hO, hS, hG⟩ := hrel
          obtain ⟨Wg, rfl⟩ : ∃ X, X = wr := ⟨_, rfl⟩
          have HIN2 := Lib.hid hin
          have HX14 := Lib.hid hX14
          have HO := Lib.hid hO
          have HSg := Lib.hid hS
          have HGg := Lib.hid hG
          have hzg : n14 + 1 ≤ Wg.heap.size := hX14.lt
          have hlb : Wb.heap.size ≤ Wg.heap.size := hG.size
          clear hin hX14 hO hS hG
          by_cases hgt2 : 0 < p
          ·have hd : decide ((0 : Int) < (p : Int)) = true := decide_eq_true (by omega)
           go_wp2_with fail
           have h14S : n14 ≠ nS := by omega
           have hS14 : nS < n14 + 1 := by omega
           clear hd
           refine wp_region_inv (by kernel_rfl) (by kernel_rfl) (fun L a w => ∃ v86 v87 v88 v89 v90 v91 v92 v93 : Value, a = { tmps := #[((Value.slice os xs.length cap)), undef, ((Value.pointer (some ⟨n2, 0, none⟩))), ((Value.pointer (some ⟨nS, 0, none⟩))), ((Value.pointer (some ⟨n4, 0, none⟩))), ((Value.int IntKind.i64 ((k : Nat) : Int))), ((Value.int IntKind.i64 ((j : Nat) : Int))), ((Value.int IntKind.i64 ((k : Nat) : Int))), u8, u9, ((Value.int IntKind.i64 ((q : Nat) : Int))), ((Value.pointer (some ⟨n7, 0, none⟩))), ((Value.int IntKind.i64 0)), ((Value.int IntKind.i64 ((m : Nat) : Int))), ((Value.pointer (some ⟨n14, 0, none⟩))), ((Value.int IntKind.i64 ((p : Nat) : Int))), ((Value.slice os xs.length cap)), ((Value.pointer (some ⟨nS, 0, none⟩))), ((Value.pointer (some ⟨nS, 0, none⟩))), ((Value.int IntKind.i64 ((r1 : Nat) : Int))), ((Value.int IntKind.i64 ((k : Nat) : Int))), ((Value.pointer (some ⟨nS, 0, none⟩))), ((Value.int IntKind.i64 ((r2 : Nat) : Int))), ((Value.int IntKind.i64 ((j : Nat) : Int))), ((Value.int IntKind.i64 ((k : Nat) : Int))), ((Value.int IntKind.i64 ((k : Nat) : Int))), ((Value.bool false)), u27, u28, u29, u30, u31, u32, u33, u34, u35, u36, u37, u38, u39, u40, u41, u42, u43, u44, ((Value.int IntKind.i64 ((q : Nat) : Int))), ((Value.int IntKind.i64 ((k : Nat) : Int))), ((Value.bool true)), u48, u49, ((Value.pointer (some ⟨nS, 0, none⟩))), ((Value.int IntKind.i64 ((r3 : Nat) : Int))), ((Value.int IntKind.i64 0)), ((Value.bool false)), u54, u55, u56, u57, u58, u59, u60, u61, u62, u63, u64, u65, u66, u67, ((Value.pointer (some ⟨nS, 0, none⟩))), ((Value.int IntKind.i64 ((r4 : Nat) : Int))), ((Value.int IntKind.i64 ((m : Nat) : Int))), ((Value.bool true)), u72, u73, ((Value.pointer (some ⟨nS, 0, none⟩))), ((Value.int IntKind.i64 ((r5 : Nat) : Int))), ((Value.int IntKind.i64 dp)), ((Value.pointer (some ⟨nS, 0, none⟩))), ((Value.int IntKind.i64 ix)), ((Value.agg #[Value.int IntKind.i64 dp, Value.int IntKind.i64 ix, Value.slice none 0 0])), ((Value.pointer (some ⟨nS, 0, none⟩))), ((Value.int IntKind.i64 ((r6 : Nat) : Int))), ((Value.int IntKind.i64 ((p : Nat) : Int))), ((Value.bool true)), u84, u85, v86, v87, v88, v89, v90, v91, v92, v93, u94, u95, u96, u97, u98, u99, u100, u101, u102, u103, u104, u105, undef], defers := [] } ∧ Rd28K n2 nS cap n14 os xs ns dp ix vn Wg L v86 v87 v88 v89 v90 v91 v92 v93 w) ?_ ?_ ?_
           ·exact ⟨_, _, _, _, _, _, _, _, rfl, ⟨⟨HSg.out.keep (below_drew Wg 1) (by omega), fun _ => grown_of_below (below_drew Wg 1)⟩, nofun, nofun, nofun, nofun, nofun, nofun, nofun, nofun, nofun, nofun, nofun, nofun, nofun, nofun, nofun, nofun, nofun⟩⟩
           ·intro iq oq ho L a w hL hd hJ
            obtain ⟨v86, v87, v88, v89, v90, v91, v92, v93, rfl, k⟩ := hJ
            have hiq : iq < 9 := by have := (Array.getElem?_eq_some_iff.1 ho).1; simpa using this
            match iq, hiq, ho, hL with
            | 0, _, ho, hL =>
             have ho2 := ho
             simp only [qz1, qz2, qz3, qz4] at ho
             subst ho
             refine wpOp_step ho2 (fun K hK => ?_)
             go_simp
             exact hK _ _ ⟨_, _, _, _, _, _, _, _, rfl, ⟨k.wf, fun _ => rfl, k.f1, k.f2, k.f3, k.f4, k.f5, k.f6, k.f7, k.f8, fun h => up_or (k.c1_0 h), fun h => up_or (k.c3_2 h), fun h => up_or (k.c4_3 h), fun h => up_or (k.c5_4 h), fun h => up_or (k.c6_1 h), fun h => up_or (k.c6_5 h), fun h => up_or (k.c8_6 h), fun h => up_or (k.c8_7 h)⟩⟩
            | 1, _, ho, hL =>
             have ho2 := ho
             simp only [qz1, qz2, qz3, qz4] at ho
             subst ho
             refine wpOp_step ho2 (fun K hK => ?_)
             obtain rfl := k.f0 (hd ⟨0, .data⟩ (by simp) rfl)
             have h6 : L 6 = false := by
              cases h : L 6 with
              | false => rfl
              | true => exact absurd (hL.symm.trans (k.c6_1 h)) (by decide)
             have hbx := HX14.out.grown (k.wf.2 h6) h14S
             have c1 := hbx.c 2 _ rfl
             have cl := hbx.lt
             go_simp
             exact hK _ _ ⟨_, _, _, _, _, _, _, _, rfl, ⟨k.wf, k.f0, fun _ => rfl, k.f2, k.f3, k.f4, k.f5, k.f6, k.f7, k.f8, fun _ => up_or (hd ⟨0, .data⟩ (by simp) rfl), fun h => up_or (k.c3_2 h), fun h => up_or (k.c4_3 h), fun h => up_or (k.c5_4 h), fun h => up_or (k.c6_1 h), fun h => up_or (k.c6_5 h), fun h => up_or (k.c8_6 h), fun h => up_or (k.c8_7 h)⟩⟩
            | 2, _, ho, hL =>
             have ho2 := ho
             simp only [qz1, qz2, qz3, qz4] at ho
             subst ho
             refine wpOp_step ho2 (fun K hK => ?_)
             go_simp
             exact hK _ _ ⟨_, _, _, _, _, _, _, _, rfl, ⟨k.wf, k.f0, k.f1, fun _ => rfl, k.f3, k.f4, k.f5, k.f6, k.f7, k.f8, fun h => up_or (k.c1_0 h), fun h => up_or (k.c3_2 h), fun h => up_or (k.c4_3 h), fun h => up_or (k.c5_4 h), fun h => up_or (k.c6_1 h), fun h => up_or (k.c6_5 h), fun h => up_or (k.c8_6 h), fun h => up_or (k.c8_7 h)⟩⟩
            | 3, _, ho, hL =>
             have ho2 := ho
             simp only [qz1, qz2, qz3, qz4] at ho
             subst ho
             refine wpOp_step ho2 (fun K hK => ?_)
             obtain rfl := k.f2 (hd ⟨2, .data⟩ (by simp) rfl)
             have h6 : L 6 = false := by
              cases h : L 6 with
              | false => rfl
              | true => exact absurd (hL.symm.trans (k.c4_3 (k.c5_4 (k.c6_5 h)))) (by decide)
             have hcall := next20 9 k.wf.1 (by decide) (by decide)
             go_simp
             refine hcall.mono ?_
             rintro e X ⟨r, hr, rfl, hg, hs⟩
             replace k := k.keep h6 hg hs
             exact hK _ _ ⟨_, _, _, _, _, _, _, _, rfl, ⟨k.wf, k.f0, k.f1, k.f2, fun _ => ⟨r, hr, rfl⟩, k.f4, k.f5, k.f6, k.f7, k.f8, fun h => up_or (k.c1_0 h), fun _ => up_or (hd ⟨2, .data⟩ (by simp) rfl), fun h => up_or (k.c4_3 h), fun h => up_or (k.c5_4 h), fun h => up_or (k.c6_1 h), fun h => up_or (k.c6_5 h), fun h => up_or (k.c8_6 h), fun h => up_or (k.c8_7 h)⟩⟩
            | 4, _, ho, hL =>
             have ho2 := ho
             simp only [qz1, qz2, qz3, qz4] at ho
             subst ho
             refine wpOp_step ho2 (fun K hK => ?_)
             obtain ⟨r, hr, rfl⟩ := k.f3 (hd ⟨3, .data⟩ (by simp) rfl)
             have hin : Fm.inR64 ((r : Int) - 2) := by unfold Fm.inR64; omega
             have hwr := wrap_in hin
             go_simp
             exact hK _ _ ⟨_, _, _, _, _, _, _, _, rfl, ⟨k.wf, k.f0, k.f1, k.f2, k.f3, fun _ => ⟨_, hin, rfl⟩, k.f5, k.f6, k.f7, k.f8, fun h => up_or (k.c1_0 h), fun h => up_or (k.c3_2 h), fun _ => up_or (hd ⟨3, .data⟩ (by simp) rfl), fun h => up_or (k.c5_4 h), fun h => up_or (k.c6_1 h), fun h => up_or (k.c6_5 h), fun h => up_or (k.c8_6 h), fun h => up_or (k.c8_7 h)⟩⟩
            | 5, _, ho, hL =>
             have ho2 := ho
             simp only [qz1, qz2, qz3, qz4] at ho
             subst ho
             refine wpOp_step ho2 (fun K hK => ?_)
             have h6 : L 6 = false := by
              cases h : L 6 with
              | false => rfl
              | true => exact absurd (hL.symm.trans (k.c6_5 h)) (by decide)
             obtain ⟨r, hin, rfl⟩ := k.f4 (hd ⟨4, .data⟩ (by simp) rfl)
             have hb : Below w.heap.size w (w.alloc (.cells #[.int .i64 r] 3)) := (Below.refl _ _).alloc (Nat.le_refl _) _
             have hbx := Bx.new w [.int .i64 r] 3
             have hwz := (k.wf.2 h6).size
             have hne : w.heap.size ≠ nS := by omega
             go_simp
             replace k := k.keep h6 (grown_of_below hb) (k.wf.1.keep hb (by omega))
             exact hK _ _ ⟨_, _, _, _, _, _, _, _, rfl, ⟨k.wf, k.f0, k.f1, k.f2, k.f3, k.f4, fun _ _ => ⟨r, w.heap.size, hin, rfl, hbx, hne⟩, k.f6, k.f7, k.f8, fun h => up_or (k.c1_0 h), fun h => up_or (k.c3_2 h), fun h => up_or (k.c4_3 h), fun _ => up_or (hd ⟨4, .data⟩ (by simp) rfl), fun h => up_or (k.c6_1 h), fun h => up_or (k.c6_5 h), fun h => up_or (k.c8_6 h), fun h => up_or (k.c8_7 h)⟩⟩
            | 6, _, ho, hL =>
             have ho2 := ho
             simp only [qz1, qz2, qz3, qz4] at ho
             subst ho
             refine wpOp_step ho2 (fun K hK => ?_)
             obtain rfl := k.f1 (hd ⟨1, .data⟩ (by simp) rfl)
             obtain ⟨r, g4, hin, rfl, hbx, hgs⟩ := k.f5 (hd ⟨5, .data⟩ (by simp) rfl) hL
             have hg := k.wf.2 hL
             have hO2 := own_blk (W' := w) HO.out fun g _ hl hb => hg.block g hl (by intro e; injection e with e; omega)
             have hlx : n14 + 1 ≤ w.heap.size := Nat.le_trans hzg hg.size
             obtain ⟨i0, hi0, hz0, hz1, hz2⟩ := info_parts info3
             refine step_append_lies _ rfl (.tmp 87) (.tmp 91) 22 rfl (n14 + 1) 3 i0 (.int .i64 0) 1 8 under26 hi0 hz0 hz1 hz2 rfl (by decide) _ ns.length (pflat ns) (by simp [Act.eval]) hO2 ⟨g4, 0, none⟩ 1 1 [.int .i64 r] (by simp [Act.eval]) rfl (World.news_of_block hbx.h) (by intro u hu; simp at hu; subst hu; rfl) (by decide) (by unfold maxLen; omega) (by omega) hlx _ rfl ?_
             intro gN cN X hown hgrow hat hltN
             have hbn1 : Below (n14 + 1) w X := grown_below hO2 hgrow hlx
             have hbX : Bx X n14 [.int .i64 dp, .int .i64 ix, _] 75 := (HX14.out.grown hg h14S).low hbn1 (by omega)
             exact hK _ _ ⟨_, _, _, _, _, _, _, _, rfl, ⟨⟨k.wf.1.keepA hbn1 (by omega) hS14, nofun⟩, k.f0, k.f1, k.f2, k.f3, k.f4, fun _ => nofun, fun _ => ⟨r, hin, by rw [pflat_app]; exact hown, (Fr3.grown hg hzg).trans (Fr3.low hbn1), fun _ => hbX⟩, k.f7, fun h => absurd (hL.symm.trans (k.c8_6 h)) (by decide), fun h => up_or (k.c1_0 h), fun h => up_or (k.c3_2 h), fun h => up_or (k.c4_3 h), fun h => up_or (k.c5_4 h), fun _ => up_or (hd ⟨1, .data⟩ (by simp) rfl), fun _ => up_or (hd ⟨5, .data⟩ (by simp) rfl), fun h => up_or (k.c8_6 h), fun h => up_or (k.c8_7 h)⟩⟩
            | 7, _, ho, hL =>
             have ho2 := ho
             simp only [qz1, qz2, qz3, qz4] at ho
             subst ho
             refine wpOp_step ho2 (fun K hK => ?_)
             go_simp
             exact hK _ _ ⟨_, _, _, _, _, _, _, _, rfl, ⟨k.wf, k.f0, k.f1, k.f2, k.f3, k.f4, k.f5, k.f6, fun _ => rfl, k.f8, fun h => up_or (k.c1_0 h), fun h => up_or (k.c3_2 h), fun h => up_or (k.c4_3 h), fun h => up_or (k.c5_4 h), fun h => up_or (k.c6_1 h), fun h => up_or (k.c6_5 h), fun h => up_or (k.c8_6 h), fun h => up_or (k.c8_7 h)⟩⟩
            | 8, _, ho, hL =>
             have ho2 := ho
             simp only [qz1, qz2, qz3, qz4] at ho
             subst ho
             refine wpOp_step ho2 (fun K hK => ?_)
             obtain rfl := k.f7 (hd ⟨7, .data⟩ (by simp) rfl)
             have h15 := hd ⟨6, .data⟩ (by simp) rfl
             obtain ⟨r, hin, hr15, hF, hx15⟩ := k.f6 h15
             have hbx := hx15 hL
             have bl := hbx.lt
             have bf := hbx.f 2
             have bc := hbx.c 2 _ rfl
             obtain ⟨o46, c46, rfl⟩ := own_sl hr15
             go_simp
             exact hK _ _ ⟨_, _, _, _, _, _, _, _, rfl, ⟨⟨k.wf.1.put n14 2 _ (by omega) h14S, fun h => absurd (h15.symm.trans h) (by decide)⟩, k.f0, k.f1, k.f2, k.f3, k.f4, fun _ h => absurd (h15.symm.trans h) (by decide), fun _ => ⟨r, hin, own_blk hr15 fun g _ _ hb => Below.heap_setCell w ⟨n14, 2, none⟩ _ g (by show g ≠ n14; omega), hF.trans (Fr3.set w 2 _), nofun⟩, k.f7, fun _ => hbx.put32 _, fun h => up_or (k.c1_0 h), fun h => up_or (k.c3_2 h), fun h => up_or (k.c4_3 h), fun h => up_or (k.c5_4 h), fun h => up_or (k.c6_1 h), fun h => up_or (k.c6_5 h), fun _ => up_or (hd ⟨6, .data⟩ (by simp) rfl), fun _ => up_or (hd ⟨7, .data⟩ (by simp) rfl)⟩⟩
            | n + 9, h, _, _ => omega
           ·intro L a w hL hJ
            obtain ⟨v86, v87, v88, v89, v90, v91, v92, v93, rfl, k⟩ := hJ
            obtain ⟨r, hr, hr15, hF9, -⟩ := k.f6 (hL 6 (by decide))
            have hx17 := k.f8 (hL 8 (by decide))
            have hs9 := k.wf.1
            obtain rfl := k.f0 (hL 0 (by decide))
            obtain rfl := k.f2 (hL 2 (by decide))
            obtain rfl := k.f7 (hL 7 (by decide))
            dsimp only
            have HRY := Lib.hid hr15
            have HXY := Lib.hid hx17
            have HSY := Lib.hid hs9
            have HGY := Lib.hid (hF9.back HGg.out (by omega) (by omega))
            clear hr15 hx17 hs9 hF9 k hL
            have hwr : IntKind.i64.wrap ((p : Int) - 1) = (((p - 1 : Nat)) : Int) := by rw [IntWalk.i64_in _ (by omega)]; omega
            go_wp2_with fail
            go_roundw
            case rel => exact ⟨p - 1, ns ++ [r], _, by first | rfl | simp, by rw [List.length_append, List.length_cons, List.length_nil]; omega, fun v hv => (List.mem_append.1 hv).elim (HIN2.out v) (fun h => by rw [List.mem_singleton] at h; subst h; exact hr), HXY.out, by rw [List.length_append, List.length_cons, List.length_nil]; exact HRY.out, HSY.out, HGY.out⟩
            case measure => simp [intOf]; omega
          ·have hp0 : p = 0 := by omega
           subst hp0
           have hnl2 : ns.length ≤ 2 := by omega
           have hNV := NumV.mk (lo' := Wb.heap.size) rfl HO.out (by omega)
           obtain ⟨o8, c8, rfl⟩ := own_sl HO.out
           have hmk : MkUse ⟨dp, ix, ns⟩ := ⟨hnl2, fun a ha => by
            rcases List.mem_cons.1 ha with rfl | ha
            ·exact HDR.out
            ·rcases List.mem_cons.1 ha with rfl | ha
             ·exact HIX.out
             ·exact HIN2.out a ha⟩
           have HD : Hid (New Wb.heap.size Wg (fun Y => UseAt Y [.int .i64 dp, .int .i64 ix, .slice o8 ns.length c8] ⟨dp, ix, ns⟩)) := Lib.hid (fun Y hY => by
            obtain ⟨oa, cp, e, -, hs⟩ := hNV Y hY
            exact ⟨oa, cp, by rw [e], hs⟩)
           have HMN := Lib.hid hmk
           have hX7 := HX7b.out.grown HGg.out (by omega)
           obtain ⟨rows, hV0⟩ := HRowb.out.ex
           have hAg := grown_ag HGg.out W11.heap.size (by omega)
           have hVl := hV0.len
           have hrl : rows.length = us.length := hVl
           have hb2 : Below Wg.heap.size Wg (Wg.alloc (.cells #[.int .i64 dp, .int .i64 ix, .slice o8 ns.length c8] 75)) := (Below.refl _ _).alloc (Nat.le_refl _) _
           have HV2 := Lib.hid ((hV0.keep hAg).keep (AgI.of hb2))
           have HV0 := Lib.hid hV0
           have HAG := Lib.hid hAg
           have HB2 := Lib.hid hb2
           have hsz : W11.heap.size ≤ (Wg.alloc (.cells #[.int .i64 dp, .int .i64 ix, .slice o8 ns.length c8] 75)).heap.size := by have := hb2.size; omega
           have HX77 := Lib.hid hX7
           have c1 := hX7.c 1 _ rfl
           have cl := hX7.lt
           have z0 := HX14.out.c 0 _ rfl
           have z1 := HX14.out.c 1 _ rfl
           have z2 := HX14.out.c 2 _ rfl
           have zl := HX14.out.lt
           obtain ⟨i0, hi, hz0, hz1, hz2⟩ := info_parts info54
           clear hmk hNV hX7 hV0 hAg hb2 hVl HO hgt2
           go_wp2_with (at_builtin; refine wpList_append_own_at _ rfl _ _ 71 rfl W11.heap.size 75 i0 (.agg #[.int .i64 0, .int .i64 0, .slice none 0 0]) 3 40 under50 hi hz0 hz1 hz2 rfl (by decide) _ _ _ rfl HV2.out.own ⟨Wg.heap.size, 0, none⟩ 1 1 [.int .i64 dp, .int .i64 ix, .slice o8 ns.length c8] rfl rfl ?c1 ?c2 ?c3 ?c4 ?c5 ?_)
           case c1 => exact new_cells _ _ _
           case c2 => intro u hu; simp at hu; rcases hu with rfl | rfl | rfl <;> rfl
           case c3 => unfold maxLen; omega
           case c4 => omega
           case c5 => exact hsz
           intro v' w' hown' hgrow _ hat
           obtain ⟨o9, c9, rfl⟩ := own_sl hown'
           have hrow := HV0.out.app HAG.out HD.out rfl HB2.out (by rw [hrl]; exact hown') hgrow (by simpa using hat) hzb
           have hbw : Below W11.heap.size Wg w' := (HB2.out.mono (by omega)).trans (grown_below HV2.out.own hgrow hsz)
           have hX7 := HX77.out.low hbw (by omega)
           have hf := hX7.f 1
           have hc7 := hX7.c 1 _ rfl
           have hlt7 := hX7.lt
           have HX78 := Lib.hid (hX7.put2 (.slice o9 (us.length + 1) c9))
           have HS8 := Lib.hid ((HSg.out.keepA hbw (by omega) (by omega)).put n7 1 (.slice o9 (us.length + 1) c9) (by omega) (by omega))
           have HRow8 := Lib.hid (hrow.keep (AgI.set (lo := W11.heap.size) w' (n := n7) (i := 1) (.slice o9 (us.length + 1) c9) (by omega)))
           have HF8 : Hid (Fr3 W11.heap.size nS n7 W11 (w'.setCell ⟨n7, 1, none⟩ (.slice o9 (us.length + 1) c9))) := Lib.hid (((HFb.out.trans (Fr3.grown HGg.out hzb)).trans (Fr3.low hbw)).trans (Fr3.set w' 1 _))
           clear hown' hgrow hat hrow hbw HV0 HAG HD HB2 HV2 hi hz0 hz1 hz2 c1 cl z0 z1 z2 zl hsz HX77 hX7
           have hwr : IntKind.i64.wrap ((m : Int) - 1) = (((m - 1 : Nat)) : Int) := by rw [IntWalk.i64_in _ (by omega)]; omega
           go_wp2_with fail
           go_roundw
           case rel => exact ⟨m - 1, us ++ [⟨dp, ix, ns⟩], _, by first | rfl | simp, by rw [List.length_append, List.length_cons, List.length_nil]; omega, fun u hu => (List.mem_append.1 hu).elim (HMU.out u) (fun h => by rw [List.mem_singleton] at h; subst h; exact HMN.out), HX78.out, HRow8.out, HS8.out, HF8.out⟩
           case measure => simp [intOf]; omega
        ·have hm0 : m = 0 := by omega
         subst hm0
         have h7z : W7.heap.size = n7 := HN7.out.symm
         obtain ⟨oU, cU, rfl, hU, -, -⟩ := HRowb.out.done
         have hmk : MkEd ⟨ts, us⟩ := ⟨htl, HIN.out, by omega, HMU.out⟩
         have hgb : W7.grownBy Wb (some nS) := HFb.out.back HG11.out (by omega) (by omega)
         have hTb := New.keep HT11.out (show AgI (n7 + 1) W11 Wb from ⟨HFb.out.size, fun k h1 h2 => HFb.out.block k h2 (by omega) (by omega)⟩)
         have HD : Hid (New W7.heap.size Wb (fun Y => EdD Y [.slice oT ts.length cT, .slice oU us.length cU] ⟨ts, us⟩)) := Lib.hid (fun Y hY => ⟨oT, cT, oU, cU, rfl, hTb Y (fun k hk => hY k ⟨Nat.le_trans (show W7.heap.size ≤ n7 + 1 by omega) hk.1, hk.2⟩), hU Y (fun k hk => hY k ⟨Nat.le_trans (show W7.heap.size ≤ W11.heap.size by omega) hk.1, hk.2⟩)⟩)
         have HMN := Lib.hid hmk
         have hX4 := HX47.out.grown hgb (by omega)
         obtain ⟨rows, hV0⟩ := HRow7.out.ex
         have hAg := grown_ag hgb W6.heap.size (by omega)
         have hVl := hV0.len
         have hrl : rows.length = ws.length := hVl
         have hws : ws.length ≤ 3 := by have := HWL.out; omega
         have h67 : W6.heap.size ≤ W7.heap.size := HF7.out.size
         have hb2 : Below Wb.heap.size Wb (Wb.alloc (.cells #[.slice oT ts.length cT, .slice oU us.length cU] 73)) := (Below.refl _ _).alloc (Nat.le_refl _) _
         have HV2 := Lib.hid ((hV0.keep hAg).keep (AgI.of hb2))
         have HV0 := Lib.hid hV0
         have HAG := Lib.hid hAg
         have HB2 := Lib.hid hb2
         have hzq : W6.heap.size ≤ Wb.heap.size := by omega
         have hsz : W6.heap.size ≤ (Wb.alloc (.cells #[.slice oT ts.length cT, .slice oU us.length cU] 73)).heap.size := by have := hb2.size; omega
         have HGb := Lib.hid hgb
         have HX48 := Lib.hid hX4
         have c1 := hX4.c 1 _ rfl
         have cl := hX4.lt
         have z0 := HX7b.out.c 0 _ rfl
         have z1 := HX7b.out.c 1 _ rfl
         have zl := HX7b.out.lt
         obtain ⟨i0, hi, hz0, hz1, hz2⟩ := info_parts info52
         clear hmk hU hTb hX4 hV0 hAg hb2 hVl hgt hgb
         go_wp2_with (at_builtin; refine wpList_append_own_at _ rfl _ _ 27 rfl W6.heap.size 73 i0 (.agg #[.slice none 0 0, .slice none 0 0]) 2 48 under23 hi hz0 hz1 hz2 rfl (by decide) _ _ _ rfl HV2.out.own ⟨Wb.heap.size, 0, none⟩ 1 1 [.slice oT ts.length cT, .slice oU us.length cU] rfl rfl ?c1 ?c2 ?c3 ?c4 ?c5 ?_)
         case c1 => exact new_cells _ _ _
         case c2 => intro u hu; simp at hu; rcases hu with rfl | rfl <;> rfl
         case c3 => unfold maxLen; omega
         case c4 => omega
         case c5 => exact hsz
         intro v' w' hown' hgrow _ hat
         obtain ⟨o9, c9, rfl⟩ := own_sl hown'
         have hrow := HV0.out.app HAG.out HD.out rfl HB2.out (by rw [hrl]; exact hown') hgrow (by simpa using hat) h67
         have hbw : Below W6.heap.size Wb w' := (HB2.out.mono (by omega)).trans (grown_below HV2.out.own hgrow hsz)
         have hX4 := HX48.out.low hbw (by omega)
         have hf := hX4.f 1
         have hc4 := hX4.c 1 _ rfl
         have hlt4 := hX4.lt
         have HX49 := Lib.hid (hX4.put2 (.slice o9 (ws.length + 1) c9))
         have HS9 := Lib.hid ((HSb.out.keepA hbw (by omega) (by omega)).put n4 1 (.slice o9 (ws.length + 1) c9) (by omega) (by omega))
         have HRow9 := Lib.hid (hrow.keep (AgI.set (lo := W6.heap.size) w' (n := n4) (i := 1) (.slice o9 (ws.length + 1) c9) (by omega)))
         have HF9 : Hid (Fr3 W6.heap.size nS n4 W6 (w'.setCell ⟨n4, 1, none⟩ (.slice o9 (ws.length + 1) c9))) := Lib.hid (((HF7.out.trans (Fr3.grown HGb.out h67)).trans (Fr3.low hbw)).trans (Fr3.set w' 1 _))
         clear hown' hgrow hat hrow hbw HV0 HAG HD HB2 HV2 hi hz0 hz1 hz2 c1 cl z0 z1 zl hsz HX48 hX4
         go_wp2_with fail
         go_roundw
         case rel => exact ⟨q + 1, ws ++ [⟨ts, us⟩], _, by omega, by omega, by first | rfl | simp, by rw [List.length_append, List.length_cons, List.length_nil, HWL.out], fun u hu => (List.mem_append.1 hu).elim (HME.out u) (fun h => by rw [List.mem_singleton] at h; subst h; exact HMN.out), HX49.out, HRow9.out, HS9.out, HF9.out⟩
         case measure => simp [intOf]; omega
    ·have hqe : q = k := by omega
     subst hqe
     obtain ⟨oe, ne, rfl, hE, -, -⟩ := HRow7.out.done
     have hzl2 : zs.length ≤ 4 := by omega
     have hwl2 : ws.length ≤ 3 := by have := HWL.out; omega
     have hmk : MkPath ⟨zs, ws⟩ := ⟨hzl2, fun q hq => (HMK.out q hq).1, hwl2, HME.out, right_mk (by omega) hzl2 (by have := HWL.out; omega) hjl (fun q hq => (HMK.out q hq).2)⟩
     clear hzl
     have hX2 : Bx W7 n2 [.slice none 0 0, .slice none 0 0] 29 := ⟨(HF7.out.block n2 (by omega) (by omega) (by omega)).trans HX25.out.h⟩
     have hB7 : Below n2 w W7 := HB5.out.trans ⟨HF7.out.os, HF7.out.tape, HF7.out.output, HF7.out.size, fun k hk => HF7.out.block k (by omega) (by omega) (by omega)⟩
     have c0 := HX47.out.c 0 _ rfl
     have c1 := HX47.out.c 1 _ rfl
     have cl := HX47.out.lt
     have d0 := hX2.c 0 _ rfl
     have d1 := hX2.c 1 _ rfl
     have dl := hX2.lt
     have df0 := hX2.f 0
     have df1 := hX2.f 1
     have HE := Lib.hid hE
     have HMP := Lib.hid hmk
     have HXF := Lib.hid ((hX2.put1 (.slice op zs.length np)).put2 (.slice oe ws.length ne))
     have HBF := Lib.hid (bel_put (bel_put hB7 (i := 0) (.slice op zs.length np) (Nat.le_refl _)) (i := 1) (.slice oe ws.length ne) (Nat.le_refl _))
     have HLQ : Hid (∀ j, n2 < j → ((W7.setCell ⟨n2, 0, none⟩ (.slice op zs.length np)).setCell ⟨n2, 1, none⟩ (.slice oe ws.length ne)).heap[j]? = W7.heap[j]?) := Lib.hid (fun j hj => (Below.heap_setCell _ ⟨n2, 1, none⟩ _ j (by show j ≠ n2; omega)).trans (Below.heap_setCell _ ⟨n2, 0, none⟩ _ j (by show j ≠ n2; omega)))
     have HSQ : Hid (((W7.setCell ⟨n2, 0, none⟩ (.slice op zs.length np)).setCell ⟨n2, 1, none⟩ (.slice oe ws.length ne)).heap.size = W7.heap.size) := Lib.hid (by simp [World.setCell])
     clear hE hmk hX2 hB7 hlt
     go_wp2
     generalize ((W7.setCell ⟨n2, 0, none⟩ (.slice op zs.length np)).setCell ⟨n2, 1, none⟩ (.slice oe ws.length ne)) = W9 at HXF HBF HLQ HSQ ⊢
     clear c0 c1 cl d0 d1 dl df0 df1
     have c0 := HXF.out.c 0 _ rfl
     have c1 := HXF.out.c 1 _ rfl
     have cl := HXF.out.lt
     refine bodyPost_ret (v := .agg #[.slice op zs.length np, .slice oe ws.length ne]) (by simp [results, Tryz.results7, go_sem, c0, c1]) rfl ?_
     have hw2 := HN2.out
     have h67 := HF7.out.size
     refine ⟨_, ⟨zs, ws⟩, rfl, (fun Y hY => ⟨op, np, oe, ne, rfl, HPT.out Y (fun j hj => ?_), HE.out Y (fun j hj => ?_)⟩), HMP.out, by have := HBF.out; rw [HN2.out] at this; exact this⟩
     ·have h1 := hj.1; have h2 := hj.2
      rw [hY j ⟨by omega, by rw [HSQ.out]; omega⟩, HLQ.out j (by omega)]
      exact HF7.out.block j hj.2 (by omega) (by omega)
     ·have h1 := hj.1; have h2 := hj.2
      rw [hY j ⟨by omega, by rw [HSQ.out]; exact h2⟩]
      exact HLQ.out j (by omega)
theorem Path7 (w : World) (os : Option Addr) (cap : Nat) (xs : List Int) (hI : Sl w os 1 (pvals xs)) (hl : xs.length ≤ 9223372036854775807) :
  Calls Tryz.prog 7 #[.slice os xs.length cap] w (fun e W' => ∃ v p, e = .returned v ∧ PathAt W' v p ∧ MkPath p ∧ Below w.heap.size w W') :=
 (Path7_new w os cap xs hI hl).mono fun e W' ⟨v, p, h1, h2, h3⟩ => ⟨v, p, h1, h2.now.at, h3⟩
end Go.Proofs.Ng
