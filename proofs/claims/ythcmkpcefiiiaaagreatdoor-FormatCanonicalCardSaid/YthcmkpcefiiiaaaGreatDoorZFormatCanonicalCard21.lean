/-
  Texts put together: Ei Tn.
-/
import Derived.Test.YthcmkpcefiiiaaaGreatDoorZFormatCanonicalCard18
import Derived.Test.YthcmkpcefiiiaaaGreatDoorZFormatCanonicalCard20
import Derived.Test.YthcmkpcefiiiaaaGreatDoorZFormatCanonicalCard16
set_option linter.unusedVariables false
section
/-
 Walks: a trajectory that is made. Printed by gen_ei.py.
-/
namespace Go.Proofs.Ng
open Go.RowKit
def MkProf (x : Fm.ProfD) : Prop := x.levels.length ≤ 3 ∧ x.steps.length ≤ 3 ∧ (∀ n ∈ x.levels, Fm.inR64 n) ∧ ∀ n ∈ x.steps, Fm.inR64 n
structure MkTraj (t : Fm.TrajD) : Prop where
 path : MkPath t.path
 head : ∀ n ∈ t.grid :: Fm.vecL t.grav, Fm.inR64 n
 np : t.profs.length ≤ 3
 pr : ∀ x ∈ t.profs, MkProf x
 rt : t.profs.length = t.path.edges.length
/-- A trajectory was made. -/
def MkTrP (w : World) (e : Ending) (W' : World) : Prop := ∃ v t, e = .returned v ∧ TrajAt W' v t ∧ MkTraj t ∧ Below w.heap.size w W'
theorem start13 (w : World) (os : Option Addr) (cap : Nat) (xs : List Int) (hI : Sl w os 1 (pvals xs)) (hl : xs.length ≤ 9223372036854775807) (X : World)
  (hX : X = (w.alloc (.cells #[.slice none 0 0, .slice none 0 0, .int .i64 0, .int .i64 0, .int .i64 0, .int .i64 0, .slice none 0 0] 43)).alloc (.cells #[.slice os xs.length cap, .int .i64 0] 115)) :
  Bx X w.heap.size [.slice none 0 0, .slice none 0 0, .int .i64 0, .int .i64 0, .int .i64 0, .int .i64 0, .slice none 0 0] 43 ∧ SrS w.heap.size (w.heap.size + 1) os cap xs X ∧ Below w.heap.size w X ∧ X.heap.size = w.heap.size + 2 := by
 have h1 : Below w.heap.size w (w.alloc (.cells #[.slice none 0 0, .slice none 0 0, .int .i64 0, .int .i64 0, .int .i64 0, .int .i64 0, .slice none 0 0] 43)) := (Below.refl _ _).alloc (Nat.le_refl _) _
 have s1 : (w.alloc (.cells #[.slice none 0 0, .slice none 0 0, .int .i64 0, .int .i64 0, .int .i64 0, .int .i64 0, .slice none 0 0] 43)).heap.size = w.heap.size + 1 := by simp
 have x1 := Bx.new w [.slice none 0 0, .slice none 0 0, .int .i64 0, .int .i64 0, .int .i64 0, .int .i64 0, .slice none 0 0] 43
 have i1 := hI.keep h1
 simp only [List.toArray] at x1
 generalize w.alloc (.cells #[.slice none 0 0, .slice none 0 0, .int .i64 0, .int .i64 0, .int .i64 0, .int .i64 0, .slice none 0 0] 43) = w1 at *
 have h2 : Below w1.heap.size w1 (w1.alloc (.cells #[.slice os xs.length cap, .int .i64 0] 115)) := (Below.refl _ _).alloc (Nat.le_refl _) _
 have s2 : (w1.alloc (.cells #[.slice os xs.length cap, .int .i64 0] 115)).heap.size = w1.heap.size + 1 := by simp
 have x2 := src_new w1 os cap xs i1 hl
 rw [s1] at x2
 have x1b := x1.keep h2
 subst hX
 refine ⟨x1b, ⟨x2, fun a ha hne => ?_⟩, below_call h1 h2, by omega⟩
 subst ha
 obtain ⟨b, off, e, hr⟩ := hI (by simpa [pvals] using hne)
 injection e with e
 subst e
 exact hr.lt
structure Ti10K (n2 nS cap n8 lo : Nat) (os : Option Addr) (xs ns : List Int) (vn vo : Value) (W5 : World) (L : Nat → Bool) (v40 v41 v42 v43 v44 v45 v46 : Value) (w : World) : Prop where
 wf : SrS n2 nS os cap xs w ∧ (L 5 = false → W5.grownBy w (some nS))
 f0 : L 0 = true → v40 = .pointer (some ⟨n8, 0, none⟩)
 f1 : L 1 = true → v41 = vn
 f2 : L 2 = true → v42 = .pointer (some ⟨nS, 0, none⟩)
 f3 : L 3 = true → ∃ r : Int, Fm.inR64 r ∧ v43 = .int .i64 r
 f4 : L 4 = true → L 5 = false → ∃ (r : Int) (g : Nat), Fm.inR64 r ∧ v44 = .slice (some ⟨g, 0, none⟩) 1 1 ∧ Bx w g [.int .i64 r] 2 ∧ g ≠ nS
 f5 : L 5 = true → ∃ r : Int, Fm.inR64 r ∧ w.ownsRow lo 2 1 v45 (ns.length + 1) (pflat (ns ++ [r])) ∧ Fr3 lo nS n8 W5 w ∧ (L 7 = false → Bx w n8 [vn, vo] 92)
 f6 : L 6 = true → v46 = .pointer (some ⟨n8, 0, none⟩)
 f7 : L 7 = true → Bx w n8 [v45, vo] 92
 c1_0 : L 1 = true → L 0 = true
 c3_2 : L 3 = true → L 2 = true
 c4_3 : L 4 = true → L 3 = true
 c5_1 : L 5 = true → L 1 = true
 c5_4 : L 5 = true → L 4 = true
 c7_5 : L 7 = true → L 5 = true
 c7_6 : L 7 = true → L 6 = true
theorem Ti10K.keep {n2 nS cap n8 lo : Nat} {os : Option Addr} {xs ns : List Int} {vn vo : Value} {W5 : World} {L : Nat → Bool} {v40 v41 v42 v43 v44 v45 v46 : Value} {w X : World} (k : Ti10K n2 nS cap n8 lo os xs ns vn vo W5 L v40 v41 v42 v43 v44 v45 v46 w) (h6 : L 5 = false) (hg : w.grownBy X (some nS)) (hs : SrS n2 nS os cap xs X) : Ti10K n2 nS cap n8 lo os xs ns vn vo W5 L v40 v41 v42 v43 v44 v45 v46 X :=
 ⟨⟨hs, fun h => grown_trans (k.wf.2 h) hg⟩, k.f0, k.f1, k.f2, k.f3, fun h e => (k.f4 h e).elim fun r h => h.elim fun g h => ⟨r, g, h.1, h.2.1, h.2.2.1.grown hg h.2.2.2, h.2.2.2⟩, fun h => absurd (h6.symm.trans h) (by decide), k.f6, fun h => absurd (h6.symm.trans (k.c7_5 h)) (by decide), k.c1_0, k.c3_2, k.c4_3, k.c5_1, k.c5_4, k.c7_5, k.c7_6⟩
structure Ti14K (n2 nS cap n8 lo : Nat) (os : Option Addr) (xs ns : List Int) (vn vo : Value) (W5 : World) (L : Nat → Bool) (v53 v54 v55 v56 v57 v58 v59 v60 : Value) (w : World) : Prop where
 wf : SrS n2 nS os cap xs w ∧ (L 6 = false → W5.grownBy w (some nS))
 f0 : L 0 = true → v53 = .pointer (some ⟨n8, 1, none⟩)
 f1 : L 1 = true → v54 = vn
 f2 : L 2 = true → v55 = .pointer (some ⟨nS, 0, none⟩)
 f3 : L 3 = true → ∃ r : Nat, (r : Int) < 99 ∧ v56 = .int .i64 (r : Nat)
 f4 : L 4 = true → ∃ r : Int, Fm.inR64 r ∧ v57 = .int .i64 r
 f5 : L 5 = true → L 6 = false → ∃ (r : Int) (g : Nat), Fm.inR64 r ∧ v58 = .slice (some ⟨g, 0, none⟩) 1 1 ∧ Bx w g [.int .i64 r] 3 ∧ g ≠ nS
 f6 : L 6 = true → ∃ r : Int, Fm.inR64 r ∧ w.ownsRow lo 3 1 v59 (ns.length + 1) (pflat (ns ++ [r])) ∧ Fr3 lo nS n8 W5 w ∧ (L 8 = false → Bx w n8 [vo, vn] 92)
 f7 : L 7 = true → v60 = .pointer (some ⟨n8, 1, none⟩)
 f8 : L 8 = true → Bx w n8 [vo, v59] 92
 c1_0 : L 1 = true → L 0 = true
 c3_2 : L 3 = true → L 2 = true
 c4_3 : L 4 = true → L 3 = true
 c5_4 : L 5 = true → L 4 = true
 c6_1 : L 6 = true → L 1 = true
 c6_5 : L 6 = true → L 5 = true
 c8_6 : L 8 = true → L 6 = true
 c8_7 : L 8 = true → L 7 = true
theorem Ti14K.keep {n2 nS cap n8 lo : Nat} {os : Option Addr} {xs ns : List Int} {vn vo : Value} {W5 : World} {L : Nat → Bool} {v53 v54 v55 v56 v57 v58 v59 v60 : Value} {w X : World} (k : Ti14K n2 nS cap n8 lo os xs ns vn vo W5 L v53 v54 v55 v56 v57 v58 v59 v60 w) (h6 : L 6 = false) (hg : w.grownBy X (some nS)) (hs : SrS n2 nS os cap xs X) : Ti14K n2 nS cap n8 lo os xs ns vn vo W5 L v53 v54 v55 v56 v57 v58 v59 v60 X :=
 ⟨⟨hs, fun h => grown_trans (k.wf.2 h) hg⟩, k.f0, k.f1, k.f2, k.f3, k.f4, fun h e => (k.f5 h e).elim fun r h => h.elim fun g h => ⟨r, g, h.1, h.2.1, h.2.2.1.grown hg h.2.2.2, h.2.2.2⟩, fun h => absurd (h6.symm.trans h) (by decide), k.f7, fun h => absurd (h6.symm.trans (k.c8_6 h)) (by decide), k.c1_0, k.c3_2, k.c4_3, k.c5_4, k.c6_1, k.c6_5, k.c8_6, k.c8_7⟩
set_option maxRecDepth 100000 in
set_option maxHeartbeats 16000000 in
theorem trajectory13 (w : World) (ol : Option Addr) (cl : Nat) (ls : List Int) (os : Option Addr) (cap : Nat) (xs : List Int) (hI0 : Sl w ol 1 (pvals ls)) (hl0 : ls.length ≤ 9223372036854775807) (hI : Sl w os 1 (pvals xs)) (hl : xs.length ≤ 9223372036854775807) :
  Calls Tryz.prog 12 #[.slice ol ls.length cl, .slice os xs.length cap] w (MkTrP w) := by
 obtain ⟨x4, s1, hb, hsz⟩ := start13 w os cap xs hI hl _ rfl
 have HF := Lib.hid (fun V => from_any os cap xs.length V)
 have HX4 := Lib.hid x4
 have HS := Lib.hid s1
 have HB := Lib.hid hb
 have HSZ := Lib.hid hsz
 have HI0 := Lib.hid (hI0.keep hb)
 clear hI hl x4 s1 hb hsz hI0
 go_enter Tryz.func12, Tryz.ntmps12
 go_wp2_with fail
 refine (HF.out _).mono ?_
 rintro e W1 ⟨rfl, rfl⟩
 go_upto_region 2 with fail
 generalize (w.alloc (.cells #[.slice none 0 0, .slice none 0 0, .int .i64 0, .int .i64 0, .int .i64 0, .int .i64 0, .slice none 0 0] 43)).alloc (.cells #[.slice os xs.length cap, .int .i64 0] 115) = W1 at HX4 HS HB HSZ HI0 ⊢
 clear HF
 obtain ⟨n4, hn4⟩ : ∃ n, n = w.heap.size := ⟨_, rfl⟩
 have HN4 := Lib.hid hn4
 rw [← hn4] at HX4 HS HB HSZ ⊢
 clear hn4
 obtain ⟨nS, hnS⟩ : ∃ n, n = n4 + 1 := ⟨_, rfl⟩
 rw [← hnS] at HS ⊢
 have hs1 : n4 < nS := by omega
 have HSZ : Hid (W1.heap.size = nS + 1) := Lib.hid (by have := HSZ.out; omega)
 clear hnS
 have HC := Lib.hid (Path7_new W1 ol cl ls HI0.out hl0)
 clear HI0
 go_wp2_with fail
 refine HC.out.mono ?_
 clear HC
 rintro e W2 ⟨vp, p, rfl, hN, hmk, hb2⟩
 obtain ⟨op, np, oe, ne, rfl, -, -⟩ := hN.now
 have HNP := Lib.hid hN
 have HMP := Lib.hid hmk
 have HS2 := Lib.hid (HS.out.keep hb2 (by have := HSZ.out; omega))
 have HX42 := Lib.hid (HX4.out.keep hb2)
 have HB2 := Lib.hid (HB.out.trans (hb2.mono (by have := HSZ.out; omega)))
 have HSZ2 : Hid (nS + 1 ≤ W2.heap.size) := Lib.hid (by have := HSZ.out; have := hb2.size; omega)
 clear hN hmk hb2 HS HX4 HB
 go_wp2_with fail
 refine (next20 9 HS2.out (by decide) (by decide)).mono ?_
 rintro e W3 ⟨r1, hr1, rfl, hg, hs⟩
 have HS3 := Lib.hid hs
 have HG3 := Lib.hid hg
 clear hg hs HS2
 go_wp2_with fail
 refine (numb21 HS3.out).mono ?_
 rintro e W4 ⟨nx, hnx, rfl, hg, hs⟩
 have HS4 := Lib.hid hs
 have HG4 := Lib.hid (grown_trans HG3.out hg)
 clear hg hs HS3 HG3
 go_wp2_with fail
 refine (numb21 HS4.out).mono ?_
 rintro e W5 ⟨ny, hny, rfl, hg, hs⟩
 have HS5 := Lib.hid hs
 have HG5 := Lib.hid (grown_trans HG4.out hg)
 clear hg hs HS4 HG4
 go_wp2_with fail
 refine (numb21 HS5.out).mono ?_
 rintro e W6 ⟨nz, hnz, rfl, hg, hs⟩
 have HG6 := Lib.hid (grown_trans HG5.out hg)
 have HS6 := Lib.hid hs
 have HGR : Hid (Fm.inR64 ((r1 : Int) - 1)) := Lib.hid (by unfold Fm.inR64; omega)
 have HHD := Lib.hid (And.intro hnx (And.intro hny hnz))
 clear hg hs HS5 HG5 hnx hny hnz
 go_upto_region 3 with fail
 generalize (r1 : Int) - 1 = gr at HGR ⊢
 have hb7 : Below W6.heap.size W6 (W6.alloc (.cells #[.slice op p.pts.length np, .slice oe p.edges.length ne, .int .i64 nx, .int .i64 ny, .int .i64 nz, .int .i64 gr, .slice none 0 0] 43)) := (Below.refl _ _).alloc (Nat.le_refl _) _
 have hz2 := HSZ2.out
 have HX6 := Lib.hid (Bx.new W6 [.slice op p.pts.length np, .slice oe p.edges.length ne, .int .i64 nx, .int .i64 ny, .int .i64 nz, .int .i64 gr, .slice none 0 0] 43)
 have HS7 := Lib.hid (HS6.out.keep hb7 (by have := HG6.out.size; omega))
 have HX47 := Lib.hid ((HX42.out.grown HG6.out (by omega)).keep hb7)
 have HG7 := Lib.hid (grown_call HG6.out hb7)
 have HZ7 : Hid (nS + 1 ≤ W6.heap.size ∧ W2.heap.size ≤ W6.heap.size) := Lib.hid (by have := HG6.out.size; omega)
 clear hb7 hz2 HS6 HX42 HG6
 generalize W6.alloc (.cells #[.slice op p.pts.length np, .slice oe p.edges.length ne, .int .i64 nx, .int .i64 ny, .int .i64 nz, .int .i64 gr, .slice none 0 0] 43) = W7 at HX6 HS7 HX47 HG7 ⊢
 obtain ⟨n6, hn6⟩ : ∃ n, n = W6.heap.size := ⟨_, rfl⟩
 rw [← hn6] at HX6 HZ7 ⊢
 clear hn6
 have hn6S : nS < n6 := by have := HZ7.out; omega
 have hn67 : n6 < W7.heap.size := HX6.out.lt
 have hme : p.edges.length ≤ 3 := HMP.out.ne
 go_wp2_with fail
 go_loopw [7] (fun i X => ∃ (k : Nat) (fs : List Fm.ProfD) (v : Value), k ≤ p.edges.length ∧ i = .int .i64 (k : Nat) ∧ fs.length = k ∧ (∀ x ∈ fs, MkProf x) ∧ Bx X n6 [.slice op p.pts.length np, .slice oe p.edges.length ne, .int .i64 nx, .int .i64 ny, .int .i64 nz, .int .i64 gr, v] 43 ∧ RowO ProfAt 92 2 W7.heap.size X v fs ∧ SrS n4 nS os cap xs X ∧ Fr3 W7.heap.size nS n6 W7 X) (fun i _ => p.edges.length - (intOf i).toNat)
 case atStart => exact ⟨0, [], .slice none 0 0, Nat.zero_le _, rfl, rfl, nofun, HX6.out, RowO.nil _ _ _ _ _, HS7.out, Fr3.refl _ _ _ _⟩
 case round =>
  obtain ⟨k, fs, v, hk, rfl, hfl, hmk, hX, hRow, hS, hF⟩ := hrel
  obtain ⟨Wr, rfl⟩ : ∃ X, X = wr := ⟨_, rfl⟩
  have HMK := Lib.hid hmk
  have HXr := Lib.hid hX
  have HRowr := Lib.hid hRow
  have HSr := Lib.hid hS
  have HFr := Lib.hid hF
  have HFL := Lib.hid hfl
  have hzr : W7.heap.size ≤ Wr.heap.size := hF.size
  have c1 := hX.c 1 _ rfl
  have cl7 := hX.lt
  clear hmk hX hRow hS hF hfl
  by_cases hlt : k < p.edges.length
  ·have hd : decide ((k : Int) < (p.edges.length : Int)) = true := decide_eq_true (by omega)
   have hb8 : Below Wr.heap.size Wr (Wr.alloc (.cells #[.slice none 0 0, .slice none 0 0] 92)) := (Below.refl _ _).alloc (Nat.le_refl _) _
   have HX8 := Lib.hid (Bx.new Wr [.slice none 0 0, .slice none 0 0] 92)
   have HS8 := Lib.hid (HSr.out.keep hb8 (by omega))
   have HG8 := Lib.hid (grown_of_below hb8 (r := some nS))
   clear hb8
   go_upto_region 7 with fail
   clear c1 cl7 hd
   generalize Wr.alloc (.cells #[.slice none 0 0, .slice none 0 0] 92) = W8 at HX8 HS8 HG8 ⊢
   obtain ⟨n8, hn8⟩ : ∃ n, n = Wr.heap.size := ⟨_, rfl⟩
   have HN8 := Lib.hid hn8
   rw [← hn8] at HX8 hzr ⊢
   clear hn8
   go_wp2_with fail
   refine (next20 4 HS8.out (by decide) (by decide)).mono ?_
   rintro e W9 ⟨r3, hr3, rfl, hg, hs⟩
   have HS9 := Lib.hid hs
   have HX9 := Lib.hid (HX8.out.grown hg (by omega))
   have HG9 := Lib.hid (grown_trans HG8.out hg)
   clear hg hs HS8 HX8 HG8
   go_wp2_with fail
   go_loopw [9] (fun i X => ∃ (m : Nat) (lv : List Int) (vl : Value), i = .int .i64 (m : Nat) ∧ lv.length + m ≤ 3 ∧ (∀ a ∈ lv, Fm.inR64 a) ∧ Bx X n8 [vl, .slice none 0 0] 92 ∧ X.ownsRow (n8 + 1) 2 1 vl lv.length (pflat lv) ∧ SrS n4 nS os cap xs X ∧ Wr.grownBy X (some nS)) (fun i _ => (intOf i).toNat)
   case atStart => exact ⟨r3, [], .slice none 0 0, rfl, by simp; omega, nofun, HX9.out, World.ownsRow_nil _ _ _ _, HS9.out, HG9.out⟩
   case round =>
    obtain ⟨m, ns, vn, rfl, hpl, hin, hX8, hO, hS, hG⟩ := hrel
    obtain ⟨Wg, rfl⟩ : ∃ X, X = wr := ⟨_, rfl⟩
    have HIN2 := Lib.hid hin
    have HX14 := Lib.hid hX8
    have HO := Lib.hid hO
    have HSg := Lib.hid hS
    have HGg := Lib.hid hG
    have hzg : n8 + 1 ≤ Wg.heap.size := hX8.lt
    clear hin hX8 hO hS hG
    by_cases hgt2 : 0 < m
    ·have hd : decide ((0 : Int) < (m : Int)) = true := decide_eq_true (by omega)
     go_wp2_with fail
     have h8S : n8 ≠ nS := by omega
     have hS8 : nS < n8 + 1 := by omega
     have h8lo : n8 < n8 + 1 := by omega
     clear hd
     refine wp_region_inv (by kernel_rfl) (by kernel_rfl) (fun L a w => ∃ v40 v41 v42 v43 v44 v45 v46 : Value, a = { tmps := #[(Value.slice ol ls.length cl), (Value.slice os xs.length cap), undef, undef, (Value.pointer (some ⟨n4, 0, none⟩)), (Value.pointer (some ⟨nS, 0, none⟩)), (Value.pointer (some ⟨n6, 0, none⟩)), (Value.int IntKind.i64 ((k : Nat) : Int)), (Value.pointer (some ⟨n8, 0, none⟩)), (Value.int IntKind.i64 ((m : Nat) : Int)), u10, (Value.slice os xs.length cap), (Value.pointer (some ⟨nS, 0, none⟩)), (Value.slice ol ls.length cl), (Value.agg #[Value.slice op p.pts.length np, Value.slice oe p.edges.length ne]), (Value.pointer (some ⟨nS, 0, none⟩)), (Value.int IntKind.i64 ((r1 : Nat) : Int)), (Value.int IntKind.i64 gr), (Value.pointer (some ⟨nS, 0, none⟩)), (Value.int IntKind.i64 nx), (Value.pointer (some ⟨nS, 0, none⟩)), (Value.int IntKind.i64 ny), (Value.pointer (some ⟨nS, 0, none⟩)), (Value.int IntKind.i64 nz), (Value.agg #[Value.int IntKind.i64 nx, Value.int IntKind.i64 ny, Value.int IntKind.i64 nz]), (Value.agg #[Value.slice op p.pts.length np, Value.slice oe p.edges.length ne, Value.int IntKind.i64 nx, Value.int IntKind.i64 ny, Value.int IntKind.i64 nz, Value.int IntKind.i64 gr, Value.slice none 0 0]), (Value.int IntKind.i64 ((k : Nat) : Int)), (Value.pointer (some ⟨n6, 0, none⟩)), (Value.pointer (some ⟨n6, 1, none⟩)), (Value.slice oe p.edges.length ne), (Value.int IntKind.i64 ((p.edges.length : Nat) : Int)), (Value.bool true), u32, u33, (Value.pointer (some ⟨nS, 0, none⟩)), (Value.int IntKind.i64 ((r3 : Nat) : Int)), (Value.int IntKind.i64 ((m : Nat) : Int)), (Value.bool true), u38, u39, v40, v41, v42, v43, v44, v45, v46, u47, u48, u49, u50, u51, u52, u53, u54, u55, u56, u57, u58, u59, u60, u61, u62, u63, u64, u65, u66, undef], defers := [] } ∧ Ti10K n4 nS cap n8 (n8 + 1) os xs ns vn (.slice none 0 0) Wg L v40 v41 v42 v43 v44 v45 v46 w) ?_ ?_ ?_
     ·exact ⟨_, _, _, _, _, _, _, rfl, ⟨⟨HSg.out.keep (below_drew Wg 1) (by omega), fun _ => grown_of_below (below_drew Wg 1)⟩, nofun, nofun, nofun, nofun, nofun, nofun, nofun, nofun, nofun, nofun, nofun, nofun, nofun, nofun, nofun⟩⟩
     ·intro iq oq ho L a w hL hd hJ
      obtain ⟨v40, v41, v42, v43, v44, v45, v46, rfl, k⟩ := hJ
      have hiq : iq < 8 := by have := (Array.getElem?_eq_some_iff.1 ho).1; simpa using this
      match iq, hiq, ho, hL with
      | 0, _, ho, hL =>
       have ho2 := ho
       simp only [qz1, qz2, qz3, qz4] at ho
       subst ho
       refine wpOp_step ho2 (fun K hK => ?_)
       go_simp
       exact hK _ _ ⟨_, _, _, _, _, _, _, rfl, ⟨k.wf, fun _ => rfl, k.f1, k.f2, k.f3, k.f4, k.f5, k.f6, k.f7, fun h => up_or (k.c1_0 h), fun h => up_or (k.c3_2 h), fun h => up_or (k.c4_3 h), fun h => up_or (k.c5_1 h), fun h => up_or (k.c5_4 h), fun h => up_or (k.c7_5 h), fun h => up_or (k.c7_6 h)⟩⟩
      | 1, _, ho, hL =>
       have ho2 := ho
       simp only [qz1, qz2, qz3, qz4] at ho
       subst ho
       refine wpOp_step ho2 (fun K hK => ?_)
       obtain rfl := k.f0 (hd ⟨0, .data⟩ (by simp) rfl)
       have h6 : L 5 = false := by
        cases h : L 5 with
        | false => rfl
        | true => exact absurd (hL.symm.trans (k.c5_1 h)) (by decide)
       have hbx := HX14.out.grown (k.wf.2 h6) h8S
       have c1 := hbx.c 0 _ rfl
       have cl := hbx.lt
       go_simp
       exact hK _ _ ⟨_, _, _, _, _, _, _, rfl, ⟨k.wf, k.f0, fun _ => rfl, k.f2, k.f3, k.f4, k.f5, k.f6, k.f7, fun _ => up_or (hd ⟨0, .data⟩ (by simp) rfl), fun h => up_or (k.c3_2 h), fun h => up_or (k.c4_3 h), fun h => up_or (k.c5_1 h), fun h => up_or (k.c5_4 h), fun h => up_or (k.c7_5 h), fun h => up_or (k.c7_6 h)⟩⟩
      | 2, _, ho, hL =>
       have ho2 := ho
       simp only [qz1, qz2, qz3, qz4] at ho
       subst ho
       refine wpOp_step ho2 (fun K hK => ?_)
       go_simp
       exact hK _ _ ⟨_, _, _, _, _, _, _, rfl, ⟨k.wf, k.f0, k.f1, fun _ => rfl, k.f3, k.f4, k.f5, k.f6, k.f7, fun h => up_or (k.c1_0 h), fun h => up_or (k.c3_2 h), fun h => up_or (k.c4_3 h), fun h => up_or (k.c5_1 h), fun h => up_or (k.c5_4 h), fun h => up_or (k.c7_5 h), fun h => up_or (k.c7_6 h)⟩⟩
      | 3, _, ho, hL =>
       have ho2 := ho
       simp only [qz1, qz2, qz3, qz4] at ho
       subst ho
       refine wpOp_step ho2 (fun K hK => ?_)
       obtain rfl := k.f2 (hd ⟨2, .data⟩ (by simp) rfl)
       have h6 : L 5 = false := by
        cases h : L 5 with
        | false => rfl
        | true => exact absurd (hL.symm.trans (k.c4_3 (k.c5_4 h))) (by decide)
       have hcall := numb21 k.wf.1
       go_simp
       refine hcall.mono ?_
       rintro e X ⟨r, hr, rfl, hg, hs⟩
       replace k := k.keep h6 hg hs
       exact hK _ _ ⟨_, _, _, _, _, _, _, rfl, ⟨k.wf, k.f0, k.f1, k.f2, fun _ => ⟨r, hr, rfl⟩, k.f4, k.f5, k.f6, k.f7, fun h => up_or (k.c1_0 h), fun _ => up_or (hd ⟨2, .data⟩ (by simp) rfl), fun h => up_or (k.c4_3 h), fun h => up_or (k.c5_1 h), fun h => up_or (k.c5_4 h), fun h => up_or (k.c7_5 h), fun h => up_or (k.c7_6 h)⟩⟩
      | 4, _, ho, hL =>
       have ho2 := ho
       simp only [qz1, qz2, qz3, qz4] at ho
       subst ho
       refine wpOp_step ho2 (fun K hK => ?_)
       have h6 : L 5 = false := by
        cases h : L 5 with
        | false => rfl
        | true => exact absurd (hL.symm.trans (k.c5_4 h)) (by decide)
       obtain ⟨r, hin, rfl⟩ := k.f3 (hd ⟨3, .data⟩ (by simp) rfl)
       have hb : Below w.heap.size w (w.alloc (.cells #[.int .i64 r] 2)) := (Below.refl _ _).alloc (Nat.le_refl _) _
       have hbx := Bx.new w [.int .i64 r] 2
       have hwz := (k.wf.2 h6).size
       have hne : w.heap.size ≠ nS := by omega
       go_simp
       replace k := k.keep h6 (grown_of_below hb) (k.wf.1.keep hb (by omega))
       exact hK _ _ ⟨_, _, _, _, _, _, _, rfl, ⟨k.wf, k.f0, k.f1, k.f2, k.f3, fun _ _ => ⟨r, w.heap.size, hin, rfl, hbx, hne⟩, k.f5, k.f6, k.f7, fun h => up_or (k.c1_0 h), fun h => up_or (k.c3_2 h), fun _ => up_or (hd ⟨3, .data⟩ (by simp) rfl), fun h => up_or (k.c5_1 h), fun h => up_or (k.c5_4 h), fun h => up_or (k.c7_5 h), fun h => up_or (k.c7_6 h)⟩⟩
      | 5, _, ho, hL =>
       have ho2 := ho
       simp only [qz1, qz2, qz3, qz4] at ho
       subst ho
       refine wpOp_step ho2 (fun K hK => ?_)
       obtain rfl := k.f1 (hd ⟨1, .data⟩ (by simp) rfl)
       obtain ⟨r, g4, hin, rfl, hbx, hgs⟩ := k.f4 (hd ⟨4, .data⟩ (by simp) rfl) hL
       have hg := k.wf.2 hL
       have hO2 := own_blk (W' := w) HO.out fun g _ hl hb => hg.block g hl (by intro e; injection e with e; omega)
       have hlx : n8 + 1 ≤ w.heap.size := Nat.le_trans hzg hg.size
       obtain ⟨i0, hi0, hz0, hz1, hz2⟩ := info_parts info2
       refine step_append_lies _ rfl (.tmp 41) (.tmp 44) 68 rfl (n8 + 1) 2 i0 (.int .i64 0) 1 8 under42 hi0 hz0 hz1 hz2 rfl (by decide) _ ns.length (pflat ns) (by simp [Act.eval]) hO2 ⟨g4, 0, none⟩ 1 1 [.int .i64 r] (by simp [Act.eval]) rfl (World.news_of_block hbx.h) (by intro u hu; simp at hu; subst hu; rfl) (by decide) (by unfold maxLen; omega) (by omega) hlx _ rfl ?_
       intro gN cN X hown hgrow hat hltN
       have hbn1 : Below (n8 + 1) w X := grown_below hO2 hgrow hlx
       have hbX : Bx X n8 [_, .slice none 0 0] 92 := (HX14.out.grown hg h8S).low hbn1 (by omega)
       exact hK _ _ ⟨_, _, _, _, _, _, _, rfl, ⟨⟨k.wf.1.keepA hbn1 (by omega) hS8, nofun⟩, k.f0, k.f1, k.f2, k.f3, fun _ => nofun, fun _ => ⟨r, hin, by rw [pflat_app]; exact hown, (Fr3.grown hg hzg).trans (Fr3.low hbn1), fun _ => hbX⟩, k.f6, fun h => absurd (hL.symm.trans (k.c7_5 h)) (by decide), fun h => up_or (k.c1_0 h), fun h => up_or (k.c3_2 h), fun h => up_or (k.c4_3 h), fun _ => up_or (hd ⟨1, .data⟩ (by simp) rfl), fun _ => up_or (hd ⟨4, .data⟩ (by simp) rfl), fun h => up_or (k.c7_5 h), fun h => up_or (k.c7_6 h)⟩⟩
      | 6, _, ho, hL =>
       have ho2 := ho
       simp only [qz1, qz2, qz3, qz4] at ho
       subst ho
       refine wpOp_step ho2 (fun K hK => ?_)
       go_simp
       exact hK _ _ ⟨_, _, _, _, _, _, _, rfl, ⟨k.wf, k.f0, k.f1, k.f2, k.f3, k.f4, k.f5, fun _ => rfl, k.f7, fun h => up_or (k.c1_0 h), fun h => up_or (k.c3_2 h), fun h => up_or (k.c4_3 h), fun h => up_or (k.c5_1 h), fun h => up_or (k.c5_4 h), fun h => up_or (k.c7_5 h), fun h => up_or (k.c7_6 h)⟩⟩
      | 7, _, ho, hL =>
       have ho2 := ho
       simp only [qz1, qz2, qz3, qz4] at ho
       subst ho
       refine wpOp_step ho2 (fun K hK => ?_)
       obtain rfl := k.f6 (hd ⟨6, .data⟩ (by simp) rfl)
       have h15 := hd ⟨5, .data⟩ (by simp) rfl
       obtain ⟨r, hin, hr15, hF, hx15⟩ := k.f5 h15
       have hbx := hx15 hL
       have bl := hbx.lt
       have bf := hbx.f 0
       have bc := hbx.c 0 _ rfl
       obtain ⟨o46, c46, rfl⟩ := own_sl hr15
       have hpp := hbx.putAt 0 (.slice o46 (ns.length + 1) c46)
       go_simp
       exact hK _ _ ⟨_, _, _, _, _, _, _, rfl, ⟨⟨k.wf.1.put n8 0 _ (by omega) h8S, fun h => absurd (h15.symm.trans h) (by decide)⟩, k.f0, k.f1, k.f2, k.f3, fun _ h => absurd (h15.symm.trans h) (by decide), fun _ => ⟨r, hin, own_blk hr15 fun g _ _ hb => Below.heap_setCell w ⟨n8, 0, none⟩ _ g (by show g ≠ n8; omega), hF.trans (Fr3.set w 0 _), nofun⟩, k.f6, fun _ => hpp, fun h => up_or (k.c1_0 h), fun h => up_or (k.c3_2 h), fun h => up_or (k.c4_3 h), fun h => up_or (k.c5_1 h), fun h => up_or (k.c5_4 h), fun _ => up_or (hd ⟨5, .data⟩ (by simp) rfl), fun _ => up_or (hd ⟨6, .data⟩ (by simp) rfl)⟩⟩
      | n + 8, h, _, _ => omega
     ·intro L a w hL hJ
      obtain ⟨v40, v41, v42, v43, v44, v45, v46, rfl, k⟩ := hJ
      obtain ⟨r, hr, hr15, hF9, -⟩ := k.f5 (hL 5 (by decide))
      have hx17 := k.f7 (hL 7 (by decide))
      have hs9 := k.wf.1
      obtain rfl := k.f0 (hL 0 (by decide))
      obtain rfl := k.f2 (hL 2 (by decide))
      obtain rfl := k.f6 (hL 6 (by decide))
      dsimp only
      have HRY := Lib.hid hr15
      have HXY := Lib.hid hx17
      have HSY := Lib.hid hs9
      have HGY := Lib.hid (hF9.back HGg.out (by have := HN8.out; omega) (by have := HN8.out; omega))
      clear hr15 hx17 hs9 hF9 k hL
      have hwr : IntKind.i64.wrap ((m : Int) - 1) = (((m - 1 : Nat)) : Int) := by rw [IntWalk.i64_in _ (by omega)]; omega
      go_wp2_with fail
      go_roundw
      case rel => exact ⟨m - 1, ns ++ [r], _, by first | rfl | simp, by rw [List.length_append, List.length_cons, List.length_nil]; omega, fun v hv => (List.mem_append.1 hv).elim (HIN2.out v) (fun h => by rw [List.mem_singleton] at h; subst h; exact hr), HXY.out, by rw [List.length_append, List.length_cons, List.length_nil]; exact HRY.out, HSY.out, HGY.out⟩
      case measure => simp [intOf]; omega
    ·have hm0 : m = 0 := by omega
     subst hm0
     have hNV := NumV.mk (lo' := n8 + 1) rfl HO.out (Nat.le_refl _)
     obtain ⟨oL, cL, rfl⟩ := own_sl HO.out
     have HC := Lib.hid (next20 4 HSg.out (by decide) (by decide))
     have hll : ns.length ≤ 3 := by omega
     have HLV := Lib.hid hNV
     clear hNV HO hgt2 hpl HX9 HS9 HG9
     go_wp2_with fail
     refine HC.out.mono ?_
     clear HC
     rintro e W11 ⟨r4, hr4, rfl, hg, hs⟩
     have HS11 := Lib.hid hs
     have HX811 := Lib.hid (HX14.out.grown hg (by omega))
     have HG11 := Lib.hid (grown_trans HGg.out hg)
     have HLV11 := Lib.hid (New.keep HLV.out (grown_ag hg (n8 + 1) (by omega)))
     have hz11 : n8 + 1 ≤ W11.heap.size := Nat.le_trans hzg hg.size
     have HINL := Lib.hid HIN2.out
     clear hg hs HSg HX14 HGg HLV HIN2
     go_wp2_with fail
     go_loopw [10] (fun i X => ∃ (m : Nat) (st : List Int) (vl : Value), i = .int .i64 (m : Nat) ∧ st.length + m ≤ 3 ∧ (∀ a ∈ st, Fm.inR64 a) ∧ Bx X n8 [.slice oL ns.length cL, vl] 92 ∧ X.ownsRow W11.heap.size 3 1 vl st.length (pflat st) ∧ SrS n4 nS os cap xs X ∧ Fr3 W11.heap.size nS n8 W11 X) (fun i _ => (intOf i).toNat)
     case atStart => exact ⟨r4, [], .slice none 0 0, rfl, by simp; omega, nofun, HX811.out, World.ownsRow_nil _ _ _ _, HS11.out, Fr3.refl _ _ _ _⟩
     case round =>
      obtain ⟨m, st, vn, rfl, hpl, hin, hX8, hO, hS, hF⟩ := hrel
      obtain ⟨Wg, rfl⟩ : ∃ X, X = wr := ⟨_, rfl⟩
      have HIN2 := Lib.hid hin
      have HX14 := Lib.hid hX8
      have HO := Lib.hid hO
      have HSg := Lib.hid hS
      have HFg := Lib.hid hF
      have hzg : W11.heap.size ≤ Wg.heap.size := hF.size
      clear hin hX8 hO hS hF
      by_cases hgt2 : 0 < m
      ·have hd : decide ((0 : Int) < (m : Int)) = true := decide_eq_true (by omega)
       go_wp2_with fail
       have h8S : n8 ≠ nS := by omega
       have hS8 : nS < W11.heap.size := by omega
       have h8lo : n8 < W11.heap.size := by omega
       clear hd
       refine wp_region_inv (by kernel_rfl) (by kernel_rfl) (fun L a w => ∃ v53 v54 v55 v56 v57 v58 v59 v60 : Value, a = { tmps := #[(Value.slice ol ls.length cl), (Value.slice os xs.length cap), undef, undef, (Value.pointer (some ⟨n4, 0, none⟩)), (Value.pointer (some ⟨nS, 0, none⟩)), (Value.pointer (some ⟨n6, 0, none⟩)), (Value.int IntKind.i64 ((k : Nat) : Int)), (Value.pointer (some ⟨n8, 0, none⟩)), (Value.int IntKind.i64 0), (Value.int IntKind.i64 ((m : Nat) : Int)), (Value.slice os xs.length cap), (Value.pointer (some ⟨nS, 0, none⟩)), (Value.slice ol ls.length cl), (Value.agg #[Value.slice op p.pts.length np, Value.slice oe p.edges.length ne]), (Value.pointer (some ⟨nS, 0, none⟩)), (Value.int IntKind.i64 ((r1 : Nat) : Int)), (Value.int IntKind.i64 gr), (Value.pointer (some ⟨nS, 0, none⟩)), (Value.int IntKind.i64 nx), (Value.pointer (some ⟨nS, 0, none⟩)), (Value.int IntKind.i64 ny), (Value.pointer (some ⟨nS, 0, none⟩)), (Value.int IntKind.i64 nz), (Value.agg #[Value.int IntKind.i64 nx, Value.int IntKind.i64 ny, Value.int IntKind.i64 nz]), (Value.agg #[Value.slice op p.pts.length np, Value.slice oe p.edges.length ne, Value.int IntKind.i64 nx, Value.int IntKind.i64 ny, Value.int IntKind.i64 nz, Value.int IntKind.i64 gr, Value.slice none 0 0]), (Value.int IntKind.i64 ((k : Nat) : Int)), (Value.pointer (some ⟨n6, 0, none⟩)), (Value.pointer (some ⟨n6, 1, none⟩)), (Value.slice oe p.edges.length ne), (Value.int IntKind.i64 ((p.edges.length : Nat) : Int)), (Value.bool true), u32, u33, (Value.pointer (some ⟨nS, 0, none⟩)), (Value.int IntKind.i64 ((r3 : Nat) : Int)), (Value.int IntKind.i64 0), (Value.bool false), u38, u39, u40, u41, u42, u43, u44, u45, u46, (Value.pointer (some ⟨nS, 0, none⟩)), (Value.int IntKind.i64 ((r4 : Nat) : Int)), (Value.int IntKind.i64 ((m : Nat) : Int)), (Value.bool true), u51, u52, v53, v54, v55, v56, v57, v58, v59, v60, u61, u62, u63, u64, u65, u66, undef], defers := [] } ∧ Ti14K n4 nS cap n8 (W11.heap.size) os xs st vn (.slice oL ns.length cL) Wg L v53 v54 v55 v56 v57 v58 v59 v60 w) ?_ ?_ ?_
       ·exact ⟨_, _, _, _, _, _, _, _, rfl, ⟨⟨HSg.out.keep (below_drew Wg 1) (by omega), fun _ => grown_of_below (below_drew Wg 1)⟩, nofun, nofun, nofun, nofun, nofun, nofun, nofun, nofun, nofun, nofun, nofun, nofun, nofun, nofun, nofun, nofun, nofun⟩⟩
       ·intro iq oq ho L a w hL hd hJ
        obtain ⟨v53, v54, v55, v56, v57, v58, v59, v60, rfl, k⟩ := hJ
        have hiq : iq < 9 := by have := (Array.getElem?_eq_some_iff.1 ho).1; simpa using this
        match iq, hiq, ho, hL with
        | 0, _, ho, hL =>
         have ho2 := ho
         simp only [qz1, qz2, qz3, qz4] at ho
         subst ho
         refine wpOp_step ho2 (fun K hK => ?_)
         go_simp
         exact hK _ _ ⟨_, _, _, _, _, _, _, _, rfl, ⟨k.wf, fun _ => rfl, k.f1, k.f2, k.f3, k.f4, k.f5, k.f6, k.f7, k.f8, fun h => up_or (k.c1_0 h), fun h => up_or (k.c3_2 h), fun h => up_or (k.c4_3 h), fun h => up_or (k.c5_4 h), fun h => up_or (k.c6_1 h), fun h => up_or (k.c6_5 h), fun h => up_or (k.c8_6 h), fun h => up_or (k.c8_7 h)⟩⟩
        | 1, _, ho, hL =>
         have ho2 := ho
         simp only [qz1, qz2, qz3, qz4] at ho
         subst ho
         refine wpOp_step ho2 (fun K hK => ?_)
         obtain rfl := k.f0 (hd ⟨0, .data⟩ (by simp) rfl)
         have h6 : L 6 = false := by
          cases h : L 6 with
          | false => rfl
          | true => exact absurd (hL.symm.trans (k.c6_1 h)) (by decide)
         have hbx := HX14.out.grown (k.wf.2 h6) h8S
         have c1 := hbx.c 1 _ rfl
         have cl := hbx.lt
         go_simp
         exact hK _ _ ⟨_, _, _, _, _, _, _, _, rfl, ⟨k.wf, k.f0, fun _ => rfl, k.f2, k.f3, k.f4, k.f5, k.f6, k.f7, k.f8, fun _ => up_or (hd ⟨0, .data⟩ (by simp) rfl), fun h => up_or (k.c3_2 h), fun h => up_or (k.c4_3 h), fun h => up_or (k.c5_4 h), fun h => up_or (k.c6_1 h), fun h => up_or (k.c6_5 h), fun h => up_or (k.c8_6 h), fun h => up_or (k.c8_7 h)⟩⟩
        | 2, _, ho, hL =>
         have ho2 := ho
         simp only [qz1, qz2, qz3, qz4] at ho
         subst ho
         refine wpOp_step ho2 (fun K hK => ?_)
         go_simp
         exact hK _ _ ⟨_, _, _, _, _, _, _, _, rfl, ⟨k.wf, k.f0, k.f1, fun _ => rfl, k.f3, k.f4, k.f5, k.f6, k.f7, k.f8, fun h => up_or (k.c1_0 h), fun h => up_or (k.c3_2 h), fun h => up_or (k.c4_3 h), fun h => up_or (k.c5_4 h), fun h => up_or (k.c6_1 h), fun h => up_or (k.c6_5 h), fun h => up_or (k.c8_6 h), fun h => up_or (k.c8_7 h)⟩⟩
        | 3, _, ho, hL =>
         have ho2 := ho
         simp only [qz1, qz2, qz3, qz4] at ho
         subst ho
         refine wpOp_step ho2 (fun K hK => ?_)
         obtain rfl := k.f2 (hd ⟨2, .data⟩ (by simp) rfl)
         have h6 : L 6 = false := by
          cases h : L 6 with
          | false => rfl
          | true => exact absurd (hL.symm.trans (k.c4_3 (k.c5_4 (k.c6_5 h)))) (by decide)
         have hcall := next20 99 k.wf.1 (by decide) (by decide)
         go_simp
         refine hcall.mono ?_
         rintro e X ⟨r, hr, rfl, hg, hs⟩
         replace k := k.keep h6 hg hs
         exact hK _ _ ⟨_, _, _, _, _, _, _, _, rfl, ⟨k.wf, k.f0, k.f1, k.f2, fun _ => ⟨r, hr, rfl⟩, k.f4, k.f5, k.f6, k.f7, k.f8, fun h => up_or (k.c1_0 h), fun _ => up_or (hd ⟨2, .data⟩ (by simp) rfl), fun h => up_or (k.c4_3 h), fun h => up_or (k.c5_4 h), fun h => up_or (k.c6_1 h), fun h => up_or (k.c6_5 h), fun h => up_or (k.c8_6 h), fun h => up_or (k.c8_7 h)⟩⟩
        | 4, _, ho, hL =>
         have ho2 := ho
         simp only [qz1, qz2, qz3, qz4] at ho
         subst ho
         refine wpOp_step ho2 (fun K hK => ?_)
         obtain ⟨r, hr, rfl⟩ := k.f3 (hd ⟨3, .data⟩ (by simp) rfl)
         have hin : Fm.inR64 ((r : Int) - 9) := by unfold Fm.inR64; omega
         have hwr := wrap_in hin
         go_simp
         exact hK _ _ ⟨_, _, _, _, _, _, _, _, rfl, ⟨k.wf, k.f0, k.f1, k.f2, k.f3, fun _ => ⟨_, hin, rfl⟩, k.f5, k.f6, k.f7, k.f8, fun h => up_or (k.c1_0 h), fun h => up_or (k.c3_2 h), fun _ => up_or (hd ⟨3, .data⟩ (by simp) rfl), fun h => up_or (k.c5_4 h), fun h => up_or (k.c6_1 h), fun h => up_or (k.c6_5 h), fun h => up_or (k.c8_6 h), fun h => up_or (k.c8_7 h)⟩⟩
        | 5, _, ho, hL =>
         have ho2 := ho
         simp only [qz1, qz2, qz3, qz4] at ho
         subst ho
         refine wpOp_step ho2 (fun K hK => ?_)
         have h6 : L 6 = false := by
          cases h : L 6 with
          | false => rfl
          | true => exact absurd (hL.symm.trans (k.c6_5 h)) (by decide)
         obtain ⟨r, hin, rfl⟩ := k.f4 (hd ⟨4, .data⟩ (by simp) rfl)
         have hb : Below w.heap.size w (w.alloc (.cells #[.int .i64 r] 3)) := (Below.refl _ _).alloc (Nat.le_refl _) _
         have hbx := Bx.new w [.int .i64 r] 3
         have hwz := (k.wf.2 h6).size
         have hne : w.heap.size ≠ nS := by omega
         go_simp
         replace k := k.keep h6 (grown_of_below hb) (k.wf.1.keep hb (by omega))
         exact hK _ _ ⟨_, _, _, _, _, _, _, _, rfl, ⟨k.wf, k.f0, k.f1, k.f2, k.f3, k.f4, fun _ _ => ⟨r, w.heap.size, hin, rfl, hbx, hne⟩, k.f6, k.f7, k.f8, fun h => up_or (k.c1_0 h), fun h => up_or (k.c3_2 h), fun h => up_or (k.c4_3 h), fun _ => up_or (hd ⟨4, .data⟩ (by simp) rfl), fun h => up_or (k.c6_1 h), fun h => up_or (k.c6_5 h), fun h => up_or (k.c8_6 h), fun h => up_or (k.c8_7 h)⟩⟩
        | 6, _, ho, hL =>
         have ho2 := ho
         simp only [qz1, qz2, qz3, qz4] at ho
         subst ho
         refine wpOp_step ho2 (fun K hK => ?_)
         obtain rfl := k.f1 (hd ⟨1, .data⟩ (by simp) rfl)
         obtain ⟨r, g4, hin, rfl, hbx, hgs⟩ := k.f5 (hd ⟨5, .data⟩ (by simp) rfl) hL
         have hg := k.wf.2 hL
         have hO2 := own_blk (W' := w) HO.out fun g _ hl hb => hg.block g hl (by intro e; injection e with e; omega)
         have hlx : W11.heap.size ≤ w.heap.size := Nat.le_trans hzg hg.size
         obtain ⟨i0, hi0, hz0, hz1, hz2⟩ := info_parts info3
         refine step_append_lies _ rfl (.tmp 54) (.tmp 58) 22 rfl (W11.heap.size) 3 i0 (.int .i64 0) 1 8 under26 hi0 hz0 hz1 hz2 rfl (by decide) _ st.length (pflat st) (by simp [Act.eval]) hO2 ⟨g4, 0, none⟩ 1 1 [.int .i64 r] (by simp [Act.eval]) rfl (World.news_of_block hbx.h) (by intro u hu; simp at hu; subst hu; rfl) (by decide) (by unfold maxLen; omega) (by omega) hlx _ rfl ?_
         intro gN cN X hown hgrow hat hltN
         have hbn1 : Below (W11.heap.size) w X := grown_below hO2 hgrow hlx
         have hbX : Bx X n8 [.slice oL ns.length cL, _] 92 := (HX14.out.grown hg h8S).low hbn1 (by omega)
         exact hK _ _ ⟨_, _, _, _, _, _, _, _, rfl, ⟨⟨k.wf.1.keepA hbn1 (by omega) hS8, nofun⟩, k.f0, k.f1, k.f2, k.f3, k.f4, fun _ => nofun, fun _ => ⟨r, hin, by rw [pflat_app]; exact hown, (Fr3.grown hg hzg).trans (Fr3.low hbn1), fun _ => hbX⟩, k.f7, fun h => absurd (hL.symm.trans (k.c8_6 h)) (by decide), fun h => up_or (k.c1_0 h), fun h => up_or (k.c3_2 h), fun h => up_or (k.c4_3 h), fun h => up_or (k.c5_4 h), fun _ => up_or (hd ⟨1, .data⟩ (by simp) rfl), fun _ => up_or (hd ⟨5, .data⟩ (by simp) rfl), fun h => up_or (k.c8_6 h), fun h => up_or (k.c8_7 h)⟩⟩
        | 7, _, ho, hL =>
         have ho2 := ho
         simp only [qz1, qz2, qz3, qz4] at ho
         subst ho
         refine wpOp_step ho2 (fun K hK => ?_)
         go_simp
         exact hK _ _ ⟨_, _, _, _, _, _, _, _, rfl, ⟨k.wf, k.f0, k.f1, k.f2, k.f3, k.f4, k.f5, k.f6, fun _ => rfl, k.f8, fun h => up_or (k.c1_0 h), fun h => up_or (k.c3_2 h), fun h => up_or (k.c4_3 h), fun h => up_or (k.c5_4 h), fun h => up_or (k.c6_1 h), fun h => up_or (k.c6_5 h), fun h => up_or (k.c8_6 h), fun h => up_or (k.c8_7 h)⟩⟩
        | 8, _, ho, hL =>
         have ho2 := ho
         simp only [qz1, qz2, qz3, qz4] at ho
         subst ho
         refine wpOp_step ho2 (fun K hK => ?_)
         obtain rfl := k.f7 (hd ⟨7, .data⟩ (by simp) rfl)
         have h15 := hd ⟨6, .data⟩ (by simp) rfl
         obtain ⟨r, hin, hr15, hF, hx15⟩ := k.f6 h15
         have hbx := hx15 hL
         have bl := hbx.lt
         have bf := hbx.f 1
         have bc := hbx.c 1 _ rfl
         obtain ⟨o46, c46, rfl⟩ := own_sl hr15
         have hpp := hbx.putAt 1 (.slice o46 (st.length + 1) c46)
         go_simp
         exact hK _ _ ⟨_, _, _, _, _, _, _, _, rfl, ⟨⟨k.wf.1.put n8 1 _ (by omega) h8S, fun h => absurd (h15.symm.trans h) (by decide)⟩, k.f0, k.f1, k.f2, k.f3, k.f4, fun _ h => absurd (h15.symm.trans h) (by decide), fun _ => ⟨r, hin, own_blk hr15 fun g _ _ hb => Below.heap_setCell w ⟨n8, 1, none⟩ _ g (by show g ≠ n8; omega), hF.trans (Fr3.set w 1 _), nofun⟩, k.f7, fun _ => hpp, fun h => up_or (k.c1_0 h), fun h => up_or (k.c3_2 h), fun h => up_or (k.c4_3 h), fun h => up_or (k.c5_4 h), fun h => up_or (k.c6_1 h), fun h => up_or (k.c6_5 h), fun _ => up_or (hd ⟨6, .data⟩ (by simp) rfl), fun _ => up_or (hd ⟨7, .data⟩ (by simp) rfl)⟩⟩
        | n + 9, h, _, _ => omega
       ·intro L a w hL hJ
        obtain ⟨v53, v54, v55, v56, v57, v58, v59, v60, rfl, k⟩ := hJ
        obtain ⟨r, hr, hr15, hF9, -⟩ := k.f6 (hL 6 (by decide))
        have hx17 := k.f8 (hL 8 (by decide))
        have hs9 := k.wf.1
        obtain rfl := k.f0 (hL 0 (by decide))
        obtain rfl := k.f2 (hL 2 (by decide))
        obtain rfl := k.f7 (hL 7 (by decide))
        dsimp only
        have HRY := Lib.hid hr15
        have HXY := Lib.hid hx17
        have HSY := Lib.hid hs9
        have HFY := Lib.hid (HFg.out.trans hF9)
        clear hr15 hx17 hs9 hF9 k hL
        have hwr : IntKind.i64.wrap ((m : Int) - 1) = (((m - 1 : Nat)) : Int) := by rw [IntWalk.i64_in _ (by omega)]; omega
        go_wp2_with fail
        go_roundw
        case rel => exact ⟨m - 1, st ++ [r], _, by first | rfl | simp, by rw [List.length_append, List.length_cons, List.length_nil]; omega, fun v hv => (List.mem_append.1 hv).elim (HIN2.out v) (fun h => by rw [List.mem_singleton] at h; subst h; exact hr), HXY.out, by rw [List.length_append, List.length_cons, List.length_nil]; exact HRY.out, HSY.out, HFY.out⟩
        case measure => simp [intOf]; omega
      ·have hm0 : m = 0 := by omega
       subst hm0
       have hNV2 := NumV.mk (lo' := W11.heap.size) rfl HO.out (Nat.le_refl _)
       obtain ⟨oS, cS, rfl⟩ := own_sl HO.out
       have hsl : st.length ≤ 3 := by omega
       have hw8 := HN8.out
       have hLV : New (n8 + 1) Wg (NumV (.slice oL ns.length cL) ns) := fun Y hY => HLV11.out Y fun j hj => by
        rw [hY j ⟨hj.1, Nat.lt_of_lt_of_le hj.2 hzg⟩]
        exact HFg.out.block j hj.2 (by have := hj.1; omega) (by have := hj.1; omega)
       have hmk : MkProf ⟨ns, st⟩ := ⟨hll, hsl, HINL.out, HIN2.out⟩
       have HD : Hid (New Wr.heap.size Wg (fun Y => ProfAt Y [.slice oL ns.length cL, .slice oS st.length cS] ⟨ns, st⟩)) := Lib.hid (fun Y hY => by
        obtain ⟨a1, a2, e1, -, h1⟩ := hLV Y fun j hj => hY j ⟨by have := hj.1; omega, hj.2⟩
        obtain ⟨a3, a4, e2, -, h2⟩ := hNV2 Y fun j hj => hY j ⟨by have := hj.1; omega, hj.2⟩
        injection e1 with e1 _ e1'
        injection e2 with e2 _ e2'
        exact ⟨oL, cL, oS, cS, rfl, by rw [e1]; exact h1, by rw [e2]; exact h2⟩)
       have HMN := Lib.hid hmk
       -- the frame from Wr
       have hG : Wr.grownBy Wg (some nS) := HFg.out.back HG11.out (by omega) (by omega)
       have HGb := Lib.hid hG
       have hX6 := HXr.out.grown hG (by omega)
       obtain ⟨rows, hV0⟩ := HRowr.out.ex
       have hAg := grown_ag hG W7.heap.size (by omega)
       have hVl := hV0.len
       have hrl : rows.length = k := by have := HFL.out; omega
       have hb2 : Below Wg.heap.size Wg (Wg.alloc (.cells #[.slice oL ns.length cL, .slice oS st.length cS] 92)) := (Below.refl _ _).alloc (Nat.le_refl _) _
       have HV2 := Lib.hid ((hV0.keep hAg).keep (AgI.of hb2))
       have HV0 := Lib.hid hV0
       have HAG := Lib.hid hAg
       have HB2 := Lib.hid hb2
       have hsz : W7.heap.size ≤ (Wg.alloc (.cells #[.slice oL ns.length cL, .slice oS st.length cS] 92)).heap.size := by have := hb2.size; omega
       have HX68 := Lib.hid hX6
       have c6 := hX6.c 6 _ rfl
       have cl := hX6.lt
       have z0 := HX14.out.c 0 _ rfl
       have z1 := HX14.out.c 1 _ rfl
       have zl := HX14.out.lt
       have hwl : W7.heap.size ≤ Wg.heap.size := by omega
       obtain ⟨i0, hi, hz0, hz1, hz2⟩ := info_parts info44
       clear hmk hLV hNV2 hX6 hV0 hAg hb2 hVl HO hgt2 hG hpl hw8
       go_wp2_with (at_builtin; refine wpList_append_own_at _ rfl _ _ 41 rfl W7.heap.size 92 i0 (.agg #[.slice none 0 0, .slice none 0 0]) 2 48 under39 hi hz0 hz1 hz2 rfl (by decide) _ _ _ rfl HV2.out.own ⟨Wg.heap.size, 0, none⟩ 1 1 [.slice oL ns.length cL, .slice oS st.length cS] rfl rfl ?c1 ?c2 ?c3 ?c4 ?c5 ?_)
       case c1 => exact new_cells _ _ _
       case c2 => intro u hu; simp at hu; rcases hu with rfl | rfl <;> rfl
       case c3 => unfold maxLen; omega
       case c4 => omega
       case c5 => exact hsz
       intro v' w' hown' hgrow _ hat
       obtain ⟨o9, c9, rfl⟩ := own_sl hown'
       have hrow := HV0.out.app HAG.out HD.out rfl HB2.out (by rw [hrl]; exact hown') hgrow (by simpa using hat) (by have := HN8.out; omega)
       have hbw : Below W7.heap.size Wg w' := (HB2.out.mono hwl).trans (grown_below HV2.out.own hgrow hsz)
       have hX6 := HX68.out.low hbw (by omega)
       have hf := hX6.f 6
       have hc6 := hX6.c 6 _ rfl
       have hlt6 := hX6.lt
       have HX69 := Lib.hid (hX6.putAt 6 (.slice o9 (k + 1) c9))
       have HS9 := Lib.hid ((HSg.out.keepA hbw (by omega) (by omega)).put n6 6 (.slice o9 (k + 1) c9) (by omega) (by omega))
       have HRow9 := Lib.hid (hrow.keep (AgI.set (lo := W7.heap.size) w' (n := n6) (i := 6) (.slice o9 (k + 1) c9) (by omega)))
       have HF9 : Hid (Fr3 W7.heap.size nS n6 W7 (w'.setCell ⟨n6, 6, none⟩ (.slice o9 (k + 1) c9))) := Lib.hid (((HFr.out.trans (Fr3.grown HGb.out (by have := HN8.out; omega))).trans (Fr3.low hbw)).trans (Fr3.set w' 6 _))
       clear hown' hgrow hat hrow hbw HV0 HAG HD HB2 HV2 hi hz0 hz1 hz2 c6 cl z0 z1 zl hsz HX68 hX6
       go_wp2_with fail
       go_roundw
       case rel => exact ⟨k + 1, fs ++ [⟨ns, st⟩], _, by omega, by simp, by rw [List.length_append, List.length_cons, List.length_nil, HFL.out], fun u hu => (List.mem_append.1 hu).elim (HMK.out u) (fun h => by rw [List.mem_singleton] at h; subst h; exact HMN.out), HX69.out, HRow9.out, HS9.out, HF9.out⟩
       case measure => simp [intOf]; omega
  ·have hke : k = p.edges.length := by omega
   have hd : decide ((k : Int) < (p.edges.length : Int)) = false := decide_eq_false (by omega)
   go_upto_region 16 with fail
   clear hd c1
   obtain ⟨oF, nF, rfl, hE, -, -⟩ := HRowr.out.done
   have hfl := HFL.out
   have hmk : MkTraj ⟨gr, (nx, ny, nz), p, fs⟩ := ⟨HMP.out, fun a ha => by
    simp [Fm.vecL] at ha
    rcases ha with rfl | rfl | rfl | rfl
    ·exact HGR.out
    ·exact HHD.out.1
    ·exact HHD.out.2.1
    ·exact HHD.out.2.2, by show fs.length ≤ 3; omega, HMK.out, by show fs.length = p.edges.length; omega⟩
   have hz7 := HZ7.out
   have hX4 : Bx Wr n4 [.slice none 0 0, .slice none 0 0, .int .i64 0, .int .i64 0, .int .i64 0, .int .i64 0, .slice none 0 0] 43 := ⟨(HFr.out.block n4 (by omega) (by omega) (by omega)).trans HX47.out.h⟩
   have hlk := set7_blk Wr n4 (.slice op p.pts.length np) (.slice oe p.edges.length ne) (.int .i64 nx) (.int .i64 ny) (.int .i64 nz) (.int .i64 gr) (.slice oF fs.length nF)
   have hTA : TrajAt (set7 Wr n4 (.slice op p.pts.length np) (.slice oe p.edges.length ne) (.int .i64 nx) (.int .i64 ny) (.int .i64 nz) (.int .i64 gr) (.slice oF fs.length nF)) (.agg #[.slice op p.pts.length np, .slice oe p.edges.length ne, .int .i64 nx, .int .i64 ny, .int .i64 nz, .int .i64 gr, .slice oF fs.length nF]) ⟨gr, (nx, ny, nz), p, fs⟩ := by
    obtain ⟨a1, a2, a3, a4, e, h1, h2⟩ := HNP.out (set7 Wr n4 (.slice op p.pts.length np) (.slice oe p.edges.length ne) (.int .i64 nx) (.int .i64 ny) (.int .i64 nz) (.int .i64 gr) (.slice oF fs.length nF)) fun j hj => by
     have h1 := hj.1; have h2 := hj.2; have h3 := HSZ.out
     rw [hlk j (by omega), HFr.out.block j (by omega) (by omega) (by omega)]
     exact HG7.out.block j h2 (by intro e; injection e with e; omega)
    injection e with e
    have e2 := congrArg (fun x => x[0]?) e
    have e3 := congrArg (fun x => x[1]?) e
    simp at e2 e3
    exact TrajV.at ⟨a1, a2, a3, a4, oF, nF, by simp [e2, e3], h1, h2, hE _ fun j hj => hlk j (by have := hj.1; omega)⟩
   have hB7 : Below n4 w Wr := by
    refine HB2.out.trans ⟨HFr.out.os.trans HG7.out.os, HFr.out.tape.trans HG7.out.tape, HFr.out.output.trans HG7.out.output, Nat.le_trans HG7.out.size HFr.out.size, fun j hj => ?_⟩
    rw [HFr.out.block j (by omega) (by omega) (by omega)]
    exact HG7.out.block j (by have := HSZ2.out; omega) (by intro e; injection e with e; omega)
   have HBF := Lib.hid (hB7.trans (set7_below Wr n4 n4 (Nat.le_refl _) (.slice op p.pts.length np) (.slice oe p.edges.length ne) (.int .i64 nx) (.int .i64 ny) (.int .i64 nz) (.int .i64 gr) (.slice oF fs.length nF)))
   have HXF := Lib.hid (st7 hX4 (.slice op p.pts.length np) (.slice oe p.edges.length ne) (.int .i64 nx) (.int .i64 ny) (.int .i64 nz) (.int .i64 gr) (.slice oF fs.length nF))
   have HTA := Lib.hid hTA
   have HMT := Lib.hid hmk
   have hXr := HXr.out
   have c0 := hXr.c 0 _ rfl
   have c1 := hXr.c 1 _ rfl
   have c2 := hXr.c 2 _ rfl
   have c3 := hXr.c 3 _ rfl
   have c4 := hXr.c 4 _ rfl
   have c5 := hXr.c 5 _ rfl
   have c6 := hXr.c 6 _ rfl
   have l4 := hX4.lt
   obtain ⟨y0, z0, y1, z1, y2, z2, y3, z3, y4, z4, y5, z5, y6, z6⟩ := facts7 hX4 (.slice op p.pts.length np) (.slice oe p.edges.length ne) (.int .i64 nx) (.int .i64 ny) (.int .i64 nz) (.int .i64 gr)
   unfold set7 at HBF HXF HTA
   clear hE hmk hX4 hB7 hlt hTA hlk hXr hz7 hfl hke
   go_wp2
   clear y0 z0 y1 z1 y2 z2 y3 z3 y4 z4 y5 z5 y6 z6 l4 c0 c1 c2 c3 c4 c5 c6 cl7
   generalize ((((((Wr.setCell ⟨n4, 0, none⟩ (.slice op p.pts.length np)).setCell ⟨n4, 1, none⟩ (.slice oe p.edges.length ne)).setCell ⟨n4, 2, none⟩ (.int .i64 nx)).setCell ⟨n4, 3, none⟩ (.int .i64 ny)).setCell ⟨n4, 4, none⟩ (.int .i64 nz)).setCell ⟨n4, 5, none⟩ (.int .i64 gr)).setCell ⟨n4, 6, none⟩ (.slice oF fs.length nF) = W9 at HXF HBF HTA ⊢
   have c0 := HXF.out.c 0 _ rfl
   have c1 := HXF.out.c 1 _ rfl
   have c2 := HXF.out.c 2 _ rfl
   have c3 := HXF.out.c 3 _ rfl
   have c4 := HXF.out.c 4 _ rfl
   have c5 := HXF.out.c 5 _ rfl
   have c6 := HXF.out.c 6 _ rfl
   have cl := HXF.out.lt
   refine bodyPost_ret (v := .agg #[.slice op p.pts.length np, .slice oe p.edges.length ne, .int .i64 nx, .int .i64 ny, .int .i64 nz, .int .i64 gr, .slice oF fs.length nF]) (by simp [results, Tryz.results12, go_sem, c0, c1, c2, c3, c4, c5, c6]) rfl ?_
   exact ⟨_, _, rfl, HTA.out, HMT.out, by have := HBF.out; rw [HN4.out] at this; exact this⟩
end Go.Proofs.Ng
end

section
/-
 Walks: verdicts and boxes that are made.
-/
namespace Go.Proofs.Ng
open Go.RowKit
/-- A verdict that is made. -/
structure MkVd (u : Fm.VerdD) : Prop where
 form : Fm.formB u = true
 pair : u.pair = 0
 nn : u.normals.length ≤ 1
 nl : u.left.length ≤ 1
 nr : u.right.length ≤ 1
 rn : ∀ v ∈ u.normals, ∀ n ∈ Fm.vecL v, Fm.inR64 n
 rl : ∀ n ∈ u.left, Fm.inR64 n
 rr : ∀ n ∈ u.right, Fm.inR64 n
 rk : 0 ≤ u.kind ∧ u.kind ≤ 2
 kd : u.kind = 2 → u.left.length = 1 ∧ u.right.length = 1
def LabP (w : World) (e : Ending) (W : World) : Prop := ∃ (u : Fm.VerdD) (on ol orr : Option Addr) (cn cl cr : Nat), e = .returned (.agg #[.int .i64 u.kind, .slice on u.normals.length cn, .int .i64 u.pair, .slice ol u.left.length cl, .slice orr u.right.length cr]) ∧ MkVd u ∧ New w.heap.size W (fun X => VerdAt X u on ol orr) ∧ Below w.heap.size w W
theorem verd_nil (X : World) : VerdAt X Fm.zeroV none none none := ⟨fun h => absurd rfl h, fun h => absurd rfl h, fun h => absurd rfl h⟩
theorem bx_sl {W : World} {g : Nat} {cs : List Value} {ty : TypeId} (h : Bx W g cs ty) : Sl W (some ⟨g, 0, none⟩) cs.length [cs] := fun _ => ⟨g, 0, rfl, h.lt, fun i r hr k v hv => by
 cases i with
 | zero =>
  rw [List.getElem?_cons_zero] at hr
  injection hr with hr
  subst hr
  rw [show 0 + (0 * cs.length + k) = k by omega]
  exact h.c k v hv
 | succ i => simp at hr⟩
theorem one64 : ∀ n ∈ ([1] : List Int), Fm.inR64 n := by
 intro n hn
 rw [List.mem_singleton] at hn
 subst hn
 unfold Fm.inR64
 omega
theorem vec64 : ∀ v ∈ ([(1, 0, 0)] : List (Int × Int × Int)), ∀ n ∈ Fm.vecL v, Fm.inR64 n := by
 intro v hv n hn
 rw [List.mem_singleton] at hv
 subst hv
 simp [Fm.vecL] at hn
 unfold Fm.inR64
 omega
set_option maxRecDepth 100000 in
set_option maxHeartbeats 4000000 in
theorem label66 (w : World) (r : Nat) (hr : (r : Int) < 5) : Calls Tryz.prog 66 #[.int .i64 (r : Nat)] w (LabP w) := by
 have hb := (Below.refl w.heap.size w).alloc (Nat.le_refl _) (.cells #[.int .i64 0, .slice none 0 0, .int .i64 0, .slice none 0 0, .slice none 0 0] 83)
 have hx := Bx.new w [.int .i64 0, .slice none 0 0, .int .i64 0, .slice none 0 0, .slice none 0 0] 83
 have hcase : r = 0 ∨ r = 1 ∨ r = 2 ∨ r = 3 ∨ r = 4 := by omega
 rcases hcase with rfl | rfl | rfl | rfl | rfl
 ·go_enter Tryz.func66, Tryz.ntmps66
  go_wp2_with fail
  have c0 := hx.c 0 _ rfl
  have c1 := hx.c 1 _ rfl
  have c2 := hx.c 2 _ rfl
  have c3 := hx.c 3 _ rfl
  have c4 := hx.c 4 _ rfl
  refine bodyPost_ret (v := .agg #[.int .i64 0, .slice none 0 0, .int .i64 0, .slice none 0 0, .slice none 0 0]) (by simp [results, Tryz.results66, go_sem, c0, c1, c2, c3, c4]) rfl ?_
  exact ⟨Fm.zeroV, none, none, none, 0, 0, 0, rfl, ⟨by decide, rfl, by decide, by decide, by decide, nofun, nofun, nofun, by decide, by decide⟩, fun X _ => verd_nil X, hb⟩
 ·go_enter Tryz.func66, Tryz.ntmps66
  go_wp2_with fail
  obtain ⟨p, q, s, e1, e2, e3, x1, x2, x3, hb3⟩ := news3 w [.int .i64 2, .slice none 0 0, .int .i64 0, .slice (some ⟨w.heap.size + 1, 0, none⟩) 1 1, .slice (some ⟨w.heap.size + 1 + 1, 0, none⟩) 1 1] [.int .i64 1] [.int .i64 1] 83 2 2
  subst e1 e2 e3
  have c0 := x1.c 0 _ rfl
  have c1 := x1.c 1 _ rfl
  have c2 := x1.c 2 _ rfl
  have c3 := x1.c 3 _ rfl
  have c4 := x1.c 4 _ rfl
  refine bodyPost_ret (v := .agg #[.int .i64 2, .slice none 0 0, .int .i64 0, .slice (some ⟨w.heap.size + 1, 0, none⟩) 1 1, .slice (some ⟨w.heap.size + 1 + 1, 0, none⟩) 1 1]) (by simp [results, Tryz.results66, go_sem, c0, c1, c2, c3, c4]) rfl ?_
  exact ⟨⟨2, [], 0, [1], [1]⟩, none, _, _, 0, 1, 1, rfl, ⟨by decide, rfl, by decide, by decide, by decide, nofun, one64, one64, by decide, fun _ => ⟨rfl, rfl⟩⟩, fun X hX => ⟨fun h => absurd rfl h, bx_sl ⟨(hX _ ⟨by omega, x2.lt⟩).trans x2.h⟩, bx_sl ⟨(hX _ ⟨by omega, x3.lt⟩).trans x3.h⟩⟩, hb3⟩
 ·go_enter Tryz.func66, Tryz.ntmps66
  go_wp2_with fail
  obtain ⟨p, q, s, e1, e2, e3, x1, x2, x3, hb3⟩ := news3 w [.int .i64 2, .slice none 0 0, .int .i64 0, .slice (some ⟨w.heap.size + 1, 0, none⟩) 1 1, .slice (some ⟨w.heap.size + 1 + 1, 0, none⟩) 1 1] [.int .i64 1] [.int .i64 1] 83 2 2
  subst e1 e2 e3
  have c0 := x1.c 0 _ rfl
  have c1 := x1.c 1 _ rfl
  have c2 := x1.c 2 _ rfl
  have c3 := x1.c 3 _ rfl
  have c4 := x1.c 4 _ rfl
  refine bodyPost_ret (v := .agg #[.int .i64 2, .slice none 0 0, .int .i64 0, .slice (some ⟨w.heap.size + 1, 0, none⟩) 1 1, .slice (some ⟨w.heap.size + 1 + 1, 0, none⟩) 1 1]) (by simp [results, Tryz.results66, go_sem, c0, c1, c2, c3, c4]) rfl ?_
  exact ⟨⟨2, [], 0, [1], [1]⟩, none, _, _, 0, 1, 1, rfl, ⟨by decide, rfl, by decide, by decide, by decide, nofun, one64, one64, by decide, fun _ => ⟨rfl, rfl⟩⟩, fun X hX => ⟨fun h => absurd rfl h, bx_sl ⟨(hX _ ⟨by omega, x2.lt⟩).trans x2.h⟩, bx_sl ⟨(hX _ ⟨by omega, x3.lt⟩).trans x3.h⟩⟩, hb3⟩
 ·go_enter Tryz.func66, Tryz.ntmps66
  go_wp2_with fail
  obtain ⟨p, q, e1, e2, x1, x2, hb3⟩ := news2 w [.int .i64 1, .slice (some ⟨w.heap.size + 1, 0, none⟩) 1 1, .int .i64 0, .slice none 0 0, .slice none 0 0] [.int .i64 1, .int .i64 0, .int .i64 0] 83 40
  subst e1 e2
  have c0 := x1.c 0 _ rfl
  have c1 := x1.c 1 _ rfl
  have c2 := x1.c 2 _ rfl
  have c3 := x1.c 3 _ rfl
  have c4 := x1.c 4 _ rfl
  refine bodyPost_ret (v := .agg #[.int .i64 1, .slice (some ⟨w.heap.size + 1, 0, none⟩) 1 1, .int .i64 0, .slice none 0 0, .slice none 0 0]) (by simp [results, Tryz.results66, go_sem, c0, c1, c2, c3, c4]) rfl ?_
  exact ⟨⟨1, [(1, 0, 0)], 0, [], []⟩, _, none, none, 1, 0, 0, rfl, ⟨by decide, rfl, by decide, by decide, by decide, vec64, nofun, nofun, by decide, by decide⟩, fun X hX => ⟨bx_sl ⟨(hX _ ⟨by omega, x2.lt⟩).trans x2.h⟩, fun h => absurd rfl h, fun h => absurd rfl h⟩, hb3⟩
 ·go_enter Tryz.func66, Tryz.ntmps66
  go_wp2_with fail
  have c0 := hx.c 0 _ rfl
  have c1 := hx.c 1 _ rfl
  have c2 := hx.c 2 _ rfl
  have c3 := hx.c 3 _ rfl
  have c4 := hx.c 4 _ rfl
  refine bodyPost_ret (v := .agg #[.int .i64 0, .slice none 0 0, .int .i64 0, .slice none 0 0, .slice none 0 0]) (by simp [results, Tryz.results66, go_sem, c0, c1, c2, c3, c4]) rfl ?_
  exact ⟨Fm.zeroV, none, none, none, 0, 0, 0, rfl, ⟨by decide, rfl, by decide, by decide, by decide, nofun, nofun, nofun, by decide, by decide⟩, fun X _ => verd_nil X, hb⟩
end Go.Proofs.Ng
end

