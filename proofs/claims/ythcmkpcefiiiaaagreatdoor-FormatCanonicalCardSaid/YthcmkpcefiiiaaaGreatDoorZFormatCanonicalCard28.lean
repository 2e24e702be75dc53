/-
  Texts put together: Tu.
-/
import Derived.Test.YthcmkpcefiiiaaaGreatDoorZFormatCanonicalCard27
set_option linter.unusedVariables false
/-
 Walks: the reader's tree. Printed by gen_tu.py.
-/
namespace Go.Proofs.Ng
open Go.RowKit
/-- An interval's row. -/
def IvD : Dat (Int × Int) := fun _ r a => r = iv2 a
theorem ivs_of {W : World} {o : Option Addr} {l : List (Int × Int)} (h : Rws IvD 2 W o l) : Sl W o 2 (ivs l) := by
 obtain ⟨rows, h1, h2, h3⟩ := h.ex
 have e : rows = ivs l := by
  apply List.ext_getElem
  ·simp [ivs, h1]
  ·intro k hk hk2
   have hk3 : k < l.length := by rw [← h1]; exact hk
   have := h3 k rows[k] l[k] (List.getElem?_eq_getElem hk) (List.getElem?_eq_getElem hk3)
   rw [this]
   simp [ivs]
 rw [← e]
 exact h2
/-- A tree's value. -/
def TreV (v : Value) (t : Fm.TreeD) (W : World) : Prop := ∃ or cr oc cc, v = .agg #[.slice or t.root.length cr, .slice oc t.cells.length cc] ∧ Sl W or 2 (ivs t.root) ∧ Rws CellAt 8 W oc t.cells
theorem TreV.at {W : World} {v : Value} {t : Fm.TreeD} (h : TreV v t W) : TreeAt W v t := by
 obtain ⟨or, cr, oc, cc, rfl, h1, h2⟩ := h
 exact ⟨or, cr, oc, cc, rfl, h1, ⟨h2.ex⟩⟩
structure Tz3K (b n2 n3 g off cap : Nat) (na nb : Int) (W2 : World) (L : Nat → Bool) (v11 v12 v13 v14 v15 v16 v17 v18 v5 v6 : Value) (w : World) : Prop where
 wf : Below W2.heap.size W2 w
 f0 : L 0 = true → v11 = .slice (some ⟨g, off, none⟩) 2 cap
 f1 : L 1 = true → v12 = .pointer (some ⟨g, off, none⟩)
 f2 : L 2 = true → v13 = .int .i64 na
 f3 : L 3 = true → Fm.cntOk na = true ∧ v14 = .int .i64 na
 f4 : L 4 = true → v15 = .slice (some ⟨g, off, none⟩) 2 cap
 f5 : L 5 = true → v16 = .pointer (some ⟨g, off + 1, none⟩)
 f6 : L 6 = true → v17 = .int .i64 nb
 f7 : L 7 = true → Fm.cntOk nb = true ∧ v18 = .int .i64 nb
 f8 : L 8 = true → v5 = .int .i64 na
 f9 : L 9 = true → v6 = .int .i64 nb
structure Tz8K (b n3 B a0 k1 ge oeo ce : Nat) (x y : Int) (v : Value) (rs : List (Int × Int)) (W5 : World) (L : Nat → Bool) (v27 v28 v29 v30 v31 v32 v33 v34 v35 v36 v37 v38 v39 v40 v41 v42 v43 : Value) (w : World) : Prop where
 wf : Fr3 B n3 n3 W5 w ∧ (L 17 = false → Bx w n3 [v, .slice none 0 0] 36) ∧ (L 15 = false → RowO IvD 79 2 B w v rs) ∧ B ≤ w.heap.size
 f0 : L 0 = true → v27 = .pointer (some ⟨n3, 0, none⟩)
 f1 : L 1 = true → v28 = v
 f2 : L 2 = true → v29 = .slice (some ⟨ge, oeo, none⟩) (2 * a0) ce
 f3 : L 3 = true → v30 = .int .i64 ((k1 : Nat) : Int)
 f4 : L 4 = true → v31 = .int .i64 (2 * ((k1 : Nat) : Int))
 f5 : L 5 = true → v32 = .pointer (some ⟨ge, oeo + 2 * k1, none⟩)
 f6 : L 6 = true → v33 = .int .i64 x
 f7 : L 7 = true → v34 = .slice (some ⟨ge, oeo, none⟩) (2 * a0) ce
 f8 : L 8 = true → v35 = .int .i64 ((k1 : Nat) : Int)
 f9 : L 9 = true → v36 = .int .i64 (2 * ((k1 : Nat) : Int))
 f10 : L 10 = true → v37 = .int .i64 (2 * ((k1 : Nat) : Int) + 1)
 f11 : L 11 = true → v38 = .pointer (some ⟨ge, oeo + (2 * k1 + 1), none⟩)
 f12 : L 12 = true → v39 = .int .i64 y
 f13 : L 13 = true → v40 = .agg #[.int .i64 x, .int .i64 y]
 f14 : L 14 = true → ∃ q, v41 = .slice (some ⟨q, 0, none⟩) 1 1 ∧ (L 15 = false → Bx w q [.int .i64 x, .int .i64 y] 79)
 f15 : L 15 = true → L 14 = true ∧ L 1 = true ∧ ∃ g c, v42 = .slice (some ⟨g, 0, none⟩) (rs.length + 1) c ∧ RowO IvD 79 2 B w v42 (rs ++ [(x, y)])
 f16 : L 16 = true → v43 = .pointer (some ⟨n3, 0, none⟩)
 f17 : L 17 = true → L 15 = true ∧ L 1 = true ∧ Bx w n3 [v42, .slice none 0 0] 36
/-- What has stayed, and how great the memory is. -/
structure Fs3 (lo b n : Nat) (W X : World) : Prop where
 fr : Fr3 lo b n W X
 size : lo ≤ X.heap.size
theorem Fs3.grown {lo b n : Nat} {W X Y : World} (h : Fs3 lo b n W X) (hg : X.grownBy Y (some b)) : Fs3 lo b n W Y := ⟨h.fr.trans (Fr3.grown hg h.size), Nat.le_trans h.size hg.size⟩
theorem Fs3.alloc {lo b n : Nat} {W X Y : World} (h : Fs3 lo b n W X) (hb : Below X.heap.size X Y) : Fs3 lo b n W Y := ⟨h.fr.trans (Fr3.low (hb.mono h.size)), Nat.le_trans h.size hb.size⟩
theorem Fs3.low {lo b n : Nat} {W X Y : World} (h : Fs3 lo b n W X) (hb : Below lo X Y) : Fs3 lo b n W Y := ⟨h.fr.trans (Fr3.low hb), Nat.le_trans h.size hb.size⟩
theorem Fs3.set {lo b n : Nat} {W X : World} (h : Fs3 lo b n W X) (i : Nat) (v : Value) : Fs3 lo b n W (X.setCell ⟨n, i, none⟩ v) := ⟨h.fr.trans (Fr3.set X i v), by simp [World.setCell]; exact h.size⟩
theorem LibW.lowB {W X : World} {lo : Nat} (h : LibW W) (hb : Below lo W X) (h8 : 8 ≤ lo) : LibW X := h.low (hb.mono h8)
theorem LibW.setB {W : World} {n i : Nat} (h : LibW W) (v : Value) (h8 : 8 ≤ n) : LibW (W.setCell ⟨n, i, none⟩ v) := h.low ((Below.refl _ _).setCell (p := ⟨n, i, none⟩) h8 v)
structure Tz12K (b n3 B2 k1 cr : Nat) (or : Option Addr) (q3 : List (List UInt8)) (tl : List UInt8) (v : Value) (cs : List Fm.CellD) (W6 : World) (L : Nat → Bool) (v48 v49 v50 v51 v52 v53 v54 : Value) (w : World) : Prop where
 wf : (L 3 = false → RdS w b q3 tl) ∧ LibW w ∧ (L 5 = false → W6.grownBy w (some b)) ∧ Fs3 B2 b n3 W6 w ∧ (L 7 = false → Bx w n3 [.slice or k1 cr, v] 36)
 f0 : L 0 = true → v48 = .pointer (some ⟨n3, 1, none⟩)
 f1 : L 1 = true → v49 = v
 f2 : L 2 = true → v50 = .pointer (some ⟨b, 0, none⟩)
 f3 : L 3 = true → ∃ (c : Fm.CellD) (q4 : List (List UInt8)) (on ol orr : Option Addr) (cn cl crr : Nat), Fm.rdCell q3 = some (c, q4) ∧ v51 = .agg #[.int .i64 c.joint, .int .i64 c.low, .int .i64 c.high, .int .i64 c.verd.kind, .slice on c.verd.normals.length cn, .int .i64 c.verd.pair, .slice ol c.verd.left.length cl, .slice orr c.verd.right.length crr] ∧ (L 5 = false → New W6.heap.size w (fun X => CellAt X [.int .i64 c.joint, .int .i64 c.low, .int .i64 c.high, .int .i64 c.verd.kind, .slice on c.verd.normals.length cn, .int .i64 c.verd.pair, .slice ol c.verd.left.length cl, .slice orr c.verd.right.length crr] c)) ∧ RdS w b q4 tl
 f4 : L 4 = true → L 3 = true ∧ ∃ q5, v52 = .slice (some ⟨q5, 0, none⟩) 1 1 ∧ (L 5 = false → ∃ c8 : List Value, v51 = .agg c8.toArray ∧ Bx w q5 c8 85)
 f5 : L 5 = true → L 4 = true ∧ L 1 = true ∧ ∃ (c : Fm.CellD) (q4 : List (List UInt8)) (g cc : Nat), Fm.rdCell q3 = some (c, q4) ∧ v53 = .slice (some ⟨g, 0, none⟩) (cs.length + 1) cc ∧ RowO CellAt 85 8 B2 w v53 (cs ++ [c]) ∧ RdS w b q4 tl
 f6 : L 6 = true → v54 = .pointer (some ⟨n3, 1, none⟩)
 f7 : L 7 = true → L 5 = true ∧ L 1 = true ∧ Bx w n3 [.slice or k1 cr, v53] 36
set_option maxRecDepth 100000 in
set_option maxHeartbeats 16000000 in
theorem tree44 (W : World) (b : Nat) (ls : List (List UInt8)) (tl : List UInt8) (h : RdS W b ls tl) (hL : LibW W) :
  Calls Tryz.prog 44 #[.pointer (some ⟨b, 0, none⟩)] W (RdP b tl TreV W (Fm.rdTree ls)) := by
 generalize hO : Fm.rdTree ls = o
 have HO := Lib.hid hO
 have h8 := h.lo
 have hlt0 := h.lt
 obtain ⟨n2, n3, e2, e3, hx2, hx3, hb1⟩ := news2 W [.slice none 0 0, .slice none 0 0] [.slice none 0 0, .slice none 0 0] 36 36
 have HL := Lib.hid (hL.keep hb1)
 have HB := Lib.hid hb1
 have HS := Lib.hid (h.keep hb1)
 have HX2 := Lib.hid hx2
 have HX3 := Lib.hid hx3
 have HNN : Hid (W.heap.size ≤ n2 ∧ n2 < n3 ∧ b < n2) := Lib.hid (by omega)
 go_enter Tryz.func44, Tryz.ntmps44
 go_upto_region 2 with fail
 rw [← e3, ← e2]
 generalize (W.alloc (.cells [.slice none 0 0, .slice none 0 0].toArray 36)).alloc (.cells [.slice none 0 0, .slice none 0 0].toArray 36) = W1 at HX2 HX3 HL HB HS ⊢
 clear hb1 h hL hO hx2 hx3 e2 e3 hlt0
 have HC := Lib.hid (exactly65 W1 b ⟨#[99, 117, 116]⟩ ls tl 2 HS.out HL.out)
 go_wp2_with fail
 refine HC.out.mono ?_
 rintro e W2 h1
 cases hq : Fm.rdN Fm.kwCut 2 ls with
 | none =>
  rw [show Fm.rdN (⟨#[99, 117, 116]⟩ : ByteArray).data.toList 2 ls = none from hq] at h1
  obtain ⟨rfl, hG⟩ := h1.no
  have HG := Lib.hid (grown_trans (grown_of_below HB.out) hG)
  have HOT := Lib.hid (HO.out.symm.trans (Fm.rdTree_no0 hq))
  clear h1 hG HC hq
  unfold malP
  go_wp2
  exact ⟨rfl, RdP.mkno HOT.out HG.out⟩
 | some p =>
  obtain ⟨ns, q⟩ := p
  obtain ⟨na, nb, rfl⟩ := Fm.rdN_two hq
  rw [show Fm.rdN (⟨#[99, 117, 116]⟩ : ByteArray).data.toList 2 ls = some ([na, nb], q) from hq] at h1
  obtain ⟨v, rfl, hN, hS, hG⟩ := h1.yes
  obtain ⟨g, off, cap, rfl, x0, x1, glt⟩ := two_at hN.now
  have HX0 := Lib.hid x0
  have HX1 := Lib.hid x1
  have HG := Lib.hid (grown_trans (grown_of_below HB.out) hG)
  have HQ := Lib.hid hq
  have HS2 := Lib.hid hS
  have HL2 := Lib.hid (HL.out.keepG hG h8)
  have HX22 := Lib.hid (HX2.out.grown hG (by have := HNN.out; omega))
  have HX32 := Lib.hid (HX3.out.grown hG (by have := HNN.out; omega))
  have HP : Hid (∀ X, Below W2.heap.size W2 X → (¬ Fm.cntOk na = true ∨ ¬ Fm.cntOk nb = true) → RdP b tl TreV W o malP X) := Lib.hid (fun X h hc => RdP.mkno (HO.out.symm.trans (Fm.rdTree_no1 HQ.out hc)) (grown_call HG.out h))
  clear h1 hN hS hG HC HX2 HX3 HL HB hq HS x0 x1
  go_upto_region 3 with fail
  refine wp_region_inv2 (by kernel_rfl) (by kernel_rfl) (fun L a w => ∃ v11 v12 v13 v14 v15 v16 v17 v18 v5 v6 : Value, a = { tmps := #[((Value.pointer (some ⟨b, 0, none⟩))), undef, ((Value.pointer (some ⟨n2, 0, none⟩))), ((Value.pointer (some ⟨n3, 0, none⟩))), ((Value.slice (some ⟨g, off, none⟩) 2 cap)), v5, v6, undef, undef, ((Value.pointer (some ⟨b, 0, none⟩))), ((Value.slice (some ⟨g, off, none⟩) 2 cap)), v11, v12, v13, v14, v15, v16, v17, v18, undef, undef, undef, undef, undef, undef, undef, undef, undef, undef, undef, undef, undef, undef, undef, undef, undef, undef, undef, undef, undef, undef, undef, undef, undef, undef, undef, undef, undef, undef, undef, undef, undef, undef, undef, undef, undef, undef], defers := [] } ∧ Tz3K b n2 n3 g off cap na nb W2 L v11 v12 v13 v14 v15 v16 v17 v18 v5 v6 w) ?_ ?_ ?_
  ·exact ⟨_, _, _, _, _, _, _, _, _, _, rfl, ⟨below_drew W2 1, nofun, nofun, nofun, nofun, nofun, nofun, nofun, nofun, nofun, nofun⟩⟩
  ·intro iq oq ho L a w hL hd hJ
   obtain ⟨v11, v12, v13, v14, v15, v16, v17, v18, v5, v6, rfl, k⟩ := hJ
   have hiq : iq < 10 := by have := (Array.getElem?_eq_some_iff.1 ho).1; simpa using this
   match iq, hiq, ho, hL with
   | 0, _, ho, hL =>
    have ho2 := ho
    simp only [qz1, qz2, qz3, qz4] at ho
    subst ho
    refine wpOp_step ho2 (fun K hK => ?_)
    go_simp
    exact hK _ _ ⟨_, _, _, _, _, _, _, _, _, _, rfl, ⟨k.wf, fun _ => rfl, k.f1, k.f2, k.f3, k.f4, k.f5, k.f6, k.f7, k.f8, k.f9⟩⟩
   | 1, _, ho, hL =>
    have ho2 := ho
    simp only [qz1, qz2, qz3, qz4] at ho
    subst ho
    refine wpOp_step ho2 (fun K hK => ?_)
    obtain rfl := k.f0 (hd ⟨0, .data⟩ (by simp) rfl)
    go_simp
    exact hK _ _ ⟨_, _, _, _, _, _, _, _, _, _, rfl, ⟨k.wf, k.f0, fun _ => rfl, k.f2, k.f3, k.f4, k.f5, k.f6, k.f7, k.f8, k.f9⟩⟩
   | 2, _, ho, hL =>
    have ho2 := ho
    simp only [qz1, qz2, qz3, qz4] at ho
    subst ho
    refine wpOp_step ho2 (fun K hK => ?_)
    obtain rfl := k.f1 (hd ⟨1, .data⟩ (by simp) rfl)
    have x0 : w.cell? ⟨g, off, none⟩ = some (.int .i64 na) := (k.wf.cell (p := ⟨g, off, none⟩) glt).trans HX0.out
    have gw : g < w.heap.size := Nat.lt_of_lt_of_le glt k.wf.size
    go_simp
    exact hK _ _ ⟨_, _, _, _, _, _, _, _, _, _, rfl, ⟨k.wf, k.f0, k.f1, fun _ => rfl, k.f3, k.f4, k.f5, k.f6, k.f7, k.f8, k.f9⟩⟩
   | 3, _, ho, hL =>
    have ho2 := ho
    simp only [qz1, qz2, qz3, qz4] at ho
    subst ho
    refine wpOp_step ho2 (fun K hK => ?_)
    obtain rfl := k.f2 (hd ⟨2, .data⟩ (by simp) rfl)
    by_cases hc : Fm.cntOk na = true
    ·have hcc : Calls Tryz.prog 67 #[.int .i64 na] w (fun e W' => e = .returned (.int .i64 na) ∧ W' = w) := (count64 na w).mono fun e W' h => by rw [if_pos hc] at h; exact h
     go_simp
     refine hcc.mono ?_
     rintro e X ⟨rfl, hX⟩
     subst hX
     exact hK _ _ ⟨_, _, _, _, _, _, _, _, _, _, rfl, ⟨k.wf, k.f0, k.f1, k.f2, fun _ => ⟨hc, rfl⟩, k.f4, k.f5, k.f6, k.f7, k.f8, k.f9⟩⟩
    ·have hcc : Calls Tryz.prog 67 #[.int .i64 na] w (fun e W' => e = .panicked [{ v := .iface 133 (.agg #[]), recovered := false }] ∧ W' = w) := (count64 na w).mono fun e W' h => by rw [if_neg hc] at h; exact h
     go_simp
     refine hcc.mono ?_
     rintro e X ⟨rfl, hX⟩
     subst hX
     exact ⟨rfl, HP.out _ k.wf (.inl hc)⟩
   | 4, _, ho, hL =>
    have ho2 := ho
    simp only [qz1, qz2, qz3, qz4] at ho
    subst ho
    refine wpOp_step ho2 (fun K hK => ?_)
    go_simp
    exact hK _ _ ⟨_, _, _, _, _, _, _, _, _, _, rfl, ⟨k.wf, k.f0, k.f1, k.f2, k.f3, fun _ => rfl, k.f5, k.f6, k.f7, k.f8, k.f9⟩⟩
   | 5, _, ho, hL =>
    have ho2 := ho
    simp only [qz1, qz2, qz3, qz4] at ho
    subst ho
    refine wpOp_step ho2 (fun K hK => ?_)
    obtain rfl := k.f4 (hd ⟨4, .data⟩ (by simp) rfl)
    go_simp
    exact hK _ _ ⟨_, _, _, _, _, _, _, _, _, _, rfl, ⟨k.wf, k.f0, k.f1, k.f2, k.f3, k.f4, fun _ => rfl, k.f6, k.f7, k.f8, k.f9⟩⟩
   | 6, _, ho, hL =>
    have ho2 := ho
    simp only [qz1, qz2, qz3, qz4] at ho
    subst ho
    refine wpOp_step ho2 (fun K hK => ?_)
    obtain rfl := k.f5 (hd ⟨5, .data⟩ (by simp) rfl)
    have x1 : w.cell? ⟨g, off + 1, none⟩ = some (.int .i64 nb) := (k.wf.cell (p := ⟨g, off + 1, none⟩) glt).trans HX1.out
    have gw : g < w.heap.size := Nat.lt_of_lt_of_le glt k.wf.size
    go_simp
    exact hK _ _ ⟨_, _, _, _, _, _, _, _, _, _, rfl, ⟨k.wf, k.f0, k.f1, k.f2, k.f3, k.f4, k.f5, fun _ => rfl, k.f7, k.f8, k.f9⟩⟩
   | 7, _, ho, hL =>
    have ho2 := ho
    simp only [qz1, qz2, qz3, qz4] at ho
    subst ho
    refine wpOp_step ho2 (fun K hK => ?_)
    obtain rfl := k.f6 (hd ⟨6, .data⟩ (by simp) rfl)
    by_cases hc : Fm.cntOk nb = true
    ·have hcc : Calls Tryz.prog 67 #[.int .i64 nb] w (fun e W' => e = .returned (.int .i64 nb) ∧ W' = w) := (count64 nb w).mono fun e W' h => by rw [if_pos hc] at h; exact h
     go_simp
     refine hcc.mono ?_
     rintro e X ⟨rfl, hX⟩
     subst hX
     exact hK _ _ ⟨_, _, _, _, _, _, _, _, _, _, rfl, ⟨k.wf, k.f0, k.f1, k.f2, k.f3, k.f4, k.f5, k.f6, fun _ => ⟨hc, rfl⟩, k.f8, k.f9⟩⟩
    ·have hcc : Calls Tryz.prog 67 #[.int .i64 nb] w (fun e W' => e = .panicked [{ v := .iface 133 (.agg #[]), recovered := false }] ∧ W' = w) := (count64 nb w).mono fun e W' h => by rw [if_neg hc] at h; exact h
     go_simp
     refine hcc.mono ?_
     rintro e X ⟨rfl, hX⟩
     subst hX
     exact ⟨rfl, HP.out _ k.wf (.inr hc)⟩
   | 8, _, ho, hL =>
    have ho2 := ho
    simp only [qz1, qz2, qz3, qz4] at ho
    subst ho
    refine wpOp_step ho2 (fun K hK => ?_)
    obtain ⟨_, rfl⟩ := k.f3 (hd ⟨3, .data⟩ (by simp) rfl)
    go_simp
    exact hK _ _ ⟨_, _, _, _, _, _, _, _, _, _, rfl, ⟨k.wf, k.f0, k.f1, k.f2, k.f3, k.f4, k.f5, k.f6, k.f7, fun _ => rfl, k.f9⟩⟩
   | 9, _, ho, hL =>
    have ho2 := ho
    simp only [qz1, qz2, qz3, qz4] at ho
    subst ho
    refine wpOp_step ho2 (fun K hK => ?_)
    obtain ⟨_, rfl⟩ := k.f7 (hd ⟨7, .data⟩ (by simp) rfl)
    go_simp
    exact hK _ _ ⟨_, _, _, _, _, _, _, _, _, _, rfl, ⟨k.wf, k.f0, k.f1, k.f2, k.f3, k.f4, k.f5, k.f6, k.f7, k.f8, fun _ => rfl⟩⟩
   | n + 10, h, _, _ => omega
  ·intro L a w hL hJ
   obtain ⟨v11, v12, v13, v14, v15, v16, v17, v18, v5, v6, rfl, k⟩ := hJ
   obtain rfl := k.f0 (hL 0 (by decide))
   obtain rfl := k.f1 (hL 1 (by decide))
   obtain rfl := k.f2 (hL 2 (by decide))
   obtain rfl := k.f4 (hL 4 (by decide))
   obtain rfl := k.f5 (hL 5 (by decide))
   obtain rfl := k.f6 (hL 6 (by decide))
   obtain rfl := k.f8 (hL 8 (by decide))
   obtain rfl := k.f9 (hL 9 (by decide))
   obtain ⟨hca, rfl⟩ := k.f3 (hL 3 (by decide))
   obtain ⟨hcb, rfl⟩ := k.f7 (hL 7 (by decide))
   have hb2 := k.wf
   dsimp only
   clear k hL
   obtain ⟨W3, rfl⟩ : ∃ X, X = w := ⟨_, rfl⟩
   obtain ⟨a0, rfl⟩ : ∃ m : Nat, na = (m : Int) := ⟨na.toNat, (Fm.cnt_nat hca).symm⟩
   obtain ⟨b0, rfl⟩ : ∃ m : Nat, nb = (m : Int) := ⟨nb.toNat, (Fm.cnt_nat hcb).symm⟩
   have hna : a0 ≤ 1048576 := by unfold Fm.cntOk at hca; rw [decide_eq_true_eq] at hca; omega
   have hnb : b0 ≤ 1048576 := by unfold Fm.cntOk at hcb; rw [decide_eq_true_eq] at hcb; omega
   have HCA := Lib.hid (And.intro hca hcb)
   have HG3 := Lib.hid (grown_call HG.out hb2)
   have HS3 := Lib.hid (HS2.out.keep hb2)
   have HL3 := Lib.hid (HL2.out.keep hb2)
   have HX23 := Lib.hid (HX22.out.keep hb2)
   have HX33 := Lib.hid (HX32.out.keep hb2)
   clear hb2 HG HS2 HL2 HX22 HX32 HP HX0 HX1 glt hca hcb
   have HC := Lib.hid (exactly65 W3 b ⟨#[114, 111, 111, 116]⟩ q tl (2 * a0) HS3.out HL3.out)
   rw [show ((2 * a0 : Nat) : Int) = 2 * (a0 : Int) by omega] at HC
   go_wp2_with fail
   refine HC.out.mono ?_
   clear HC
   rintro e W4 h4
   cases hq4 : Fm.rdN Fm.kwRoot (2 * a0) q with
   | none =>
    rw [show Fm.rdN (⟨#[114, 111, 111, 116]⟩ : ByteArray).data.toList (2 * a0) q = none from hq4] at h4
    obtain ⟨rfl, hG⟩ := h4.no
    have HGF := Lib.hid (grown_trans HG3.out hG)
    have HOT := Lib.hid (HO.out.symm.trans (Fm.rdTree_no2 HQ.out HCA.out.1 HCA.out.2 (by rw [Int.toNat_natCast]; exact hq4)))
    clear h4 hG hq4
    unfold malP
    go_wp2
    exact ⟨rfl, RdP.mkno HOT.out HGF.out⟩
   | some p4 =>
    obtain ⟨es, q2⟩ := p4
    rw [show Fm.rdN (⟨#[114, 111, 111, 116]⟩ : ByteArray).data.toList (2 * a0) q = some (es, q2) from hq4] at h4
    have HQ4 : Hid (Fm.rdN Fm.kwRoot (2 * ((a0 : Nat) : Int).toNat) q = some (es, q2)) := Lib.hid (by rw [Int.toNat_natCast]; exact hq4)
    have hel := (Fm.rdN_un hq4).2
    obtain ⟨v4, rfl, hN, hS, hG⟩ := h4.yes
    obtain ⟨oe, ce, rfl, -, hs⟩ := hN.now
    rw [hel]
    have HEL := Lib.hid hel
    have HNE := Lib.hid hN
    have HG4 := Lib.hid (grown_trans HG3.out hG)
    have HS4 := Lib.hid hS
    have HL4 := Lib.hid (HL3.out.keepG hG h8)
    have HX24 := Lib.hid (HX23.out.grown hG (by have := HNN.out; omega))
    have HX34 := Lib.hid (HX33.out.grown hG (by have := HNN.out; omega))
    have HB4 : Hid (n3 < W3.heap.size ∧ b < W3.heap.size ∧ W3.heap.size ≤ W4.heap.size) := Lib.hid ⟨HX33.out.lt, HS3.out.lt, hG.size⟩
    obtain ⟨B, hB⟩ : ∃ B, B = W4.heap.size := ⟨_, rfl⟩
    have HBB := Lib.hid hB
    clear h4 hN hS hG hs hq4 HG3 HS3 HL3 HX23 HX33 hB hel
    go_wp2_with fail
    go_loopw [24] (fun i X => ∃ (k : Nat) (v : Value), k ≤ a0 ∧ i = .int .i64 (k : Nat) ∧ Bx X n3 [v, .slice none 0 0] 36 ∧ RowO IvD 79 2 B X v ((Fm.pairs es).take k) ∧ Fr3 B n3 n3 W4 X) (fun i _ => a0 - (intOf i).toNat)
    case atStart => exact ⟨0, .slice none 0 0, Nat.zero_le _, rfl, HX34.out, RowO.nil _ _ _ _ _, Fr3.refl _ _ _ _⟩
    case round =>
     obtain ⟨k1, v, hk, rfl, hX, hRow, hF⟩ := hrel
     obtain ⟨W5, rfl⟩ : ∃ X, X = wr := ⟨_, rfl⟩
     have HF := Lib.hid hF
     have HX35 := Lib.hid hX
     have HRow5 := Lib.hid hRow
     clear hF hX hRow
     by_cases hlt : k1 < a0
     ·obtain ⟨x, y, hx, hy, hxy⟩ := Fm.pairs_get HEL.out hlt
      have HXY := Lib.hid hxy
      obtain ⟨oa', c', e', -, hs'⟩ := HNE.out.now
      injection e' with e1 e2 e3
      subst e1
      clear e2 e3
      obtain ⟨ge, oeo, rfl, -⟩ := hs' (by intro e; have := congrArg List.length e; simp [pvals] at this; rw [this] at hx; simp at hx)
      clear hs'
      have HGE : Hid (∀ X, Fr3 B n3 n3 W4 X → X.cell? ⟨ge, oeo + 2 * k1, none⟩ = some (.int .i64 x) ∧ X.cell? ⟨ge, oeo + (2 * k1 + 1), none⟩ = some (.int .i64 y) ∧ ge < X.heap.size) := Lib.hid (fun X hX => by
       obtain ⟨oa, c, e, -, hs⟩ := HNE.out X (fun j hj => hX.block j (by rw [HBB.out]; exact hj.2) (by have := hj.1; have := HB4.out; omega) (by have := hj.1; have := HB4.out; omega))
       injection e with e _ _
       subst e
       obtain ⟨g', o', e', hra⟩ := hs (by intro e; have := congrArg List.length e; simp [pvals] at this; rw [this] at hx; simp at hx)
       injection e' with e'
       injection e' with e1 e2 _
       subst e1 e2
       exact ⟨pvals_cell hra hx, pvals_cell hra hy, hra.lt⟩)
      have hd : decide ((k1 : Int) < (a0 : Int)) = true := decide_eq_true (by omega)
      clear hx hy hxy
      go_upto_region 8 with fail
      clear hd
      obtain ⟨i0, hi0, hz0, hz1, hz2⟩ := info_parts info79
      obtain ⟨rs, hrs⟩ : ∃ rs, rs = (Fm.pairs es).take k1 := ⟨_, rfl⟩
      rw [← hrs] at HRow5
      have hrl : rs.length ≤ 1048576 := by rw [hrs, List.length_take]; omega
      have HRS := Lib.hid hrs
      clear hrs
      have hD0 : Below W5.heap.size W5 W5.drew := (Below.refl _ _).drew
      have hBz : B ≤ W5.heap.size := by have := HF.out.size; have := HBB.out; omega
      have hq1 : (2 * (k1 : Int)) < 2 * (a0 : Int) := by omega
      have hw1 : IntKind.i64.wrap (2 * (k1 : Int)) = 2 * (k1 : Int) := by simp [IntKind.wrap, IntKind.bits, IntKind.signed]; omega
      have hw2 : IntKind.i64.wrap (2 * (k1 : Int) + 1) = 2 * (k1 : Int) + 1 := by simp [IntKind.wrap, IntKind.bits, IntKind.signed]; omega
      have hq2 : (2 * (k1 : Int)) + 1 < 2 * (a0 : Int) := by omega
      refine wp_region_inv2 (by kernel_rfl) (by kernel_rfl) (fun L a w => ∃ v27 v28 v29 v30 v31 v32 v33 v34 v35 v36 v37 v38 v39 v40 v41 v42 v43 : Value, a = { tmps := #[((Value.pointer (some ⟨b, 0, none⟩))), undef, ((Value.pointer (some ⟨n2, 0, none⟩))), ((Value.pointer (some ⟨n3, 0, none⟩))), ((Value.slice (some ⟨g, off, none⟩) 2 cap)), ((Value.int IntKind.i64 ((a0 : Nat) : Int))), ((Value.int IntKind.i64 ((b0 : Nat) : Int))), ((Value.slice (some ⟨ge, oeo, none⟩) (2 * a0) ce)), ((Value.int IntKind.i64 ((k1 : Nat) : Int))), ((Value.pointer (some ⟨b, 0, none⟩))), ((Value.slice (some ⟨g, off, none⟩) 2 cap)), ((Value.slice (some ⟨g, off, none⟩) 2 cap)), ((Value.pointer (some ⟨g, off, none⟩))), ((Value.int IntKind.i64 ((a0 : Nat) : Int))), ((Value.int IntKind.i64 ((a0 : Nat) : Int))), ((Value.slice (some ⟨g, off, none⟩) 2 cap)), ((Value.pointer (some ⟨g, off + 1, none⟩))), ((Value.int IntKind.i64 ((b0 : Nat) : Int))), ((Value.int IntKind.i64 ((b0 : Nat) : Int))), ((Value.pointer (some ⟨b, 0, none⟩))), ((Value.int IntKind.i64 ((a0 : Nat) : Int))), ((Value.int IntKind.i64 (2 * ((a0 : Nat) : Int)))), ((Value.slice (some ⟨ge, oeo, none⟩) (2 * a0) ce)), ((Value.int IntKind.i64 ((a0 : Nat) : Int))), ((Value.int IntKind.i64 ((k1 : Nat) : Int))), ((Value.bool true)), ((Value.int IntKind.i64 ((k1 : Nat) : Int))), v27, v28, v29, v30, v31, v32, v33, v34, v35, v36, v37, v38, v39, v40, v41, v42, v43, u44, undef, undef, undef, undef, undef, undef, undef, undef, undef, undef, undef, undef], defers := [] } ∧ Tz8K b n3 B a0 k1 ge oeo ce x y v rs W5 L v27 v28 v29 v30 v31 v32 v33 v34 v35 v36 v37 v38 v39 v40 v41 v42 v43 w) ?_ ?_ ?_
      ·exact ⟨_, _, _, _, _, _, _, _, _, _, _, _, _, _, _, _, _, rfl, ⟨⟨Fr3.low (hD0.mono hBz), fun _ => HX35.out.keep hD0, fun _ => HRow5.out.keep (AgI.of hD0), Nat.le_trans hBz hD0.size⟩, nofun, nofun, nofun, nofun, nofun, nofun, nofun, nofun, nofun, nofun, nofun, nofun, nofun, nofun, nofun, nofun, nofun, nofun⟩⟩
      ·intro iq oq ho L a w hL hd hJ
       obtain ⟨v27, v28, v29, v30, v31, v32, v33, v34, v35, v36, v37, v38, v39, v40, v41, v42, v43, rfl, k⟩ := hJ
       have hiq : iq < 18 := by have := (Array.getElem?_eq_some_iff.1 ho).1; simpa using this
       match iq, hiq, ho, hL with
       | 0, _, ho, hL =>
        have ho2 := ho
        simp only [qz1, qz2, qz3, qz4] at ho
        subst ho
        refine wpOp_step ho2 (fun K hK => ?_)
        go_simp
        exact hK _ _ ⟨_, _, _, _, _, _, _, _, _, _, _, _, _, _, _, _, _, rfl, ⟨k.wf, fun _ => rfl, k.f1, k.f2, k.f3, k.f4, k.f5, k.f6, k.f7, k.f8, k.f9, k.f10, k.f11, k.f12, k.f13, k.f14, k.f15, k.f16, k.f17⟩⟩
       | 1, _, ho, hL =>
        have ho2 := ho
        simp only [qz1, qz2, qz3, qz4] at ho
        subst ho
        refine wpOp_step ho2 (fun K hK => ?_)
        obtain rfl := k.f0 (hd ⟨0, .data⟩ (by simp) rfl)
        have h17 : L 17 = false := by
         cases h : L 17 with
         | false => rfl
         | true => exact absurd (hL.symm.trans (k.f17 h).2.1) (by decide)
        have hx := k.wf.2.1 h17
        have y0 := hx.c 0 _ rfl
        have ly := hx.lt
        go_simp
        exact hK _ _ ⟨_, _, _, _, _, _, _, _, _, _, _, _, _, _, _, _, _, rfl, ⟨k.wf, k.f0, fun _ => rfl, k.f2, k.f3, k.f4, k.f5, k.f6, k.f7, k.f8, k.f9, k.f10, k.f11, k.f12, k.f13, k.f14, fun h => absurd (hL.symm.trans (k.f15 h).2.1) (by decide), k.f16, fun h => absurd (hL.symm.trans (k.f15 (k.f17 h).1).2.1) (by decide)⟩⟩
       | 2, _, ho, hL =>
        have ho2 := ho
        simp only [qz1, qz2, qz3, qz4] at ho
        subst ho
        refine wpOp_step ho2 (fun K hK => ?_)
        go_simp
        exact hK _ _ ⟨_, _, _, _, _, _, _, _, _, _, _, _, _, _, _, _, _, rfl, ⟨k.wf, k.f0, k.f1, fun _ => rfl, k.f3, k.f4, k.f5, k.f6, k.f7, k.f8, k.f9, k.f10, k.f11, k.f12, k.f13, k.f14, k.f15, k.f16, k.f17⟩⟩
       | 3, _, ho, hL =>
        have ho2 := ho
        simp only [qz1, qz2, qz3, qz4] at ho
        subst ho
        refine wpOp_step ho2 (fun K hK => ?_)
        go_simp
        exact hK _ _ ⟨_, _, _, _, _, _, _, _, _, _, _, _, _, _, _, _, _, rfl, ⟨k.wf, k.f0, k.f1, k.f2, fun _ => rfl, k.f4, k.f5, k.f6, k.f7, k.f8, k.f9, k.f10, k.f11, k.f12, k.f13, k.f14, k.f15, k.f16, k.f17⟩⟩
       | 4, _, ho, hL =>
        have ho2 := ho
        simp only [qz1, qz2, qz3, qz4] at ho
        subst ho
        refine wpOp_step ho2 (fun K hK => ?_)
        obtain rfl := k.f3 (hd ⟨3, .data⟩ (by simp) rfl)
        go_simp
        exact hK _ _ ⟨_, _, _, _, _, _, _, _, _, _, _, _, _, _, _, _, _, rfl, ⟨k.wf, k.f0, k.f1, k.f2, k.f3, fun _ => rfl, k.f5, k.f6, k.f7, k.f8, k.f9, k.f10, k.f11, k.f12, k.f13, k.f14, k.f15, k.f16, k.f17⟩⟩
       | 5, _, ho, hL =>
        have ho2 := ho
        simp only [qz1, qz2, qz3, qz4] at ho
        subst ho
        refine wpOp_step ho2 (fun K hK => ?_)
        obtain rfl := k.f2 (hd ⟨2, .data⟩ (by simp) rfl)
        obtain rfl := k.f4 (hd ⟨4, .data⟩ (by simp) rfl)
        go_simp
        exact hK _ _ ⟨_, _, _, _, _, _, _, _, _, _, _, _, _, _, _, _, _, rfl, ⟨k.wf, k.f0, k.f1, k.f2, k.f3, k.f4, fun _ => rfl, k.f6, k.f7, k.f8, k.f9, k.f10, k.f11, k.f12, k.f13, k.f14, k.f15, k.f16, k.f17⟩⟩
       | 6, _, ho, hL =>
        have ho2 := ho
        simp only [qz1, qz2, qz3, qz4] at ho
        subst ho
        refine wpOp_step ho2 (fun K hK => ?_)
        obtain rfl := k.f5 (hd ⟨5, .data⟩ (by simp) rfl)
        obtain ⟨x0, x1, glt⟩ := HGE.out w (HF.out.trans k.wf.1)
        go_simp
        exact hK _ _ ⟨_, _, _, _, _, _, _, _, _, _, _, _, _, _, _, _, _, rfl, ⟨k.wf, k.f0, k.f1, k.f2, k.f3, k.f4, k.f5, fun _ => rfl, k.f7, k.f8, k.f9, k.f10, k.f11, k.f12, k.f13, k.f14, k.f15, k.f16, k.f17⟩⟩
       | 7, _, ho, hL =>
        have ho2 := ho
        simp only [qz1, qz2, qz3, qz4] at ho
        subst ho
        refine wpOp_step ho2 (fun K hK => ?_)
        go_simp
        exact hK _ _ ⟨_, _, _, _, _, _, _, _, _, _, _, _, _, _, _, _, _, rfl, ⟨k.wf, k.f0, k.f1, k.f2, k.f3, k.f4, k.f5, k.f6, fun _ => rfl, k.f8, k.f9, k.f10, k.f11, k.f12, k.f13, k.f14, k.f15, k.f16, k.f17⟩⟩
       | 8, _, ho, hL =>
        have ho2 := ho
        simp only [qz1, qz2, qz3, qz4] at ho
        subst ho
        refine wpOp_step ho2 (fun K hK => ?_)
        go_simp
        exact hK _ _ ⟨_, _, _, _, _, _, _, _, _, _, _, _, _, _, _, _, _, rfl, ⟨k.wf, k.f0, k.f1, k.f2, k.f3, k.f4, k.f5, k.f6, k.f7, fun _ => rfl, k.f9, k.f10, k.f11, k.f12, k.f13, k.f14, k.f15, k.f16, k.f17⟩⟩
       | 9, _, ho, hL =>
        have ho2 := ho
        simp only [qz1, qz2, qz3, qz4] at ho
        subst ho
        refine wpOp_step ho2 (fun K hK => ?_)
        obtain rfl := k.f8 (hd ⟨8, .data⟩ (by simp) rfl)
        go_simp
        exact hK _ _ ⟨_, _, _, _, _, _, _, _, _, _, _, _, _, _, _, _, _, rfl, ⟨k.wf, k.f0, k.f1, k.f2, k.f3, k.f4, k.f5, k.f6, k.f7, k.f8, fun _ => rfl, k.f10, k.f11, k.f12, k.f13, k.f14, k.f15, k.f16, k.f17⟩⟩
       | 10, _, ho, hL =>
        have ho2 := ho
        simp only [qz1, qz2, qz3, qz4] at ho
        subst ho
        refine wpOp_step ho2 (fun K hK => ?_)
        obtain rfl := k.f9 (hd ⟨9, .data⟩ (by simp) rfl)
        go_simp
        exact hK _ _ ⟨_, _, _, _, _, _, _, _, _, _, _, _, _, _, _, _, _, rfl, ⟨k.wf, k.f0, k.f1, k.f2, k.f3, k.f4, k.f5, k.f6, k.f7, k.f8, k.f9, fun _ => rfl, k.f11, k.f12, k.f13, k.f14, k.f15, k.f16, k.f17⟩⟩
       | 11, _, ho, hL =>
        have ho2 := ho
        simp only [qz1, qz2, qz3, qz4] at ho
        subst ho
        refine wpOp_step ho2 (fun K hK => ?_)
        obtain rfl := k.f7 (hd ⟨7, .data⟩ (by simp) rfl)
        obtain rfl := k.f10 (hd ⟨10, .data⟩ (by simp) rfl)
        go_simp
        exact hK _ _ ⟨_, _, _, _, _, _, _, _, _, _, _, _, _, _, _, _, _, rfl, ⟨k.wf, k.f0, k.f1, k.f2, k.f3, k.f4, k.f5, k.f6, k.f7, k.f8, k.f9, k.f10, fun _ => rfl, k.f12, k.f13, k.f14, k.f15, k.f16, k.f17⟩⟩
       | 12, _, ho, hL =>
        have ho2 := ho
        simp only [qz1, qz2, qz3, qz4] at ho
        subst ho
        refine wpOp_step ho2 (fun K hK => ?_)
        obtain rfl := k.f11 (hd ⟨11, .data⟩ (by simp) rfl)
        obtain ⟨x0, x1, glt⟩ := HGE.out w (HF.out.trans k.wf.1)
        go_simp
        exact hK _ _ ⟨_, _, _, _, _, _, _, _, _, _, _, _, _, _, _, _, _, rfl, ⟨k.wf, k.f0, k.f1, k.f2, k.f3, k.f4, k.f5, k.f6, k.f7, k.f8, k.f9, k.f10, k.f11, fun _ => rfl, k.f13, k.f14, k.f15, k.f16, k.f17⟩⟩
       | 13, _, ho, hL =>
        have ho2 := ho
        simp only [qz1, qz2, qz3, qz4] at ho
        subst ho
        refine wpOp_step ho2 (fun K hK => ?_)
        obtain rfl := k.f6 (hd ⟨6, .data⟩ (by simp) rfl)
        obtain rfl := k.f12 (hd ⟨12, .data⟩ (by simp) rfl)
        go_simp
        exact hK _ _ ⟨_, _, _, _, _, _, _, _, _, _, _, _, _, _, _, _, _, rfl, ⟨k.wf, k.f0, k.f1, k.f2, k.f3, k.f4, k.f5, k.f6, k.f7, k.f8, k.f9, k.f10, k.f11, k.f12, fun _ => rfl, k.f14, k.f15, k.f16, k.f17⟩⟩
       | 14, _, ho, hL =>
        have ho2 := ho
        simp only [qz1, qz2, qz3, qz4] at ho
        subst ho
        refine wpOp_step ho2 (fun K hK => ?_)
        obtain rfl := k.f13 (hd ⟨13, .data⟩ (by simp) rfl)
        have hb : Below w.heap.size w (w.alloc (.cells #[.int .i64 x, .int .i64 y] 79)) := (Below.refl _ _).alloc (Nat.le_refl _) _
        have hbx := Bx.new w [.int .i64 x, .int .i64 y] 79
        have hz := k.wf.2.2.2
        go_simp
        exact hK _ _ ⟨_, _, _, _, _, _, _, _, _, _, _, _, _, _, _, _, _, rfl, ⟨⟨k.wf.1.trans (Fr3.low (hb.mono hz)), fun h => (k.wf.2.1 h).keep hb, fun h => (k.wf.2.2.1 h).keep (AgI.of hb), Nat.le_trans hz hb.size⟩, k.f0, k.f1, k.f2, k.f3, k.f4, k.f5, k.f6, k.f7, k.f8, k.f9, k.f10, k.f11, k.f12, k.f13, fun _ => ⟨w.heap.size, rfl, fun _ => hbx⟩, fun h => absurd (hL.symm.trans (k.f15 h).1) (by decide), k.f16, fun h => absurd (hL.symm.trans (k.f15 (k.f17 h).1).1) (by decide)⟩⟩
       | 15, _, ho, hL =>
        have ho2 := ho
        simp only [qz1, qz2, qz3, qz4] at ho
        subst ho
        refine wpOp_step ho2 (fun K hK => ?_)
        obtain rfl := k.f1 (hd ⟨1, .data⟩ (by simp) rfl)
        obtain ⟨q, rfl, hq⟩ := k.f14 (hd ⟨14, .data⟩ (by simp) rfl)
        have h14 := hd ⟨14, .data⟩ (by simp) rfl
        have h1 := hd ⟨1, .data⟩ (by simp) rfl
        have hbx := hq hL
        have hz := k.wf.2.2.2
        obtain ⟨rows, hV⟩ := (k.wf.2.2.1 hL).ex
        have hVl := hV.len
        refine step_append_lies _ rfl (.tmp 28) (.tmp 41) 33 rfl B 79 i0 (.agg #[.int .i64 0, .int .i64 0]) 2 16 under33 hi0 hz0 hz1 hz2 rfl (by decide) _ rows.length rows.flatten (by simp [Act.eval]) hV.own ⟨q, 0, none⟩ 1 1 [.int .i64 x, .int .i64 y] (by simp [Act.eval]) rfl (World.news_of_block hbx.h) (by intro u hu; simp at hu; rcases hu with rfl | rfl <;> rfl) (by decide) (by unfold maxLen; omega) (by omega) hz _ rfl ?_
        intro gN cN X hown hgrow hat hltN
        have hrow := hV.app (W2 := w) (x := (x, y)) (D := IvD) (AgI.of (Below.refl _ _)) (fun _ _ => rfl) rfl (Below.refl _ _) hown hgrow (hat.elim (fun e => .inl e.symm) (fun e => .inr (by rw [e]; rfl))) hz
        have hbX : Below B w X := grown_below hV.own hgrow hz
        have hx17 := fun (h : L 17 = false) => (k.wf.2.1 h).low hbX (by have := HB4.out; have := HBB.out; omega)
        rw [hVl] at hrow ⊢
        exact hK _ _ ⟨_, _, _, _, _, _, _, _, _, _, _, _, _, _, _, _, _, rfl, ⟨⟨k.wf.1.trans (Fr3.low hbX), hx17, nofun, Nat.le_trans hz hgrow.size⟩, k.f0, k.f1, k.f2, k.f3, k.f4, k.f5, k.f6, k.f7, k.f8, k.f9, k.f10, k.f11, k.f12, k.f13, fun _ => ⟨q, rfl, nofun⟩, fun _ => ⟨h14, h1, gN, cN, rfl, hrow⟩, k.f16, fun h => absurd (hL.symm.trans (k.f17 h).1) (by decide)⟩⟩
       | 16, _, ho, hL =>
        have ho2 := ho
        simp only [qz1, qz2, qz3, qz4] at ho
        subst ho
        refine wpOp_step ho2 (fun K hK => ?_)
        go_simp
        exact hK _ _ ⟨_, _, _, _, _, _, _, _, _, _, _, _, _, _, _, _, _, rfl, ⟨k.wf, k.f0, k.f1, k.f2, k.f3, k.f4, k.f5, k.f6, k.f7, k.f8, k.f9, k.f10, k.f11, k.f12, k.f13, k.f14, k.f15, fun _ => rfl, k.f17⟩⟩
       | 17, _, ho, hL =>
        have ho2 := ho
        simp only [qz1, qz2, qz3, qz4] at ho
        subst ho
        refine wpOp_step ho2 (fun K hK => ?_)
        obtain ⟨h14, h1, g5, c5, rfl, hrow⟩ := k.f15 (hd ⟨15, .data⟩ (by simp) rfl)
        obtain rfl := k.f16 (hd ⟨16, .data⟩ (by simp) rfl)
        have h15 := hd ⟨15, .data⟩ (by simp) rfl
        have hx := k.wf.2.1 hL
        have c0 := hx.c 0 _ rfl
        have f0 := hx.f 0
        have lx := hx.lt
        have hp := hx.put1 (.slice (some ⟨g5, 0, none⟩) (rs.length + 1) c5)
        have hrow2 := hrow.keep (AgI.set (lo := B) w (n := n3) (i := 0) (.slice (some ⟨g5, 0, none⟩) (rs.length + 1) c5) (by have := HB4.out; have := HBB.out; omega))
        have hz2 : B ≤ (w.setCell ⟨n3, 0, none⟩ (.slice (some ⟨g5, 0, none⟩) (rs.length + 1) c5)).heap.size := by simp [World.setCell]; exact k.wf.2.2.2
        go_simp
        exact hK _ _ ⟨_, _, _, _, _, _, _, _, _, _, _, _, _, _, _, _, _, rfl, ⟨⟨k.wf.1.trans (Fr3.set w 0 _), nofun, fun h => absurd (h15.symm.trans h) (by decide), hz2⟩, k.f0, k.f1, k.f2, k.f3, k.f4, k.f5, k.f6, k.f7, k.f8, k.f9, k.f10, k.f11, k.f12, k.f13, fun h => (k.f14 h).imp fun q h => ⟨h.1, fun e => absurd (h15.symm.trans e) (by decide)⟩, fun _ => ⟨h14, h1, g5, c5, rfl, hrow2⟩, k.f16, fun _ => ⟨h15, h1, hp⟩⟩⟩
       | n + 18, h, _, _ => omega
      ·intro L a w hL hJ
       obtain ⟨v27, v28, v29, v30, v31, v32, v33, v34, v35, v36, v37, v38, v39, v40, v41, v42, v43, rfl, k⟩ := hJ
       obtain rfl := k.f0 (hL 0 (by decide))
       obtain rfl := k.f1 (hL 1 (by decide))
       obtain rfl := k.f2 (hL 2 (by decide))
       obtain rfl := k.f3 (hL 3 (by decide))
       obtain rfl := k.f4 (hL 4 (by decide))
       obtain rfl := k.f5 (hL 5 (by decide))
       obtain rfl := k.f6 (hL 6 (by decide))
       obtain rfl := k.f7 (hL 7 (by decide))
       obtain rfl := k.f8 (hL 8 (by decide))
       obtain rfl := k.f9 (hL 9 (by decide))
       obtain rfl := k.f10 (hL 10 (by decide))
       obtain rfl := k.f11 (hL 11 (by decide))
       obtain rfl := k.f12 (hL 12 (by decide))
       obtain rfl := k.f13 (hL 13 (by decide))
       obtain rfl := k.f16 (hL 16 (by decide))
       obtain ⟨h15, -, hx⟩ := k.f17 (hL 17 (by decide))
       obtain ⟨-, -, g5, c5, rfl, hrow⟩ := k.f15 h15
       obtain ⟨q9, rfl, -⟩ := k.f14 (hL 14 (by decide))
       have hF2 := k.wf.1
       have HXF := Lib.hid hx
       have HRF := Lib.hid hrow
       have HFF := Lib.hid (HF.out.trans hF2)
       dsimp only
       clear k hL hx hrow hF2
       go_wp2_with fail
       go_roundw
       case rel => exact ⟨k1 + 1, _, by omega, by simp, HXF.out, by rw [List.take_add_one, HXY.out]; rw [← HRS.out]; exact HRF.out, HFF.out⟩
       case measure => simp [intOf]; omega
     ·have hke : k1 = a0 := by omega
      subst hke
      have hd : decide ((k1 : Int) < (k1 : Int)) = false := by simp
      have hd2 : decide (k1 < k1) = false := by simp
      go_wp2_with fail
      clear hd hd2
      obtain ⟨or, cr, rfl, hRN, -, -⟩ := HRow5.out.done
      have hpl := (Fm.pairs_flat HEL.out).2
      rw [List.take_of_length_le (Nat.le_of_eq hpl)] at hRN
      have htl : ((Fm.pairs es).take k1).length = k1 := by rw [List.length_take, hpl]; omega
      rw [htl] at HX35
      clear htl HRow5
      have hnn := HNN.out
      have hb4 := HB4.out
      have hbb := HBB.out
      have hfs := HF.out.size
      have HRN := Lib.hid hRN
      have HPL := Lib.hid hpl
      have HG5 : Hid (W.grownBy W5 (some b)) := Lib.hid ((show Fr3 B b n3 W4 W5 from ⟨HF.out.os, HF.out.tape, HF.out.output, HF.out.size, fun k h1 _ h3 => HF.out.block k h1 h3 h3⟩).back HG4.out (by omega) (by have := HG4.out.size; omega))
      have HL5 : Hid (LibW W5) := Lib.hid (HL4.out.low ⟨HF.out.os, HF.out.tape, HF.out.output, HF.out.size, fun k hk => HF.out.block k (by omega) (by omega) (by omega)⟩)
      have HS5 : Hid (RdS W5 b q2 tl) := Lib.hid (by
       obtain ⟨⟨s', hs1, hs2, hs3⟩, hs4⟩ := HS4.out
       exact ⟨⟨s', ⟨(HF.out.block b (by omega) (by omega) (by omega)).trans hs1.h⟩, hs2, hs3⟩, hs4⟩)
      have HX25 : Hid (Bx W5 n2 [.slice none 0 0, .slice none 0 0] 36) := Lib.hid ⟨(HF.out.block n2 (by omega) (by omega) (by omega)).trans HX24.out.h⟩
      have hnb : n3 ≠ b := by omega
      have h8n : 8 ≤ n3 := by omega
      obtain ⟨B2, hB2e⟩ : ∃ B2, B2 = W5.heap.size := ⟨_, rfl⟩
      have hbB : b < B2 := by omega
      have hnB : n3 < B2 := by omega
      have h8B : 8 ≤ B2 := by omega
      have HB2 := Lib.hid hB2e
      have hBs : Hid (B ≤ B2) := Lib.hid (by omega)
      clear hRN hpl hnn hb4 hbb hfs hB2e HG4 HL4 HS4 HX24
      go_loopw [46] (fun i X => ∃ (k : Nat) (cs : List Fm.CellD) (q3 : List (List UInt8)) (v : Value), k ≤ b0 ∧ i = .int .i64 (k : Nat) ∧ Fm.RepAt Fm.rdCell b0 q2 k cs q3 ∧ Bx X n3 [.slice or k1 cr, v] 36 ∧ RowO CellAt 85 8 B2 X v cs ∧ RdS X b q3 tl ∧ Fr3 B2 b n3 W5 X) (fun i _ => b0 - (intOf i).toNat)
      case atStart => exact ⟨0, [], q2, .slice none 0 0, Nat.zero_le _, rfl, Fm.RepAt.start _ _ _, HX35.out, RowO.nil _ _ _ _ _, HS5.out, Fr3.refl _ _ _ _⟩
      case round =>
       obtain ⟨k2, cs, q3, v, hk2, rfl, hR, hX, hRow, hS, hF⟩ := hrel
       obtain ⟨W6, rfl⟩ : ∃ X, X = wr := ⟨_, rfl⟩
       have HF6 := Lib.hid hF
       have HR6 := Lib.hid hR
       have HX36 := Lib.hid hX
       have HRow6 := Lib.hid hRow
       have HS6 := Lib.hid hS
       have hnn := HNN.out
       have hb2 := HB2.out
       have hgs := HG5.out.size
       have HG6 : Hid (W.grownBy W6 (some b)) := Lib.hid (hF.back HG5.out (by omega) (by omega))
       have HL6 : Hid (LibW W6) := Lib.hid (HL5.out.low ⟨hF.os, hF.tape, hF.output, hF.size, fun k hk => hF.block k (by omega) (by omega) (by omega)⟩)
       have hB2 : B2 ≤ W6.heap.size := by have := hF.size; omega
       clear hF hR hX hRow hS hnn hb2 hgs
       by_cases hlt : k2 < b0
       ·have hd : decide ((k2 : Int) < (b0 : Int)) = true := decide_eq_true (by omega)
        have HP : Hid (∀ X, W6.grownBy X (some b) → Fm.rdCell q3 = none → RdP b tl TreV W o malP X) := Lib.hid (fun X hX hn => RdP.mkno (HO.out.symm.trans (Fm.rdTree_no3 HQ.out HCA.out.1 HCA.out.2 HQ4.out (by rw [Int.toNat_natCast]; exact HR6.out.none hlt hn))) (grown_trans HG6.out hX))
        go_upto_region 12 with fail
        clear hd
        obtain ⟨i0, hi0, hz0, hz1, hz2⟩ := info_parts info85
        obtain ⟨rows, hV0⟩ := HRow6.out.ex
        have HRV := Lib.hid hV0
        clear hV0
        have hrl : rows.length ≤ 1048576 := by have := HRV.out.len; have := HR6.out.2.1; omega
        have hD0 : Below W6.heap.size W6 W6.drew := (Below.refl _ _).drew
        refine wp_region_inv2 (by kernel_rfl) (by kernel_rfl) (fun L a w => ∃ v48 v49 v50 v51 v52 v53 v54 : Value, a = { tmps := #[((Value.pointer (some ⟨b, 0, none⟩))), undef, ((Value.pointer (some ⟨n2, 0, none⟩))), ((Value.pointer (some ⟨n3, 0, none⟩))), ((Value.slice (some ⟨g, off, none⟩) 2 cap)), ((Value.int IntKind.i64 ((k1 : Nat) : Int))), ((Value.int IntKind.i64 ((b0 : Nat) : Int))), ((Value.slice oe (2 * k1) ce)), u8, ((Value.pointer (some ⟨b, 0, none⟩))), ((Value.slice (some ⟨g, off, none⟩) 2 cap)), ((Value.slice (some ⟨g, off, none⟩) 2 cap)), ((Value.pointer (some ⟨g, off, none⟩))), ((Value.int IntKind.i64 ((k1 : Nat) : Int))), ((Value.int IntKind.i64 ((k1 : Nat) : Int))), ((Value.slice (some ⟨g, off, none⟩) 2 cap)), ((Value.pointer (some ⟨g, off + 1, none⟩))), ((Value.int IntKind.i64 ((b0 : Nat) : Int))), ((Value.int IntKind.i64 ((b0 : Nat) : Int))), ((Value.pointer (some ⟨b, 0, none⟩))), ((Value.int IntKind.i64 ((k1 : Nat) : Int))), ((Value.int IntKind.i64 (2 * ((k1 : Nat) : Int)))), ((Value.slice oe (2 * k1) ce)), ((Value.int IntKind.i64 ((k1 : Nat) : Int))), ((Value.int IntKind.i64 ((k1 : Nat) : Int))), ((Value.bool false)), u26, u27, u28, u29, u30, u31, u32, u33, u34, u35, u36, u37, u38, u39, u40, u41, u42, u43, u44, ((Value.int IntKind.i64 ((b0 : Nat) : Int))), ((Value.int IntKind.i64 ((k2 : Nat) : Int))), ((Value.bool true)), v48, v49, v50, v51, v52, v53, v54, u55, undef], defers := [] } ∧ Tz12K b n3 B2 k1 cr or q3 tl v cs W6 L v48 v49 v50 v51 v52 v53 v54 w) ?_ ?_ ?_
        ·exact ⟨_, _, _, _, _, _, _, rfl, ⟨⟨fun _ => HS6.out.keep hD0, HL6.out.keep hD0, fun _ => grown_of_below hD0, ⟨Fr3.low (hD0.mono hB2), Nat.le_trans hB2 hD0.size⟩, fun _ => HX36.out.keep hD0⟩, nofun, nofun, nofun, nofun, nofun, nofun, nofun, nofun⟩⟩
        ·intro iq oq ho L a w hL hd hJ
         obtain ⟨v48, v49, v50, v51, v52, v53, v54, rfl, k⟩ := hJ
         have hiq : iq < 8 := by have := (Array.getElem?_eq_some_iff.1 ho).1; simpa using this
         match iq, hiq, ho, hL with
         | 0, _, ho, hL =>
          have ho2 := ho
          simp only [qz1, qz2, qz3, qz4] at ho
          subst ho
          refine wpOp_step ho2 (fun K hK => ?_)
          go_simp
          exact hK _ _ ⟨_, _, _, _, _, _, _, rfl, ⟨k.wf, fun _ => rfl, k.f1, k.f2, k.f3, k.f4, k.f5, k.f6, k.f7⟩⟩
         | 1, _, ho, hL =>
          have ho2 := ho
          simp only [qz1, qz2, qz3, qz4] at ho
          subst ho
          refine wpOp_step ho2 (fun K hK => ?_)
          obtain rfl := k.f0 (hd ⟨0, .data⟩ (by simp) rfl)
          have h7 : L 7 = false := by
           cases h : L 7 with
           | false => rfl
           | true => exact absurd (hL.symm.trans (k.f7 h).2.1) (by decide)
          have hx := k.wf.2.2.2.2 h7
          have y1 := hx.c 1 _ rfl
          have ly := hx.lt
          go_simp
          exact hK _ _ ⟨_, _, _, _, _, _, _, rfl, ⟨k.wf, k.f0, fun _ => rfl, k.f2, k.f3, k.f4, fun h => absurd (hL.symm.trans (k.f5 h).2.1) (by decide), k.f6, fun h => absurd (hL.symm.trans (k.f5 (k.f7 h).1).2.1) (by decide)⟩⟩
         | 2, _, ho, hL =>
          have ho2 := ho
          simp only [qz1, qz2, qz3, qz4] at ho
          subst ho
          refine wpOp_step ho2 (fun K hK => ?_)
          go_simp
          exact hK _ _ ⟨_, _, _, _, _, _, _, rfl, ⟨k.wf, k.f0, k.f1, fun _ => rfl, k.f3, k.f4, k.f5, k.f6, k.f7⟩⟩
         | 3, _, ho, hL =>
          have ho2 := ho
          simp only [qz1, qz2, qz3, qz4] at ho
          subst ho
          refine wpOp_step ho2 (fun K hK => ?_)
          obtain rfl := k.f2 (hd ⟨2, .data⟩ (by simp) rfl)
          have h5 : L 5 = false := by
           cases h : L 5 with
           | false => rfl
           | true => exact absurd (hL.symm.trans (k.f4 (k.f5 h).1).1) (by decide)
          have hg := k.wf.2.2.1 h5
          have hz := hg.size
          have hcall := cell71 w b q3 tl (k.wf.1 hL) k.wf.2.1
          go_simp
          refine hcall.mono ?_
          intro e X hx
          cases hr : Fm.rdCell q3 with
          | none =>
           rw [hr] at hx
           obtain ⟨rfl, hG⟩ := hx.no
           have hfin := HP.out X (grown_trans hg hG) hr
           unfold malP at hfin ⊢
           exact ⟨rfl, hfin⟩
          | some p =>
           obtain ⟨c, q4⟩ := p
           rw [hr] at hx
           obtain ⟨v', rfl, hN, hS, hG⟩ := hx.yes
           obtain ⟨on, ol, orr, cn, cl, crr, rfl, -⟩ := hN.now
           have hN2 : New W6.heap.size X (fun X => CellAt X [.int .i64 c.joint, .int .i64 c.low, .int .i64 c.high, .int .i64 c.verd.kind, .slice on c.verd.normals.length cn, .int .i64 c.verd.pair, .slice ol c.verd.left.length cl, .slice orr c.verd.right.length crr] c) := fun Y hY => by
            obtain ⟨on', ol', orr', cn', cl', crr', e, s1, s2, s3⟩ := hN Y fun j hj => hY j ⟨Nat.le_trans hz hj.1, hj.2⟩
            injection e with e
            have e4 := congrArg (fun x => x[4]?) e
            have e6 := congrArg (fun x => x[6]?) e
            have e7 := congrArg (fun x => x[7]?) e
            simp at e4 e6 e7
            obtain ⟨rfl, rfl⟩ := e4
            obtain ⟨rfl, rfl⟩ := e6
            obtain ⟨rfl, rfl⟩ := e7
            exact ⟨_, _, _, _, _, _, rfl, s1, s2, s3⟩
           exact hK _ _ ⟨_, _, _, _, _, _, _, rfl, ⟨⟨nofun, k.wf.2.1.keepG hG h8, fun h => grown_trans (k.wf.2.2.1 h) hG, k.wf.2.2.2.1.grown hG, fun h => (k.wf.2.2.2.2 h).grown hG hnb⟩, k.f0, k.f1, k.f2, fun _ => ⟨c, q4, on, ol, orr, cn, cl, crr, hr, rfl, fun _ => hN2, hS⟩, fun h => absurd (hL.symm.trans (k.f4 h).1) (by decide), fun h => absurd (hL.symm.trans (k.f4 (k.f5 h).1).1) (by decide), k.f6, fun h => absurd (hL.symm.trans (k.f4 (k.f5 (k.f7 h).1).1).1) (by decide)⟩⟩
         | 4, _, ho, hL =>
          have ho2 := ho
          simp only [qz1, qz2, qz3, qz4] at ho
          subst ho
          refine wpOp_step ho2 (fun K hK => ?_)
          obtain ⟨c, q4, on, ol, orr, cn, cl, crr, hcell, rfl, hN, hS⟩ := k.f3 (hd ⟨3, .data⟩ (by simp) rfl)
          have h3 := hd ⟨3, .data⟩ (by simp) rfl
          have h5 : L 5 = false := by
           cases h : L 5 with
           | false => rfl
           | true => exact absurd (hL.symm.trans (k.f5 h).1) (by decide)
          have hb : Below w.heap.size w (w.alloc (.cells #[.int .i64 c.joint, .int .i64 c.low, .int .i64 c.high, .int .i64 c.verd.kind, .slice on c.verd.normals.length cn, .int .i64 c.verd.pair, .slice ol c.verd.left.length cl, .slice orr c.verd.right.length crr] 85)) := (Below.refl _ _).alloc (Nat.le_refl _) _
          have hbx := Bx.new w [.int .i64 c.joint, .int .i64 c.low, .int .i64 c.high, .int .i64 c.verd.kind, .slice on c.verd.normals.length cn, .int .i64 c.verd.pair, .slice ol c.verd.left.length cl, .slice orr c.verd.right.length crr] 85
          go_simp
          exact hK _ _ ⟨_, _, _, _, _, _, _, rfl, ⟨⟨fun h => absurd (h3.symm.trans h) (by decide), k.wf.2.1.keep hb, fun h => grown_call (k.wf.2.2.1 h) hb, k.wf.2.2.2.1.alloc hb, fun h => (k.wf.2.2.2.2 h).keep hb⟩, k.f0, k.f1, k.f2, fun _ => ⟨c, q4, on, ol, orr, cn, cl, crr, hcell, rfl, fun h => (hN h).keep (AgI.of hb), hS.keep hb⟩, fun _ => ⟨h3, w.heap.size, rfl, fun _ => ⟨_, rfl, hbx⟩⟩, fun h => absurd (hL.symm.trans (k.f5 h).1) (by decide), k.f6, fun h => absurd (hL.symm.trans (k.f5 (k.f7 h).1).1) (by decide)⟩⟩
         | 5, _, ho, hL =>
          have ho2 := ho
          simp only [qz1, qz2, qz3, qz4] at ho
          subst ho
          refine wpOp_step ho2 (fun K hK => ?_)
          obtain rfl := k.f1 (hd ⟨1, .data⟩ (by simp) rfl)
          obtain ⟨h3, q5, rfl, hq5⟩ := k.f4 (hd ⟨4, .data⟩ (by simp) rfl)
          have h4 := hd ⟨4, .data⟩ (by simp) rfl
          have h1 := hd ⟨1, .data⟩ (by simp) rfl
          obtain ⟨c, q4, on, ol, orr, cn, cl, crr, hcell, rfl, hN, hS⟩ := k.f3 h3
          obtain ⟨c8, e8, hbx⟩ := hq5 hL
          injection e8 with e8
          have e8 := congrArg Array.toList e8
          simp only [List.toList_toArray] at e8
          subst e8
          have hg := k.wf.2.2.1 hL
          have hz : B2 ≤ w.heap.size := Nat.le_trans hB2 hg.size
          have hag := grown_ag hg B2 hbB
          have hV2 := HRV.out.keep hag
          have hVl := HRV.out.len
          refine step_append_lies _ rfl (.tmp 49) (.tmp 52) 34 rfl B2 85 i0 (.agg #[.int .i64 0, .int .i64 0, .int .i64 0, .int .i64 0, .slice none 0 0, .int .i64 0, .slice none 0 0, .slice none 0 0]) 8 112 under34 hi0 hz0 hz1 hz2 rfl (by decide) _ rows.length rows.flatten (by simp [Act.eval]) hV2.own ⟨q5, 0, none⟩ 1 1 [.int .i64 c.joint, .int .i64 c.low, .int .i64 c.high, .int .i64 c.verd.kind, .slice on c.verd.normals.length cn, .int .i64 c.verd.pair, .slice ol c.verd.left.length cl, .slice orr c.verd.right.length crr] (by simp [Act.eval]) rfl (World.news_of_block hbx.h) (by intro u hu; simp at hu; rcases hu with rfl | rfl | rfl | rfl | rfl | rfl | rfl | rfl <;> rfl) (by decide) (by unfold maxLen; omega) (by omega) hz _ rfl ?_
          intro gN cN X hown hgrow hat hltN
          have hrow := HRV.out.app (W2 := w) (x := c) (D := CellAt) hag (hN hL) rfl (Below.refl _ _) hown hgrow (hat.elim (fun e => .inl e.symm) (fun e => .inr (by rw [e]; rfl))) hB2
          have hbX : Below B2 w X := grown_below hV2.own hgrow hz
          have hx7 := fun (h : L 7 = false) => (k.wf.2.2.2.2 h).low hbX hnB
          rw [hVl] at hrow ⊢
          exact hK _ _ ⟨_, _, _, _, _, _, _, rfl, ⟨⟨fun h => absurd (h3.symm.trans h) (by decide), k.wf.2.1.lowB hbX h8B, nofun, k.wf.2.2.2.1.low hbX, hx7⟩, k.f0, k.f1, k.f2, fun _ => ⟨c, q4, on, ol, orr, cn, cl, crr, hcell, rfl, nofun, hS.keepA hbX hbB⟩, fun _ => ⟨h3, q5, rfl, nofun⟩, fun _ => ⟨h4, h1, c, q4, gN, cN, hcell, rfl, hrow, hS.keepA hbX hbB⟩, k.f6, fun h => absurd (hL.symm.trans (k.f7 h).1) (by decide)⟩⟩
         | 6, _, ho, hL =>
          have ho2 := ho
          simp only [qz1, qz2, qz3, qz4] at ho
          subst ho
          refine wpOp_step ho2 (fun K hK => ?_)
          go_simp
          exact hK _ _ ⟨_, _, _, _, _, _, _, rfl, ⟨k.wf, k.f0, k.f1, k.f2, k.f3, k.f4, k.f5, fun _ => rfl, k.f7⟩⟩
         | 7, _, ho, hL =>
          have ho2 := ho
          simp only [qz1, qz2, qz3, qz4] at ho
          subst ho
          refine wpOp_step ho2 (fun K hK => ?_)
          obtain ⟨h4, h1, c, q4, g5, c5, hcell, rfl, hrow, hS⟩ := k.f5 (hd ⟨5, .data⟩ (by simp) rfl)
          obtain rfl := k.f6 (hd ⟨6, .data⟩ (by simp) rfl)
          have h5 := hd ⟨5, .data⟩ (by simp) rfl
          have h3 := (k.f4 h4).1
          have hx := k.wf.2.2.2.2 hL
          have c1 := hx.c 1 _ rfl
          have f1 := hx.f 1
          have lx := hx.lt
          have hp := hx.put2 (.slice (some ⟨g5, 0, none⟩) (cs.length + 1) c5)
          have hrow2 := hrow.keep (AgI.set (lo := B2) w (n := n3) (i := 1) (.slice (some ⟨g5, 0, none⟩) (cs.length + 1) c5) hnB)
          have hS2 := hS.other (n := n3) (i := 1) (.slice (some ⟨g5, 0, none⟩) (cs.length + 1) c5) (Ne.symm hnb)
          have hL2 := k.wf.2.1.setB (n := n3) (i := 1) (.slice (some ⟨g5, 0, none⟩) (cs.length + 1) c5) h8n
          go_simp
          exact hK _ _ ⟨_, _, _, _, _, _, _, rfl, ⟨⟨fun h => absurd (h3.symm.trans h) (by decide), hL2, fun h => absurd (h5.symm.trans h) (by decide), k.wf.2.2.2.1.set 1 _, nofun⟩, k.f0, k.f1, k.f2, fun h => (k.f3 h).imp fun c h => h.imp fun q4 h => h.imp fun on h => h.imp fun ol h => h.imp fun orr h => h.imp fun cn h => h.imp fun cl h => h.imp fun crr h => ⟨h.1, h.2.1, fun e => absurd (h5.symm.trans e) (by decide), h.2.2.2.other (n := n3) (i := 1) (.slice (some ⟨g5, 0, none⟩) (cs.length + 1) c5) (Ne.symm hnb)⟩, fun h => ⟨(k.f4 h).1, (k.f4 h).2.imp fun q h => ⟨h.1, fun e => absurd (h5.symm.trans e) (by decide)⟩⟩, fun _ => ⟨h4, h1, c, q4, g5, c5, hcell, rfl, hrow2, hS2⟩, k.f6, fun _ => ⟨h5, h1, hp⟩⟩⟩
         | n + 8, h, _, _ => omega
        ·intro L a w hL hJ
         obtain ⟨v48, v49, v50, v51, v52, v53, v54, rfl, k⟩ := hJ
         obtain rfl := k.f0 (hL 0 (by decide))
         obtain rfl := k.f1 (hL 1 (by decide))
         obtain rfl := k.f2 (hL 2 (by decide))
         obtain rfl := k.f6 (hL 6 (by decide))
         obtain ⟨h5, -, hx⟩ := k.f7 (hL 7 (by decide))
         obtain ⟨h4, -, c, q4, g5, c5, hcell, rfl, hrow, hS⟩ := k.f5 h5
         obtain ⟨h3, q9, rfl, -⟩ := k.f4 h4
         obtain ⟨c9, q9', on9, ol9, or9, cn9, cl9, cr9, -, rfl, -⟩ := k.f3 h3
         have hF2 := k.wf.2.2.2.1.fr
         have HXF := Lib.hid hx
         have HRF := Lib.hid hrow
         have HSF := Lib.hid hS
         have HFF := Lib.hid (HF6.out.trans hF2)
         have HRN := Lib.hid (HR6.out.step hlt hcell)
         dsimp only
         clear k hL hx hrow hF2 hS hcell
         go_wp2_with fail
         go_roundw
         case rel => exact ⟨k2 + 1, cs ++ [c], q4, _, by omega, by simp, HRN.out, HXF.out, HRF.out, HSF.out, HFF.out⟩
         case measure => simp [intOf]; omega
       ·have hke : k2 = b0 := by omega
        subst hke
        have hd : decide ((k2 : Int) < (k2 : Int)) = false := by simp
        have hd2 : decide (k2 < k2) = false := by simp
        obtain ⟨oc, cc, rfl, hCN, -, -⟩ := HRow6.out.done
        have hcl : cs.length = k2 := HR6.out.2.1
        rw [hcl] at HX36
        have HCN := Lib.hid hCN
        have HOT := Lib.hid (HO.out.symm.trans (Fm.rdTree_yes HQ.out HCA.out.1 HCA.out.2 HQ4.out (by rw [Int.toNat_natCast]; exact HR6.out.done)))
        have HCL := Lib.hid hcl
        have y0 := HX36.out.c 0 _ rfl
        have y1 := HX36.out.c 1 _ rfl
        have ly := HX36.out.lt
        have hnn := HNN.out
        have hb2 := HB2.out
        have hl2 := HX25.out.lt
        have hx2 : Bx W6 n2 [.slice none 0 0, .slice none 0 0] 36 := ⟨(HF6.out.block n2 (by omega) (by omega) (by omega)).trans HX25.out.h⟩
        have c0 := hx2.c 0 _ rfl
        have c1 := hx2.c 1 _ rfl
        have f0 := hx2.f 0
        have f1 := hx2.f 1
        have l6 := hx2.lt
        have hA := hx2.put1 (.slice or k1 cr)
        have c1A := hA.c 1 _ rfl
        have f1A := hA.f 1
        have HXF := Lib.hid (put_two hx2 (.slice or k1 cr) (.slice oc k2 cc))
        have HBF := Lib.hid (((Below.refl W.heap.size W6).setCell (p := ⟨n2, 0, none⟩) hnn.1 (.slice or k1 cr)).setCell (p := ⟨n2, 1, none⟩) hnn.1 (.slice oc k2 cc))
        have HBK : Hid (∀ j, j ≠ n2 → ((W6.setCell ⟨n2, 0, none⟩ (.slice or k1 cr)).setCell ⟨n2, 1, none⟩ (.slice oc k2 cc)).heap[j]? = W6.heap[j]?) := Lib.hid (fun j hj => by rw [Below.heap_setCell _ ⟨n2, 1, none⟩ _ j hj, Below.heap_setCell _ ⟨n2, 0, none⟩ _ j hj])
        have HSQ : Hid (((W6.setCell ⟨n2, 0, none⟩ (.slice or k1 cr)).setCell ⟨n2, 1, none⟩ (.slice oc k2 cc)).heap.size = W6.heap.size) := Lib.hid (by simp [World.setCell])
        have HGF := Lib.hid (grown_low2 HG6.out HBF.out (Nat.le_refl _))
        clear hA hx2 hCN hcl hb2
        go_wp2
        generalize (W6.setCell ⟨n2, 0, none⟩ (.slice or k1 cr)).setCell ⟨n2, 1, none⟩ (.slice oc k2 cc) = XF at HXF HGF HBK HSQ ⊢
        have c0F := HXF.out.c 0 _ rfl
        have c1F := HXF.out.c 1 _ rfl
        refine bodyPost_ret (v := .agg #[.slice or k1 cr, .slice oc k2 cc]) (by simp [results, Tryz.results44, go_sem, c0F, c1F]) rfl ?_
        have hbs := hBs.out
        have hbb := HBB.out
        have hb2 := HB2.out
        have hb4 := HB4.out
        have hsz := HSQ.out
        refine RdP.mk (x := ⟨Fm.pairs es, cs⟩) HOT.out (fun W' hW' => ?_) ?_ HGF.out
        ·have hne : ∀ j, n2 < j → j < W6.heap.size → W'.heap[j]? = W6.heap[j]? := fun j h1 h2 => by
          rw [hW' j ⟨by omega, by omega⟩, HBK.out j (by omega)]
         have q1 := HRN.out W' fun j hj => by
          have h1 := hj.1
          have h2 := hj.2
          rw [hne j (by omega) (by omega)]
          exact HF6.out.block j (by omega) (by omega) (by omega)
         have q2' := HCN.out W' fun j hj => hne j (by have := hj.1; omega) hj.2
         exact ⟨or, cr, oc, cc, by rw [HPL.out, HCL.out], ivs_of q1, q2'⟩
        ·obtain ⟨⟨s', hs1, hs2, hs3⟩, hs4⟩ := HS6.out
         exact ⟨⟨s', ⟨(HBK.out b (by omega)).trans hs1.h⟩, hs2, hs3⟩, hs4⟩
end Go.Proofs.Ng
