/-
  Texts put together: Cf.
-/
import Derived.Test.YthcmkpcefiiiaaaGreatDoorZFormatCanonicalCard6
set_option linter.unusedVariables false
/-
 Walks: an edge. Printed by gen_cf.py.
-/
namespace Go.Proofs.Ng
open Go.RowKit
/-- An edge's value. -/
def EdgeV (v : Value) (e : Fm.EdgeD) (W : World) : Prop := ∃ ot nt ou nu, v = .agg #[.slice ot e.table.length nt, .slice ou e.uses.length nu] ∧ Rws VecD 3 W ot e.table ∧ Rws UseAt 3 W ou e.uses
structure Ed2K (b n2 g off cap : Nat) (na nb : Int) (W1 : World) (L : Nat → Bool) (v4 v5 v10 v11 v12 v13 v14 v15 v16 v17 : Value) (w : World) : Prop where
 wf : Below W1.heap.size W1 w
 f0 : L 0 = true → v10 = .slice (some ⟨g, off, none⟩) 2 cap
 f1 : L 1 = true → v11 = .pointer (some ⟨g, off, none⟩)
 f2 : L 2 = true → v12 = .int .i64 na
 f3 : L 3 = true → Fm.cntOk na = true ∧ v13 = .int .i64 na
 f4 : L 4 = true → v14 = .slice (some ⟨g, off, none⟩) 2 cap
 f5 : L 5 = true → v15 = .pointer (some ⟨g, off + 1, none⟩)
 f6 : L 6 = true → v16 = .int .i64 nb
 f7 : L 7 = true → Fm.cntOk nb = true ∧ v17 = .int .i64 nb
 f8 : L 8 = true → v4 = .int .i64 na
 f9 : L 9 = true → v5 = .int .i64 nb
def Ed2J (b n2 g off cap : Nat) (na nb : Int) (W1 : World) (L : Nat → Bool) (a : Act) (w : World) : Prop := ∃ v4 v5 v10 v11 v12 v13 v14 v15 v16 v17 : Value, a = { tmps := #[.pointer (some ⟨b, 0, none⟩), undef, .pointer (some ⟨n2, 0, none⟩), .slice (some ⟨g, off, none⟩) 2 cap, v4, v5, undef, undef, .pointer (some ⟨b, 0, none⟩), .slice (some ⟨g, off, none⟩) 2 cap, v10, v11, v12, v13, v14, v15, v16, v17, undef, undef, undef, undef, undef, undef, undef, undef, undef, undef, undef, undef, undef, undef, undef, undef, undef, undef, undef, undef, undef, undef, undef, undef, undef, undef, undef, undef, undef, undef, undef, undef], defers := [] } ∧ Ed2K b n2 g off cap na nb W1 L v4 v5 v10 v11 v12 v13 v14 v15 v16 v17 w
/-- A slice over one number. -/
def IntAt (w : World) (v : Value) (d : Int) : Prop := ∃ g o c, v = .slice (some ⟨g, o, none⟩) 1 c ∧ w.cell? ⟨g, o, none⟩ = some (.int .i64 d) ∧ g < w.heap.size
theorem IntAt.keep {w X : World} {v : Value} {d : Int} (h : IntAt w v d) (hb : Below w.heap.size w X) : IntAt X v d := by
 obtain ⟨g, o, c, e, x, l⟩ := h
 exact ⟨g, o, c, e, (hb.cell (p := ⟨g, o, none⟩) l).trans x, Nat.lt_of_lt_of_le l hb.size⟩
theorem IntAt.of {w : World} {v : Value} {d : Int} (h : NumV v [d] w) : IntAt w v d := by
 obtain ⟨oa, cap, rfl, _, hs⟩ := h
 obtain ⟨g, off, rfl, hra⟩ := hs (by simp [pvals])
 exact ⟨g, off, cap, rfl, hra.c 0 _ rfl 0 _ rfl, hra.lt⟩
/-- A pointer to a number. -/
def PtrAt (w : World) (v : Value) (d : Int) : Prop := ∃ g o, v = .pointer (some ⟨g, o, none⟩) ∧ w.cell? ⟨g, o, none⟩ = some (.int .i64 d) ∧ g < w.heap.size
theorem PtrAt.keep {w X : World} {v : Value} {d : Int} (h : PtrAt w v d) (hb : Below w.heap.size w X) : PtrAt X v d := by
 obtain ⟨g, o, e, x, l⟩ := h
 exact ⟨g, o, e, (hb.cell (p := ⟨g, o, none⟩) l).trans x, Nat.lt_of_lt_of_le l hb.size⟩
/-- Numbers that were made since W5. -/
def NumW (W5 w : World) (v : Value) (ns : List Int) : Prop := New W5.heap.size w (NumV v ns)
theorem NumW.keep {W5 w X : World} {v : Value} {ns : List Int} (h : NumW W5 w v ns) (hb : Below w.heap.size w X) : NumW W5 X v ns := New.keep h (AgI.of hb)
theorem NumW.of {W5 w X : World} {v : Value} {ns : List Int} (h : New w.heap.size X (NumV v ns)) (hl : W5.heap.size ≤ w.heap.size) : NumW W5 X v ns := fun W' hW' => h W' fun k hk => hW' k ⟨Nat.le_trans hl hk.1, hk.2⟩
theorem NumW.form {W5 w : World} {v : Value} {ns : List Int} (h : NumW W5 w v ns) : ∃ o c, v = .slice o ns.length c := by
 obtain ⟨o, c, e, _⟩ := h.now
 exact ⟨o, c, e⟩
theorem info54 : (Tryz.prog.info? 75).map (fun i => (i.zero, i.size, i.bytes)) = some (some (.agg #[.int .i64 0, .int .i64 0, .slice none 0 0]), 3, 40) := by kernel_rfl
theorem under50 : Tryz.prog.underlying 71 = some (.slice 75) := by kernel_rfl
theorem Bx.put2 {W : World} {b : Nat} {x v : Value} {ty : TypeId} (h : Bx W b [x, v] ty) (u : Value) : Bx (W.setCell ⟨b, 1, none⟩ u) b [x, u] ty := ⟨by simp [World.setCell, Array.getElem?_modify, h.h]⟩
theorem Bx.put1 {W : World} {b : Nat} {x v : Value} {ty : TypeId} (h : Bx W b [x, v] ty) (u : Value) : Bx (W.setCell ⟨b, 0, none⟩ u) b [u, v] ty := ⟨by simp [World.setCell, Array.getElem?_modify, h.h]⟩
theorem RdS.line_len {W : World} {b : Nat} {ls r : List (List UInt8)} {tl kw : List UInt8} {ns : List Int} (h : RdS W b ls tl) (hr : Fm.rdLine kw ls = some (ns, r)) : ns.length ≤ 1048576 := by
 obtain ⟨s, _, h2, h3⟩ := h.ex
 have h4 := Fm.lines_un s.data.toList
 rw [h2] at h4
 have h5 := congrArg List.length h4
 rw [Array.length_toList] at h5
 cases ls with
 | nil => cases hr
 | cons l lt =>
  unfold Fm.rdLine at hr
  simp only at hr
  split at hr
  ·rename_i e
   injection hr with hr
   injection hr with hr _
   subst hr
   unfold Fm.numsOf at e
   have h6 := Fm.splitC_len 32 l
   split at e
   ·cases e
   ·rename_i e2
    rw [e2] at h6
    split at e
    ·have := Fm.mapM_len e
     rw [Fm.nlF_cons] at h5
     simp only [List.length_append, List.length_cons] at h5 h6
     have h7 : s.data.size = s.size := rfl
     omega
    ·cases e
  ·cases hr
structure Ed8K (b n2 n6 g off cap g7 o7 cap7 na nb k0 nt : Nat) (ot : Option Addr) (d i : Int) (nums : List Int) (us : List Fm.UseD) (v u48 : Value) (W5 : World) (L : Nat → Bool) (v31 v32 v33 v34 v35 v36 v37 v38 v39 v40 v41 v42 v43 v44 v45 v46 v47 : Value) (w : World) : Prop where
 wf : L 15 = false → Below W5.heap.size W5 w
 f0 : L 0 = true → v31 = .pointer (some ⟨n6, 1, none⟩)
 f1 : L 1 = true → v32 = v
 f2 : L 2 = true → v33 = .slice (some ⟨g7, o7, none⟩) (nums.length + 1 + 1) cap7
 f3 : L 3 = true → v34 = .slice (some ⟨g7, o7, none⟩) 1 cap7
 f4 : L 4 = true → L 15 = false → IntAt w v35 d
 f5 : L 5 = true → L 15 = false → PtrAt w v36 d
 f6 : L 6 = true → v37 = .int .i64 d
 f7 : L 7 = true → v38 = .slice (some ⟨g7, o7, none⟩) (nums.length + 1 + 1) cap7
 f8 : L 8 = true → v39 = .pointer (some ⟨g7, o7 + 1, none⟩)
 f9 : L 9 = true → v40 = .int .i64 i
 f10 : L 10 = true → v41 = .slice (some ⟨g7, o7, none⟩) (nums.length + 1 + 1) cap7
 f11 : L 11 = true → ∃ o c, v42 = .slice o nums.length c ∧ (nums ≠ [] → o = some ⟨g7, o7 + 2, none⟩)
 f12 : L 12 = true → L 15 = false → NumW W5 w v43 nums
 f13 : L 13 = true → L 15 = false → ∃ o c, v44 = .agg #[.int .i64 d, .int .i64 i, .slice o nums.length c] ∧ NumW W5 w (.slice o nums.length c) nums
 f14 : L 14 = true → L 15 = false → ∃ o c g45, v45 = .slice (some ⟨g45, 0, none⟩) 1 1 ∧ Bx w g45 [.int .i64 d, .int .i64 i, .slice o nums.length c] 75 ∧ NumW W5 w (.slice o nums.length c) nums
 f15 : L 15 = true → RowO UseAt 75 3 (n6 + 1) w v46 (us ++ [⟨d, i, nums⟩]) ∧ Below n6 W5 w ∧ (L 17 = false → Bx w n6 [.slice ot na nt, v] 73)
 f16 : L 16 = true → v47 = .pointer (some ⟨n6, 1, none⟩)
 f17 : L 17 = true → Bx w n6 [.slice ot na nt, v46] 73
 c1_0 : L 1 = true → L 0 = true
 c3_2 : L 3 = true → L 2 = true
 c4_3 : L 4 = true → L 3 = true
 c5_4 : L 5 = true → L 4 = true
 c6_5 : L 6 = true → L 5 = true
 c8_7 : L 8 = true → L 7 = true
 c9_8 : L 9 = true → L 8 = true
 c11_10 : L 11 = true → L 10 = true
 c12_11 : L 12 = true → L 11 = true
 c13_6 : L 13 = true → L 6 = true
 c13_9 : L 13 = true → L 9 = true
 c13_12 : L 13 = true → L 12 = true
 c14_13 : L 14 = true → L 13 = true
 c15_1 : L 15 = true → L 1 = true
 c15_14 : L 15 = true → L 14 = true
 c17_15 : L 17 = true → L 15 = true
 c17_16 : L 17 = true → L 16 = true
def Ed8J (b n2 n6 g off cap g7 o7 cap7 na nb k0 nt : Nat) (ot : Option Addr) (d i : Int) (nums : List Int) (us : List Fm.UseD) (v u48 : Value) (W5 : World) (L : Nat → Bool) (a : Act) (w : World) : Prop := ∃ v31 v32 v33 v34 v35 v36 v37 v38 v39 v40 v41 v42 v43 v44 v45 v46 v47 : Value, a = { tmps := #[.pointer (some ⟨b, 0, none⟩), undef, .pointer (some ⟨n2, 0, none⟩), .slice (some ⟨g, off, none⟩) 2 cap, .int .i64 (na : Nat), .int .i64 (nb : Nat), .pointer (some ⟨n6, 0, none⟩), .slice (some ⟨g7, o7, none⟩) (nums.length + 1 + 1) cap7, .pointer (some ⟨b, 0, none⟩), .slice (some ⟨g, off, none⟩) 2 cap, .slice (some ⟨g, off, none⟩) 2 cap, .pointer (some ⟨g, off, none⟩), .int .i64 (na : Nat), .int .i64 (na : Nat), .slice (some ⟨g, off, none⟩) 2 cap, .pointer (some ⟨g, off + 1, none⟩), .int .i64 (nb : Nat), .int .i64 (nb : Nat), .pointer (some ⟨b, 0, none⟩), .int .i64 (na : Nat), .slice ot na nt, .agg #[.slice ot na nt, .slice none 0 0], .int .i64 (nb : Nat), .int .i64 (k0 : Nat), .bool true, .pointer (some ⟨b, 0, none⟩), .slice (some ⟨g7, o7, none⟩) (nums.length + 1 + 1) cap7, .slice (some ⟨g7, o7, none⟩) (nums.length + 1 + 1) cap7, .int .i64 ((nums.length : Int) + 1 + 1), .bool true, .tuple #[], v31, v32, v33, v34, v35, v36, v37, v38, v39, v40, v41, v42, v43, v44, v45, v46, v47, u48, undef], defers := [] } ∧ Ed8K b n2 n6 g off cap g7 o7 cap7 na nb k0 nt ot d i nums us v u48 W5 L v31 v32 v33 v34 v35 v36 v37 v38 v39 v40 v41 v42 v43 v44 v45 v46 v47 w
theorem Ed8K.keep {b n2 n6 g off cap g7 o7 cap7 na nb k0 nt : Nat} {ot : Option Addr} {d i : Int} {nums : List Int} {us : List Fm.UseD} {v u48 : Value} {W5 : World} {L : Nat → Bool} {v31 v32 v33 v34 v35 v36 v37 v38 v39 v40 v41 v42 v43 v44 v45 v46 v47 : Value} {w X : World} (k : Ed8K b n2 n6 g off cap g7 o7 cap7 na nb k0 nt ot d i nums us v u48 W5 L v31 v32 v33 v34 v35 v36 v37 v38 v39 v40 v41 v42 v43 v44 v45 v46 v47 w) (h15 : L 15 = false) (hb : Below w.heap.size w X) : Ed8K b n2 n6 g off cap g7 o7 cap7 na nb k0 nt ot d i nums us v u48 W5 L v31 v32 v33 v34 v35 v36 v37 v38 v39 v40 v41 v42 v43 v44 v45 v46 v47 X :=
 ⟨fun h => below_call (k.wf h) hb, k.f0, k.f1, k.f2, k.f3, fun h e => (k.f4 h e).keep hb, fun h e => (k.f5 h e).keep hb, k.f6, k.f7, k.f8, k.f9, k.f10, k.f11, fun h e => (k.f12 h e).keep hb, fun h e => (k.f13 h e).elim fun o h => h.elim fun c h => ⟨o, c, h.1, h.2.keep hb⟩, fun h e => (k.f14 h e).elim fun o h => h.elim fun c h => h.elim fun g h => ⟨o, c, g, h.1, h.2.1.keep hb, h.2.2.keep hb⟩, fun h => absurd (h15.symm.trans h) (by decide), k.f16, fun h => absurd (h15.symm.trans (k.c17_15 h)) (by decide), k.c1_0, k.c3_2, k.c4_3, k.c5_4, k.c6_5, k.c8_7, k.c9_8, k.c11_10, k.c12_11, k.c13_6, k.c13_9, k.c13_12, k.c14_13, k.c15_1, k.c15_14, k.c17_15, k.c17_16⟩
set_option maxRecDepth 100000 in
set_option maxHeartbeats 8000000 in
theorem edge68 (W : World) (b : Nat) (ls : List (List UInt8)) (tl : List UInt8) (h : RdS W b ls tl) (hL : LibW W) :
  Calls Tryz.prog 70 #[.pointer (some ⟨b, 0, none⟩)] W (RdP b tl EdgeV W (Fm.rdEdge ls)) := by
 generalize hO : Fm.rdEdge ls = o
 have hb1 : Below W.heap.size W (W.alloc (.cells #[.slice none 0 0, .slice none 0 0] 73)) := (Below.refl _ _).alloc (Nat.le_refl _) _
 have h8 := h.lo
 have hlt0 := h.lt
 have HBX := Lib.hid (Bx.new W [.slice none 0 0, .slice none 0 0] 73)
 have HL := Lib.hid (hL.keep hb1)
 have HC := Lib.hid (exactly65 (W.alloc (.cells #[.slice none 0 0, .slice none 0 0] 73)) b ⟨#[101, 100, 103, 101]⟩ ls tl 2 (h.keep hb1) HL.out)
 have HB := Lib.hid hb1
 have HNE : Hid (b < W.heap.size) := Lib.hid hlt0
 clear hb1 h hL
 unfold Fm.rdEdge at hO
 cases hq : Fm.rdN Fm.kwEdge 2 ls with
 | none =>
  rw [hq] at hO
  rw [show Fm.rdN (⟨#[101, 100, 103, 101]⟩ : ByteArray).data.toList 2 ls = none from hq] at HC
  have HO := Lib.hid hO
  clear hO hq
  go_enter Tryz.func70, Tryz.ntmps70
  go_wp2_with fail
  refine HC.out.mono ?_
  rintro e W1 h1
  obtain ⟨rfl, hG⟩ := h1.no
  have HG := Lib.hid (grown_trans (grown_of_below HB.out) hG)
  clear h1 hG HC
  unfold malP
  go_wp2
  exact ⟨rfl, RdP.mkno HO.out.symm HG.out⟩
 | some p =>
  obtain ⟨ns, q⟩ := p
  obtain ⟨na, nb, rfl⟩ := Fm.rdN_two hq
  rw [hq] at hO
  rw [show Fm.rdN (⟨#[101, 100, 103, 101]⟩ : ByteArray).data.toList 2 ls = some ([na, nb], q) from hq] at HC
  simp only at hO
  have HIN := Lib.hid (Fm.rdN_in hq)
  have HO := Lib.hid hO
  clear hq hO
  go_enter Tryz.func70, Tryz.ntmps70
  go_wp2_with fail
  refine HC.out.mono ?_
  rintro e W1 h1
  obtain ⟨v, rfl, hN, hS, hG⟩ := h1.yes
  obtain ⟨oa, cap, rfl, hcap, hs⟩ := hN.now
  obtain ⟨g, off, rfl, hra⟩ := hs (by simp [pvals])
  have HX0 : Hid (W1.cell? ⟨g, off, none⟩ = some (.int .i64 na)) := Lib.hid (hra.c 0 _ rfl 0 _ rfl)
  have HX1 : Hid (W1.cell? ⟨g, off + 1, none⟩ = some (.int .i64 nb)) := Lib.hid (hra.c 1 _ rfl 0 _ rfl)
  have glt := hra.lt
  have HG := Lib.hid (grown_trans (grown_of_below HB.out) hG)
  have HS := Lib.hid hS
  have HBX2 : Hid (Bx W1 W.heap.size [.slice none 0 0, .slice none 0 0] 73) := Lib.hid ⟨(hG.block _ HBX.out.lt (fun e => by injection e with e; omega)).trans HBX.out.h⟩
  have HL1 := Lib.hid (HL.out.keepG hG h8)
  have HP : Hid (∀ X, Below W1.heap.size W1 X → (¬ Fm.cntOk na = true ∨ ¬ Fm.cntOk nb = true) → RdP b tl EdgeV W o (.panicked [{ v := .iface 133 (.agg #[]), recovered := false }]) X) := Lib.hid (fun X h hc => RdP.mkno (by
   rw [← HO.out, if_neg]
   rw [Bool.and_eq_true]
   exact fun h => hc.elim (fun h1 => h1 h.1) (fun h1 => h1 h.2)) (grown_call HG.out h))
  clear h1 hN hS hG hs hra HC HBX HL hcap
  go_wp2_with fail
  refine wp_region_inv (by kernel_rfl) (by kernel_rfl) (Ed2J b W.heap.size g off cap na nb W1) ?_ ?_ ?_
  ·exact ⟨_, _, _, _, _, _, _, _, _, _, rfl, ⟨below_drew W1 1, nofun, nofun, nofun, nofun, nofun, nofun, nofun, nofun, nofun, nofun⟩⟩
  ·intro iq oq ho L a w hL hd hJ
   obtain ⟨v4, v5, v10, v11, v12, v13, v14, v15, v16, v17, rfl, k⟩ := hJ
   have hiq : iq < 10 := by have := (Array.getElem?_eq_some_iff.1 ho).1; simpa using this
   match iq, hiq, ho, hL with
   | 0, _, ho, hL =>
    have ho2 := ho
    simp only [qz1, qz2, qz3, qz4] at ho
    subst ho
    refine wpOp_step ho2 (fun K hK => ?_)
    go_simp
    exact hK _ _ ⟨_, _, _, _, _, _, _, _, _, _, rfl, ⟨k.wf, fun _ => rfl, k.f1, k.f2, k.f3, k.f4, k.f5, k.f6, k.f7, k.f8, k.f9⟩⟩
   | 1, _, ho, hL =>
    have ho2 := ho
    simp only [qz1, qz2, qz3, qz4] at ho
    subst ho
    refine wpOp_step ho2 (fun K hK => ?_)
    obtain rfl := k.f0 (hd ⟨0, .data⟩ (by simp) rfl)
    go_simp
    exact hK _ _ ⟨_, _, _, _, _, _, _, _, _, _, rfl, ⟨k.wf, k.f0, fun _ => rfl, k.f2, k.f3, k.f4, k.f5, k.f6, k.f7, k.f8, k.f9⟩⟩
   | 2, _, ho, hL =>
    have ho2 := ho
    simp only [qz1, qz2, qz3, qz4] at ho
    subst ho
    refine wpOp_step ho2 (fun K hK => ?_)
    obtain rfl := k.f1 (hd ⟨1, .data⟩ (by simp) rfl)
    have x0 : w.cell? ⟨g, off, none⟩ = some (.int .i64 na) := (k.wf.cell (p := ⟨g, off, none⟩) glt).trans HX0.out
    have gw : g < w.heap.size := Nat.lt_of_lt_of_le glt k.wf.size
    go_simp
    exact hK _ _ ⟨_, _, _, _, _, _, _, _, _, _, rfl, ⟨k.wf, k.f0, k.f1, fun _ => rfl, k.f3, k.f4, k.f5, k.f6, k.f7, k.f8, k.f9⟩⟩
   | 3, _, ho, hL =>
    have ho2 := ho
    simp only [qz1, qz2, qz3, qz4] at ho
    subst ho
    refine wpOp_step ho2 (fun K hK => ?_)
    obtain rfl := k.f2 (hd ⟨2, .data⟩ (by simp) rfl)
    by_cases hc : Fm.cntOk na = true
    ·have hcc : Calls Tryz.prog 67 #[.int .i64 na] w (fun e W' => e = .returned (.int .i64 na) ∧ W' = w) := (count64 na w).mono fun e W' h => by rw [if_pos hc] at h; exact h
     go_simp
     refine hcc.mono ?_
     rintro e X ⟨rfl, hX⟩
     subst hX
     exact hK _ _ ⟨_, _, _, _, _, _, _, _, _, _, rfl, ⟨k.wf, k.f0, k.f1, k.f2, fun _ => ⟨hc, rfl⟩, k.f4, k.f5, k.f6, k.f7, k.f8, k.f9⟩⟩
    ·have hcc : Calls Tryz.prog 67 #[.int .i64 na] w (fun e W' => e = .panicked [{ v := .iface 133 (.agg #[]), recovered := false }] ∧ W' = w) := (count64 na w).mono fun e W' h => by rw [if_neg hc] at h; exact h
     go_simp
     refine hcc.mono ?_
     rintro e X ⟨rfl, hX⟩
     subst hX
     exact ⟨rfl, HP.out _ k.wf (.inl hc)⟩
   | 4, _, ho, hL =>
    have ho2 := ho
    simp only [qz1, qz2, qz3, qz4] at ho
    subst ho
    refine wpOp_step ho2 (fun K hK => ?_)
    go_simp
    exact hK _ _ ⟨_, _, _, _, _, _, _, _, _, _, rfl, ⟨k.wf, k.f0, k.f1, k.f2, k.f3, fun _ => rfl, k.f5, k.f6, k.f7, k.f8, k.f9⟩⟩
   | 5, _, ho, hL =>
    have ho2 := ho
    simp only [qz1, qz2, qz3, qz4] at ho
    subst ho
    refine wpOp_step ho2 (fun K hK => ?_)
    obtain rfl := k.f4 (hd ⟨4, .data⟩ (by simp) rfl)
    go_simp
    exact hK _ _ ⟨_, _, _, _, _, _, _, _, _, _, rfl, ⟨k.wf, k.f0, k.f1, k.f2, k.f3, k.f4, fun _ => rfl, k.f6, k.f7, k.f8, k.f9⟩⟩
   | 6, _, ho, hL =>
    have ho2 := ho
    simp only [qz1, qz2, qz3, qz4] at ho
    subst ho
    refine wpOp_step ho2 (fun K hK => ?_)
    obtain rfl := k.f5 (hd ⟨5, .data⟩ (by simp) rfl)
    have x1 : w.cell? ⟨g, off + 1, none⟩ = some (.int .i64 nb) := (k.wf.cell (p := ⟨g, off + 1, none⟩) glt).trans HX1.out
    have gw : g < w.heap.size := Nat.lt_of_lt_of_le glt k.wf.size
    go_simp
    exact hK _ _ ⟨_, _, _, _, _, _, _, _, _, _, rfl, ⟨k.wf, k.f0, k.f1, k.f2, k.f3, k.f4, k.f5, fun _ => rfl, k.f7, k.f8, k.f9⟩⟩
   | 7, _, ho, hL =>
    have ho2 := ho
    simp only [qz1, qz2, qz3, qz4] at ho
    subst ho
    refine wpOp_step ho2 (fun K hK => ?_)
    obtain rfl := k.f6 (hd ⟨6, .data⟩ (by simp) rfl)
    by_cases hc : Fm.cntOk nb = true
    ·have hcc : Calls Tryz.prog 67 #[.int .i64 nb] w (fun e W' => e = .returned (.int .i64 nb) ∧ W' = w) := (count64 nb w).mono fun e W' h => by rw [if_pos hc] at h; exact h
     go_simp
     refine hcc.mono ?_
     rintro e X ⟨rfl, hX⟩
     subst hX
     exact hK _ _ ⟨_, _, _, _, _, _, _, _, _, _, rfl, ⟨k.wf, k.f0, k.f1, k.f2, k.f3, k.f4, k.f5, k.f6, fun _ => ⟨hc, rfl⟩, k.f8, k.f9⟩⟩
    ·have hcc : Calls Tryz.prog 67 #[.int .i64 nb] w (fun e W' => e = .panicked [{ v := .iface 133 (.agg #[]), recovered := false }] ∧ W' = w) := (count64 nb w).mono fun e W' h => by rw [if_neg hc] at h; exact h
     go_simp
     refine hcc.mono ?_
     rintro e X ⟨rfl, hX⟩
     subst hX
     exact ⟨rfl, HP.out _ k.wf (.inr hc)⟩
   | 8, _, ho, hL =>
    have ho2 := ho
    simp only [qz1, qz2, qz3, qz4] at ho
    subst ho
    refine wpOp_step ho2 (fun K hK => ?_)
    obtain ⟨_, rfl⟩ := k.f3 (hd ⟨3, .data⟩ (by simp) rfl)
    go_simp
    exact hK _ _ ⟨_, _, _, _, _, _, _, _, _, _, rfl, ⟨k.wf, k.f0, k.f1, k.f2, k.f3, k.f4, k.f5, k.f6, k.f7, fun _ => rfl, k.f9⟩⟩
   | 9, _, ho, hL =>
    have ho2 := ho
    simp only [qz1, qz2, qz3, qz4] at ho
    subst ho
    refine wpOp_step ho2 (fun K hK => ?_)
    obtain ⟨_, rfl⟩ := k.f7 (hd ⟨7, .data⟩ (by simp) rfl)
    go_simp
    exact hK _ _ ⟨_, _, _, _, _, _, _, _, _, _, rfl, ⟨k.wf, k.f0, k.f1, k.f2, k.f3, k.f4, k.f5, k.f6, k.f7, k.f8, fun _ => rfl⟩⟩
   | n + 10, h, _, _ => omega
  ·intro L a w hL hJ
   obtain ⟨v4, v5, v10, v11, v12, v13, v14, v15, v16, v17, rfl, k⟩ := hJ
   obtain rfl := k.f0 (hL 0 (by decide))
   obtain rfl := k.f1 (hL 1 (by decide))
   obtain rfl := k.f2 (hL 2 (by decide))
   obtain ⟨hca, rfl⟩ := k.f3 (hL 3 (by decide))
   obtain rfl := k.f4 (hL 4 (by decide))
   obtain rfl := k.f5 (hL 5 (by decide))
   obtain rfl := k.f6 (hL 6 (by decide))
   obtain ⟨hcb, rfl⟩ := k.f7 (hL 7 (by decide))
   obtain rfl := k.f8 (hL 8 (by decide))
   obtain rfl := k.f9 (hL 9 (by decide))
   have hB2 := k.wf
   clear k hL
   dsimp only
   obtain ⟨na', rfl⟩ : ∃ m : Nat, na = (m : Int) := ⟨na.toNat, (Fm.cnt_nat hca).symm⟩
   obtain ⟨nb', rfl⟩ : ∃ m : Nat, nb = (m : Int) := ⟨nb.toNat, (Fm.cnt_nat hcb).symm⟩
   rw [hca, hcb] at HO
   simp only [Bool.and_self, if_true, Int.toNat_natCast] at HO
   have hna : na' ≤ 1048576 := by unfold Fm.cntOk at hca; rw [decide_eq_true_eq] at hca; omega
   have hnb : nb' ≤ 1048576 := by unfold Fm.cntOk at hcb; rw [decide_eq_true_eq] at hcb; omega
   have HB3 := Lib.hid hB2
   have HC := Lib.hid (normals81 w b q tl na' hna (HS.out.keep hB2) (HL1.out.keep hB2))
   have HBX3 := Lib.hid (HBX2.out.keep hB2)
   have HG3 := Lib.hid (grown_call HG.out hB2)
   have HL3 := Lib.hid (HL1.out.keep hB2)
   clear hB2 HG HBX2 HS HL1 HB3 HX0 HX1 glt HP hca hcb HB
   go_wp2_with fail
   refine HC.out.mono ?_
   rintro e W3 h1
   cases hqn : Fm.rep Fm.rdNormal na' q with
   | none =>
    rw [hqn] at h1 HO
    obtain ⟨rfl, hG⟩ := h1.no
    have HGX := Lib.hid (grown_trans HG3.out hG)
    clear h1 hG HC hqn
    unfold malP
    go_wp2
    exact ⟨rfl, RdP.mkno HO.out.symm HGX.out⟩
   | some p =>
    obtain ⟨tb, q1⟩ := p
    rw [hqn] at h1 HO
    simp only at HO
    obtain ⟨v, rfl, hN, hS, hG⟩ := h1.yes
    obtain ⟨ot, nt, rfl, hrw⟩ := hN.now
    have HTL := Lib.hid (Fm.rep_len hqn)
    have HTB : Hid (New w.heap.size W3 (fun X => Rws VecD 3 X ot tb)) := Lib.hid (fun X hX => by
     obtain ⟨oa', cap', e, h⟩ := hN X hX
     injection e with e _ _
     rw [e]; exact h)
    have HS3 := Lib.hid hS
    have HLE := Lib.hid hG.size
    have HBX4 : Hid (Bx W3 W.heap.size [.slice none 0 0, .slice none 0 0] 73) := Lib.hid ⟨(hG.block _ HBX3.out.lt (fun e => by injection e with e; omega)).trans HBX3.out.h⟩
    have HL4 := Lib.hid (HL3.out.keepG hG h8)
    have HG4 := Lib.hid (grown_trans HG3.out hG)
    have HSZ := Lib.hid HG3.out.size
    have HWN := Lib.hid HBX3.out.lt
    clear h1 hN hS hG hrw HC hqn HBX3 HG3 HL3
    rw [HTL.out]
    have hb5 : Below W3.heap.size W3 (W3.alloc (.cells #[.slice ot na' nt, .slice none 0 0] 73)) := (Below.refl _ _).alloc (Nat.le_refl _) _
    have HX6 := Lib.hid (Bx.new W3 [.slice ot na' nt, .slice none 0 0] 73)
    have HG5 := Lib.hid (grown_of_below hb5 (r := some b))
    have HS5 := Lib.hid (HS3.out.keep hb5)
    have hsz5 : (W3.alloc (.cells #[.slice ot na' nt, .slice none 0 0] 73)).heap.size = W3.heap.size + 1 := by simp
    clear hb5 HS3
    go_wp2_with fail
    generalize W3.alloc (.cells #[.slice ot na' nt, .slice none 0 0] 73) = W4 at HX6 HG5 HS5 hsz5 ⊢
    generalize hn6 : W3.heap.size = n6 at HX6 HLE hsz5 ⊢
    have HN6 := Lib.hid hn6
    have HSZ5 := Lib.hid hsz5
    have hbn : b < n6 := by have := HSZ.out; have := HLE.out; omega
    clear hn6 hsz5
    go_loopw [23] (fun i X => ∃ (k : Nat) (us : List Fm.UseD) (q2 : List (List UInt8)) (v : Value), k ≤ nb' ∧ i = .int .i64 (k : Nat) ∧ Fm.RepAt Fm.rdUse nb' q1 k us q2 ∧ Bx X n6 [.slice ot na' nt, v] 73 ∧ RowO UseAt 75 3 (n6 + 1) X v us ∧ RdS X b q2 tl ∧ W3.grownBy X (some b)) (fun i _ => nb' - (intOf i).toNat)
    case atStart => exact ⟨0, [], q1, .slice none 0 0, Nat.zero_le _, rfl, Fm.RepAt.start _ _ _, HX6.out, RowO.nil _ _ _ _ _, HS5.out, HG5.out⟩
    case round =>
     obtain ⟨k, us, q2, v, hk, rfl, hR, hX, hRow, hS, hG⟩ := hrel
     clear HX6 HG5 HS5
     have HR := Lib.hid hR
     have HX := Lib.hid hX
     have HRow := Lib.hid hRow
     have HG := Lib.hid hG
     have HLr := Lib.hid (HL4.out.keepG hG h8)
     by_cases hlt : k < nb'
     ·have HC := Lib.hid (line67 wr b ⟨#[117, 115, 101]⟩ q2 tl hS HLr.out)
      have HSL := Lib.hid hS
      clear hR hX hRow hG hS
      go_wp2_with fail
      refine HC.out.mono ?_
      rintro e W5 h1
      cases hq : Fm.rdLine Fm.kwUse q2 with
      | none =>
       rw [show Fm.rdLine (⟨#[117, 115, 101]⟩ : ByteArray).data.toList q2 = none from hq] at h1
       obtain ⟨rfl, hG1⟩ := h1.no
       have HOT : Hid (o = none) := Lib.hid (by
        have := HR.out.none hlt (show Fm.rdUse q2 = none by unfold Fm.rdUse; rw [hq])
        rw [this] at HO
        exact HO.out.symm)
       have HGX := Lib.hid (grown_trans HG4.out (grown_trans HG.out hG1))
       clear h1 hG1 hq HC
       unfold malP
       go_wp2
       exact ⟨rfl, RdP.mkno HOT.out HGX.out⟩
      | some p =>
       obtain ⟨ns, r⟩ := p
       rw [show Fm.rdLine (⟨#[117, 115, 101]⟩ : ByteArray).data.toList q2 = some (ns, r) from hq] at h1
       obtain ⟨v7, rfl, hN, hS, hG1⟩ := h1.yes
       obtain ⟨oa, cap7, rfl, hcap, hs⟩ := hN.now
       have HIN7 := Lib.hid (Fm.rdLine_in hq)
       by_cases hns : 2 ≤ ns.length
       ·obtain ⟨d, i, nums, rfl⟩ : ∃ d i nums, ns = d :: i :: nums := by
         match ns, hns with
         | d :: i :: nums, _ => exact ⟨d, i, nums, rfl⟩
        obtain ⟨g7, o7, rfl, hra⟩ := hs (by simp [pvals])
        have hqd : decide ((2 : Int) ≤ (nums.length : Int) + 1 + 1) = true := decide_eq_true (by omega)
        have HCP : Hid ((nums.length : Int) + 1 + 1 ≤ (cap7 : Int) ∧ nums.length + 1 + 1 ≤ cap7) := Lib.hid (by simp only [List.length_cons] at hcap; omega)
        have HSD : Hid (Sl W5 (some ⟨g7, o7, none⟩) 1 (pvals [d])) := Lib.hid (fun _ => ⟨g7, o7, rfl, hra.lt, fun j r hj q u hu => hra.c j r (by
         cases j with
         | zero => exact hj
         | succ j => simp [pvals] at hj) q u hu⟩)
        have HSN : Hid (Sl W5 (some ⟨g7, o7 + 2, none⟩) 1 (pvals nums)) := Lib.hid (fun _ => ⟨g7, o7 + 2, rfl, hra.lt, fun j r hj q u hu => by
         have := hra.c (j + 2) r hj q u hu
         rw [← this]
         congr 2
         omega⟩)
        have HI7 : Hid (∀ X, Below W5.heap.size W5 X → X.cell? ⟨g7, o7 + 1, none⟩ = some (.int .i64 i)) := Lib.hid (fun X hX => (hX.cell (p := ⟨g7, o7 + 1, none⟩) hra.lt).trans (hra.c 1 _ rfl 0 _ rfl))
        have HDR : Hid (∀ n ∈ [d], Fm.inR64 n) := Lib.hid (fun n hn => HIN7.out n (by rw [List.mem_singleton] at hn; subst hn; simp))
        have HNR : Hid (∀ n ∈ nums, Fm.inR64 n) := Lib.hid (fun n hn => HIN7.out n (by simp [hn]))
        have HNL : Hid (nums.length ≤ 1048576) := Lib.hid (by have := HSL.out.line_len hq; simp only [List.length_cons] at this; omega)
        have HRN := Lib.hid (HR.out.step hlt (show Fm.rdUse q2 = some (⟨d, i, nums⟩, r) by unfold Fm.rdUse; rw [hq]))
        have HRA := Lib.hid hra
        have HS7 := Lib.hid hS
        have HG7 := Lib.hid (grown_trans HG.out hG1)
        have HX7 : Hid (Bx W5 n6 [.slice ot na' nt, v] 73) := Lib.hid ⟨(hG1.block _ HX.out.lt (fun e => by injection e with e; omega)).trans HX.out.h⟩
        have HRow7 := Lib.hid (HRow.out.keep (grown_ag hG1 _ (by omega)))
        clear h1 hN hS hG1 hs hra HC hq HX HRow HG HR
        go_wp2_with fail
        refine (need_yes W5).mono ?_
        rintro e W6 ⟨rfl, hw⟩
        subst hw
        go_wp2_with fail
        refine wp_region_inv (by kernel_rfl) (by kernel_rfl) (Ed8J b W.heap.size n6 g off cap g7 o7 cap7 na' nb' k nt ot d i nums us v u48 W6) ?_ ?_ ?_
        ·exact ⟨_, _, _, _, _, _, _, _, _, _, _, _, _, _, _, _, _, rfl, ⟨fun _ => below_drew W6 1, nofun, nofun, nofun, nofun, nofun, nofun, nofun, nofun, nofun, nofun, nofun, nofun, nofun, nofun, nofun, nofun, nofun, nofun, nofun, nofun, nofun, nofun, nofun, nofun, nofun, nofun, nofun, nofun, nofun, nofun, nofun, nofun, nofun, nofun, nofun⟩⟩
        ·intro iq oq ho L a w hL hd hJ
         obtain ⟨v31, v32, v33, v34, v35, v36, v37, v38, v39, v40, v41, v42, v43, v44, v45, v46, v47, rfl, k⟩ := hJ
         have hiq : iq < 18 := by have := (Array.getElem?_eq_some_iff.1 ho).1; simpa using this
         match iq, hiq, ho, hL with
         | 0, _, ho, hL =>
          have ho2 := ho
          simp only [qz1, qz2, qz3, qz4] at ho
          subst ho
          refine wpOp_step ho2 (fun K hK => ?_)
          go_simp
          exact hK _ _ ⟨_, _, _, _, _, _, _, _, _, _, _, _, _, _, _, _, _, rfl, ⟨k.wf, fun _ => rfl, k.f1, k.f2, k.f3, k.f4, k.f5, k.f6, k.f7, k.f8, k.f9, k.f10, k.f11, k.f12, k.f13, k.f14, k.f15, k.f16, k.f17, fun h => up_or (k.c1_0 h), fun h => up_or (k.c3_2 h), fun h => up_or (k.c4_3 h), fun h => up_or (k.c5_4 h), fun h => up_or (k.c6_5 h), fun h => up_or (k.c8_7 h), fun h => up_or (k.c9_8 h), fun h => up_or (k.c11_10 h), fun h => up_or (k.c12_11 h), fun h => up_or (k.c13_6 h), fun h => up_or (k.c13_9 h), fun h => up_or (k.c13_12 h), fun h => up_or (k.c14_13 h), fun h => up_or (k.c15_1 h), fun h => up_or (k.c15_14 h), fun h => up_or (k.c17_15 h), fun h => up_or (k.c17_16 h)⟩⟩
         | 1, _, ho, hL =>
          have ho2 := ho
          simp only [qz1, qz2, qz3, qz4] at ho
          subst ho
          refine wpOp_step ho2 (fun K hK => ?_)
          obtain rfl := k.f0 (hd ⟨0, .data⟩ (by simp) rfl)
          have h15 : L 15 = false := by
           cases h : L 15 with
           | false => rfl
           | true => exact absurd (hL.symm.trans (k.c15_1 h)) (by decide)
          have hbx := HX7.out.keep (k.wf h15)
          have c1 := hbx.c 1 _ rfl
          have cl := hbx.lt
          go_simp
          exact hK _ _ ⟨_, _, _, _, _, _, _, _, _, _, _, _, _, _, _, _, _, rfl, ⟨k.wf, k.f0, fun _ => rfl, k.f2, k.f3, k.f4, k.f5, k.f6, k.f7, k.f8, k.f9, k.f10, k.f11, k.f12, k.f13, k.f14, k.f15, k.f16, k.f17, fun _ => up_or (hd ⟨0, .data⟩ (by simp) rfl), fun h => up_or (k.c3_2 h), fun h => up_or (k.c4_3 h), fun h => up_or (k.c5_4 h), fun h => up_or (k.c6_5 h), fun h => up_or (k.c8_7 h), fun h => up_or (k.c9_8 h), fun h => up_or (k.c11_10 h), fun h => up_or (k.c12_11 h), fun h => up_or (k.c13_6 h), fun h => up_or (k.c13_9 h), fun h => up_or (k.c13_12 h), fun h => up_or (k.c14_13 h), fun h => up_or (k.c15_1 h), fun h => up_or (k.c15_14 h), fun h => up_or (k.c17_15 h), fun h => up_or (k.c17_16 h)⟩⟩
         | 2, _, ho, hL =>
          have ho2 := ho
          simp only [qz1, qz2, qz3, qz4] at ho
          subst ho
          refine wpOp_step ho2 (fun K hK => ?_)
          go_simp
          exact hK _ _ ⟨_, _, _, _, _, _, _, _, _, _, _, _, _, _, _, _, _, rfl, ⟨k.wf, k.f0, k.f1, fun _ => rfl, k.f3, k.f4, k.f5, k.f6, k.f7, k.f8, k.f9, k.f10, k.f11, k.f12, k.f13, k.f14, k.f15, k.f16, k.f17, fun h => up_or (k.c1_0 h), fun h => up_or (k.c3_2 h), fun h => up_or (k.c4_3 h), fun h => up_or (k.c5_4 h), fun h => up_or (k.c6_5 h), fun h => up_or (k.c8_7 h), fun h => up_or (k.c9_8 h), fun h => up_or (k.c11_10 h), fun h => up_or (k.c12_11 h), fun h => up_or (k.c13_6 h), fun h => up_or (k.c13_9 h), fun h => up_or (k.c13_12 h), fun h => up_or (k.c14_13 h), fun h => up_or (k.c15_1 h), fun h => up_or (k.c15_14 h), fun h => up_or (k.c17_15 h), fun h => up_or (k.c17_16 h)⟩⟩
         | 3, _, ho, hL =>
          have ho2 := ho
          simp only [qz1, qz2, qz3, qz4] at ho
          subst ho
          refine wpOp_step ho2 (fun K hK => ?_)
          obtain rfl := k.f2 (hd ⟨2, .data⟩ (by simp) rfl)
          have hc1 : (1 : Int) ≤ (cap7 : Int) := by have := HCP.out.1; omega
          have hc2 : 1 ≤ cap7 := by have := HCP.out.2; omega
          go_simp
          exact hK _ _ ⟨_, _, _, _, _, _, _, _, _, _, _, _, _, _, _, _, _, rfl, ⟨k.wf, k.f0, k.f1, k.f2, fun _ => rfl, k.f4, k.f5, k.f6, k.f7, k.f8, k.f9, k.f10, k.f11, k.f12, k.f13, k.f14, k.f15, k.f16, k.f17, fun h => up_or (k.c1_0 h), fun _ => up_or (hd ⟨2, .data⟩ (by simp) rfl), fun h => up_or (k.c4_3 h), fun h => up_or (k.c5_4 h), fun h => up_or (k.c6_5 h), fun h => up_or (k.c8_7 h), fun h => up_or (k.c9_8 h), fun h => up_or (k.c11_10 h), fun h => up_or (k.c12_11 h), fun h => up_or (k.c13_6 h), fun h => up_or (k.c13_9 h), fun h => up_or (k.c13_12 h), fun h => up_or (k.c14_13 h), fun h => up_or (k.c15_1 h), fun h => up_or (k.c15_14 h), fun h => up_or (k.c17_15 h), fun h => up_or (k.c17_16 h)⟩⟩
         | 4, _, ho, hL =>
          have ho2 := ho
          simp only [qz1, qz2, qz3, qz4] at ho
          subst ho
          refine wpOp_step ho2 (fun K hK => ?_)
          obtain rfl := k.f3 (hd ⟨3, .data⟩ (by simp) rfl)
          have h15 : L 15 = false := by
           cases h : L 15 with
           | false => rfl
           | true => exact absurd (hL.symm.trans (k.c5_4 (k.c6_5 (k.c13_6 (k.c14_13 (k.c15_14 h)))))) (by decide)
          have hcall := ints77 w (some ⟨g7, o7, none⟩) cap7 [d] (HSD.out.keep (k.wf h15)) HDR.out (by simp)
          go_simp
          refine hcall.mono ?_
          rintro e X ⟨v', rfl, hN, hb⟩
          replace k := k.keep h15 hb
          exact hK _ _ ⟨_, _, _, _, _, _, _, _, _, _, _, _, _, _, _, _, _, rfl, ⟨k.wf, k.f0, k.f1, k.f2, k.f3, fun _ _ => IntAt.of hN.now, k.f5, k.f6, k.f7, k.f8, k.f9, k.f10, k.f11, k.f12, k.f13, k.f14, k.f15, k.f16, k.f17, fun h => up_or (k.c1_0 h), fun h => up_or (k.c3_2 h), fun _ => up_or (hd ⟨3, .data⟩ (by simp) rfl), fun h => up_or (k.c5_4 h), fun h => up_or (k.c6_5 h), fun h => up_or (k.c8_7 h), fun h => up_or (k.c9_8 h), fun h => up_or (k.c11_10 h), fun h => up_or (k.c12_11 h), fun h => up_or (k.c13_6 h), fun h => up_or (k.c13_9 h), fun h => up_or (k.c13_12 h), fun h => up_or (k.c14_13 h), fun h => up_or (k.c15_1 h), fun h => up_or (k.c15_14 h), fun h => up_or (k.c17_15 h), fun h => up_or (k.c17_16 h)⟩⟩
         | 5, _, ho, hL =>
          have ho2 := ho
          simp only [qz1, qz2, qz3, qz4] at ho
          subst ho
          refine wpOp_step ho2 (fun K hK => ?_)
          have h15 : L 15 = false := by
           cases h : L 15 with
           | false => rfl
           | true => exact absurd (hL.symm.trans (k.c6_5 (k.c13_6 (k.c14_13 (k.c15_14 h))))) (by decide)
          obtain ⟨g4, o4, c4, rfl, x4, l4⟩ := k.f4 (hd ⟨4, .data⟩ (by simp) rfl) h15
          go_simp
          exact hK _ _ ⟨_, _, _, _, _, _, _, _, _, _, _, _, _, _, _, _, _, rfl, ⟨k.wf, k.f0, k.f1, k.f2, k.f3, k.f4, fun _ _ => ⟨g4, o4, rfl, x4, l4⟩, k.f6, k.f7, k.f8, k.f9, k.f10, k.f11, k.f12, k.f13, k.f14, k.f15, k.f16, k.f17, fun h => up_or (k.c1_0 h), fun h => up_or (k.c3_2 h), fun h => up_or (k.c4_3 h), fun _ => up_or (hd ⟨4, .data⟩ (by simp) rfl), fun h => up_or (k.c6_5 h), fun h => up_or (k.c8_7 h), fun h => up_or (k.c9_8 h), fun h => up_or (k.c11_10 h), fun h => up_or (k.c12_11 h), fun h => up_or (k.c13_6 h), fun h => up_or (k.c13_9 h), fun h => up_or (k.c13_12 h), fun h => up_or (k.c14_13 h), fun h => up_or (k.c15_1 h), fun h => up_or (k.c15_14 h), fun h => up_or (k.c17_15 h), fun h => up_or (k.c17_16 h)⟩⟩
         | 6, _, ho, hL =>
          have ho2 := ho
          simp only [qz1, qz2, qz3, qz4] at ho
          subst ho
          refine wpOp_step ho2 (fun K hK => ?_)
          have h15 : L 15 = false := by
           cases h : L 15 with
           | false => rfl
           | true => exact absurd (hL.symm.trans (k.c13_6 (k.c14_13 (k.c15_14 h)))) (by decide)
          obtain ⟨g4, o4, rfl, x4, l4⟩ := k.f5 (hd ⟨5, .data⟩ (by simp) rfl) h15
          go_simp
          exact hK _ _ ⟨_, _, _, _, _, _, _, _, _, _, _, _, _, _, _, _, _, rfl, ⟨k.wf, k.f0, k.f1, k.f2, k.f3, k.f4, k.f5, fun _ => rfl, k.f7, k.f8, k.f9, k.f10, k.f11, k.f12, k.f13, k.f14, k.f15, k.f16, k.f17, fun h => up_or (k.c1_0 h), fun h => up_or (k.c3_2 h), fun h => up_or (k.c4_3 h), fun h => up_or (k.c5_4 h), fun _ => up_or (hd ⟨5, .data⟩ (by simp) rfl), fun h => up_or (k.c8_7 h), fun h => up_or (k.c9_8 h), fun h => up_or (k.c11_10 h), fun h => up_or (k.c12_11 h), fun h => up_or (k.c13_6 h), fun h => up_or (k.c13_9 h), fun h => up_or (k.c13_12 h), fun h => up_or (k.c14_13 h), fun h => up_or (k.c15_1 h), fun h => up_or (k.c15_14 h), fun h => up_or (k.c17_15 h), fun h => up_or (k.c17_16 h)⟩⟩
         | 7, _, ho, hL =>
          have ho2 := ho
          simp only [qz1, qz2, qz3, qz4] at ho
          subst ho
          refine wpOp_step ho2 (fun K hK => ?_)
          go_simp
          exact hK _ _ ⟨_, _, _, _, _, _, _, _, _, _, _, _, _, _, _, _, _, rfl, ⟨k.wf, k.f0, k.f1, k.f2, k.f3, k.f4, k.f5, k.f6, fun _ => rfl, k.f8, k.f9, k.f10, k.f11, k.f12, k.f13, k.f14, k.f15, k.f16, k.f17, fun h => up_or (k.c1_0 h), fun h => up_or (k.c3_2 h), fun h => up_or (k.c4_3 h), fun h => up_or (k.c5_4 h), fun h => up_or (k.c6_5 h), fun h => up_or (k.c8_7 h), fun h => up_or (k.c9_8 h), fun h => up_or (k.c11_10 h), fun h => up_or (k.c12_11 h), fun h => up_or (k.c13_6 h), fun h => up_or (k.c13_9 h), fun h => up_or (k.c13_12 h), fun h => up_or (k.c14_13 h), fun h => up_or (k.c15_1 h), fun h => up_or (k.c15_14 h), fun h => up_or (k.c17_15 h), fun h => up_or (k.c17_16 h)⟩⟩
         | 8, _, ho, hL =>
          have ho2 := ho
          simp only [qz1, qz2, qz3, qz4] at ho
          subst ho
          refine wpOp_step ho2 (fun K hK => ?_)
          obtain rfl := k.f7 (hd ⟨7, .data⟩ (by simp) rfl)
          have hl2 : (1 : Int) < (nums.length : Int) + 1 + 1 := by omega
          go_simp
          exact hK _ _ ⟨_, _, _, _, _, _, _, _, _, _, _, _, _, _, _, _, _, rfl, ⟨k.wf, k.f0, k.f1, k.f2, k.f3, k.f4, k.f5, k.f6, k.f7, fun _ => rfl, k.f9, k.f10, k.f11, k.f12, k.f13, k.f14, k.f15, k.f16, k.f17, fun h => up_or (k.c1_0 h), fun h => up_or (k.c3_2 h), fun h => up_or (k.c4_3 h), fun h => up_or (k.c5_4 h), fun h => up_or (k.c6_5 h), fun _ => up_or (hd ⟨7, .data⟩ (by simp) rfl), fun h => up_or (k.c9_8 h), fun h => up_or (k.c11_10 h), fun h => up_or (k.c12_11 h), fun h => up_or (k.c13_6 h), fun h => up_or (k.c13_9 h), fun h => up_or (k.c13_12 h), fun h => up_or (k.c14_13 h), fun h => up_or (k.c15_1 h), fun h => up_or (k.c15_14 h), fun h => up_or (k.c17_15 h), fun h => up_or (k.c17_16 h)⟩⟩
         | 9, _, ho, hL =>
          have ho2 := ho
          simp only [qz1, qz2, qz3, qz4] at ho
          subst ho
          refine wpOp_step ho2 (fun K hK => ?_)
          obtain rfl := k.f8 (hd ⟨8, .data⟩ (by simp) rfl)
          have h15 : L 15 = false := by
           cases h : L 15 with
           | false => rfl
           | true => exact absurd (hL.symm.trans (k.c13_9 (k.c14_13 (k.c15_14 h)))) (by decide)
          have x1 := HI7.out w (k.wf h15)
          have gl := Nat.lt_of_lt_of_le HRA.out.lt (k.wf h15).size
          go_simp
          exact hK _ _ ⟨_, _, _, _, _, _, _, _, _, _, _, _, _, _, _, _, _, rfl, ⟨k.wf, k.f0, k.f1, k.f2, k.f3, k.f4, k.f5, k.f6, k.f7, k.f8, fun _ => rfl, k.f10, k.f11, k.f12, k.f13, k.f14, k.f15, k.f16, k.f17, fun h => up_or (k.c1_0 h), fun h => up_or (k.c3_2 h), fun h => up_or (k.c4_3 h), fun h => up_or (k.c5_4 h), fun h => up_or (k.c6_5 h), fun h => up_or (k.c8_7 h), fun _ => up_or (hd ⟨8, .data⟩ (by simp) rfl), fun h => up_or (k.c11_10 h), fun h => up_or (k.c12_11 h), fun h => up_or (k.c13_6 h), fun h => up_or (k.c13_9 h), fun h => up_or (k.c13_12 h), fun h => up_or (k.c14_13 h), fun h => up_or (k.c15_1 h), fun h => up_or (k.c15_14 h), fun h => up_or (k.c17_15 h), fun h => up_or (k.c17_16 h)⟩⟩
         | 10, _, ho, hL =>
          have ho2 := ho
          simp only [qz1, qz2, qz3, qz4] at ho
          subst ho
          refine wpOp_step ho2 (fun K hK => ?_)
          go_simp
          exact hK _ _ ⟨_, _, _, _, _, _, _, _, _, _, _, _, _, _, _, _, _, rfl, ⟨k.wf, k.f0, k.f1, k.f2, k.f3, k.f4, k.f5, k.f6, k.f7, k.f8, k.f9, fun _ => rfl, k.f11, k.f12, k.f13, k.f14, k.f15, k.f16, k.f17, fun h => up_or (k.c1_0 h), fun h => up_or (k.c3_2 h), fun h => up_or (k.c4_3 h), fun h => up_or (k.c5_4 h), fun h => up_or (k.c6_5 h), fun h => up_or (k.c8_7 h), fun h => up_or (k.c9_8 h), fun h => up_or (k.c11_10 h), fun h => up_or (k.c12_11 h), fun h => up_or (k.c13_6 h), fun h => up_or (k.c13_9 h), fun h => up_or (k.c13_12 h), fun h => up_or (k.c14_13 h), fun h => up_or (k.c15_1 h), fun h => up_or (k.c15_14 h), fun h => up_or (k.c17_15 h), fun h => up_or (k.c17_16 h)⟩⟩
         | 11, _, ho, hL =>
          have ho2 := ho
          simp only [qz1, qz2, qz3, qz4] at ho
          subst ho
          refine wpOp_step ho2 (fun K hK => ?_)
          obtain rfl := k.f10 (hd ⟨10, .data⟩ (by simp) rfl)
          have hc1 : (2 : Int) ≤ (nums.length : Int) + 1 + 1 := by omega
          go_simp
          exact hK _ _ ⟨_, _, _, _, _, _, _, _, _, _, _, _, _, _, _, _, _, rfl, ⟨k.wf, k.f0, k.f1, k.f2, k.f3, k.f4, k.f5, k.f6, k.f7, k.f8, k.f9, k.f10, fun _ => ⟨_, _, rfl, fun h => if_neg (fun e => by have h2 := HCP.out.2; have h3 := List.length_pos_iff.2 h; omega)⟩, k.f12, k.f13, k.f14, k.f15, k.f16, k.f17, fun h => up_or (k.c1_0 h), fun h => up_or (k.c3_2 h), fun h => up_or (k.c4_3 h), fun h => up_or (k.c5_4 h), fun h => up_or (k.c6_5 h), fun h => up_or (k.c8_7 h), fun h => up_or (k.c9_8 h), fun _ => up_or (hd ⟨10, .data⟩ (by simp) rfl), fun h => up_or (k.c12_11 h), fun h => up_or (k.c13_6 h), fun h => up_or (k.c13_9 h), fun h => up_or (k.c13_12 h), fun h => up_or (k.c14_13 h), fun h => up_or (k.c15_1 h), fun h => up_or (k.c15_14 h), fun h => up_or (k.c17_15 h), fun h => up_or (k.c17_16 h)⟩⟩
         | 12, _, ho, hL =>
          have ho2 := ho
          simp only [qz1, qz2, qz3, qz4] at ho
          subst ho
          refine wpOp_step ho2 (fun K hK => ?_)
          have h15 : L 15 = false := by
           cases h : L 15 with
           | false => rfl
           | true => exact absurd (hL.symm.trans (k.c13_12 (k.c14_13 (k.c15_14 h)))) (by decide)
          obtain ⟨o42, c42, rfl, ho42⟩ := k.f11 (hd ⟨11, .data⟩ (by simp) rfl)
          have hcall := ints77 w o42 c42 nums (fun h => by rw [ho42 (fun e => h (by rw [e]; rfl))]; exact HSN.out.keep (k.wf h15) h) HNR.out HNL.out
          go_simp
          refine hcall.mono ?_
          rintro e X ⟨v', rfl, hN, hb⟩
          have hN2 := NumW.of hN (k.wf h15).size
          replace k := k.keep h15 hb
          exact hK _ _ ⟨_, _, _, _, _, _, _, _, _, _, _, _, _, _, _, _, _, rfl, ⟨k.wf, k.f0, k.f1, k.f2, k.f3, k.f4, k.f5, k.f6, k.f7, k.f8, k.f9, k.f10, k.f11, fun _ _ => hN2, k.f13, k.f14, k.f15, k.f16, k.f17, fun h => up_or (k.c1_0 h), fun h => up_or (k.c3_2 h), fun h => up_or (k.c4_3 h), fun h => up_or (k.c5_4 h), fun h => up_or (k.c6_5 h), fun h => up_or (k.c8_7 h), fun h => up_or (k.c9_8 h), fun h => up_or (k.c11_10 h), fun _ => up_or (hd ⟨11, .data⟩ (by simp) rfl), fun h => up_or (k.c13_6 h), fun h => up_or (k.c13_9 h), fun h => up_or (k.c13_12 h), fun h => up_or (k.c14_13 h), fun h => up_or (k.c15_1 h), fun h => up_or (k.c15_14 h), fun h => up_or (k.c17_15 h), fun h => up_or (k.c17_16 h)⟩⟩
         | 13, _, ho, hL =>
          have ho2 := ho
          simp only [qz1, qz2, qz3, qz4] at ho
          subst ho
          refine wpOp_step ho2 (fun K hK => ?_)
          obtain rfl := k.f6 (hd ⟨6, .data⟩ (by simp) rfl)
          have h15 : L 15 = false := by
           cases h : L 15 with
           | false => rfl
           | true => exact absurd (hL.symm.trans (k.c14_13 (k.c15_14 h))) (by decide)
          obtain rfl := k.f9 (hd ⟨9, .data⟩ (by simp) rfl)
          have hN := k.f12 (hd ⟨12, .data⟩ (by simp) rfl) h15
          obtain ⟨o43, c43, rfl⟩ := hN.form
          go_simp
          exact hK _ _ ⟨_, _, _, _, _, _, _, _, _, _, _, _, _, _, _, _, _, rfl, ⟨k.wf, k.f0, k.f1, k.f2, k.f3, k.f4, k.f5, k.f6, k.f7, k.f8, k.f9, k.f10, k.f11, k.f12, fun _ _ => ⟨o43, c43, rfl, hN⟩, k.f14, k.f15, k.f16, k.f17, fun h => up_or (k.c1_0 h), fun h => up_or (k.c3_2 h), fun h => up_or (k.c4_3 h), fun h => up_or (k.c5_4 h), fun h => up_or (k.c6_5 h), fun h => up_or (k.c8_7 h), fun h => up_or (k.c9_8 h), fun h => up_or (k.c11_10 h), fun h => up_or (k.c12_11 h), fun _ => up_or (hd ⟨6, .data⟩ (by simp) rfl), fun _ => up_or (hd ⟨9, .data⟩ (by simp) rfl), fun _ => up_or (hd ⟨12, .data⟩ (by simp) rfl), fun h => up_or (k.c14_13 h), fun h => up_or (k.c15_1 h), fun h => up_or (k.c15_14 h), fun h => up_or (k.c17_15 h), fun h => up_or (k.c17_16 h)⟩⟩
         | 14, _, ho, hL =>
          have ho2 := ho
          simp only [qz1, qz2, qz3, qz4] at ho
          subst ho
          refine wpOp_step ho2 (fun K hK => ?_)
          have h15 : L 15 = false := by
           cases h : L 15 with
           | false => rfl
           | true => exact absurd (hL.symm.trans (k.c15_14 h)) (by decide)
          obtain ⟨o43, c43, rfl, hN⟩ := k.f13 (hd ⟨13, .data⟩ (by simp) rfl) h15
          have hb : Below w.heap.size w (w.alloc (.cells #[.int .i64 d, .int .i64 i, .slice o43 nums.length c43] 75)) := (Below.refl _ _).alloc (Nat.le_refl _) _
          have hbx := Bx.new w [.int .i64 d, .int .i64 i, .slice o43 nums.length c43] 75
          go_simp
          replace k := k.keep h15 hb
          exact hK _ _ ⟨_, _, _, _, _, _, _, _, _, _, _, _, _, _, _, _, _, rfl, ⟨k.wf, k.f0, k.f1, k.f2, k.f3, k.f4, k.f5, k.f6, k.f7, k.f8, k.f9, k.f10, k.f11, k.f12, k.f13, fun _ _ => ⟨o43, c43, w.heap.size, rfl, hbx, hN.keep hb⟩, k.f15, k.f16, k.f17, fun h => up_or (k.c1_0 h), fun h => up_or (k.c3_2 h), fun h => up_or (k.c4_3 h), fun h => up_or (k.c5_4 h), fun h => up_or (k.c6_5 h), fun h => up_or (k.c8_7 h), fun h => up_or (k.c9_8 h), fun h => up_or (k.c11_10 h), fun h => up_or (k.c12_11 h), fun h => up_or (k.c13_6 h), fun h => up_or (k.c13_9 h), fun h => up_or (k.c13_12 h), fun _ => up_or (hd ⟨13, .data⟩ (by simp) rfl), fun h => up_or (k.c15_1 h), fun h => up_or (k.c15_14 h), fun h => up_or (k.c17_15 h), fun h => up_or (k.c17_16 h)⟩⟩
         | 15, _, ho, hL =>
          have ho2 := ho
          simp only [qz1, qz2, qz3, qz4] at ho
          subst ho
          refine wpOp_step ho2 (fun K hK => ?_)
          obtain rfl := k.f1 (hd ⟨1, .data⟩ (by simp) rfl)
          obtain ⟨o43, c43, g45, rfl, hbx, hN⟩ := k.f14 (hd ⟨14, .data⟩ (by simp) rfl) hL
          have hbw := k.wf hL
          obtain ⟨rows, hV0⟩ := HRow7.out.ex
          have hV := hV0.keep (AgI.of hbw)
          have hrl : rows.length + 1 ≤ 1048576 := by have h1 := hV0.len; have h2 := HRN.out.2.1; have h3 := HRN.out.1; rw [List.length_append, List.length_cons, List.length_nil] at h2; omega
          have hn6w : n6 + 1 ≤ W6.heap.size := HX7.out.lt
          have hn6x : n6 + 1 ≤ w.heap.size := Nat.le_trans hn6w hbw.size
          obtain ⟨i0, hi, hz0, hz1, hz2⟩ := info_parts info54
          refine step_append_lies _ rfl (.tmp 32) (.tmp 45) 71 rfl (n6 + 1) 75 i0 (.agg #[.int .i64 0, .int .i64 0, .slice none 0 0]) 3 40 under50 hi hz0 hz1 hz2 rfl (by decide) _ rows.length rows.flatten (by simp [Act.eval]) hV.own ⟨g45, 0, none⟩ 1 1 [.int .i64 d, .int .i64 i, .slice o43 nums.length c43] (by simp [Act.eval]) rfl (World.news_of_block hbx.h) (by intro u hu; simp at hu; rcases hu with rfl | rfl | rfl <;> rfl) (by decide) (by unfold maxLen; omega) (by omega) hn6x _ rfl ?_
          intro gN cN X hown hgrow hat hltN
          have hrow : RowO UseAt 75 3 (n6 + 1) X (.slice (some ⟨gN, 0, none⟩) (rows.length + 1) cN) (us ++ [⟨d, i, nums⟩]) := hV0.app (AgI.of hbw) (fun W' hW' => (hN W' hW').elim fun on h => h.elim fun nc h => ⟨on, nc, by rw [h.1], h.2.2⟩) rfl (Below.refl _ _) hown hgrow (hat.elim (fun e => .inl e.symm) (fun e => .inr (by rw [e]; rfl))) hn6w
          have hbn1 : Below (n6 + 1) w X := grown_below hV.own hgrow hn6x
          have hbn : Below n6 W6 X := (hbw.mono (by omega)).trans (hbn1.mono (by omega))
          have hbX : Bx X n6 [.slice ot na' nt, _] 73 := (HX7.out.keep hbw).low hbn1 (Nat.lt_succ_self _)
          exact hK _ _ ⟨_, _, _, _, _, _, _, _, _, _, _, _, _, _, _, _, _, rfl, ⟨nofun, k.f0, k.f1, k.f2, k.f3, fun _ => nofun, fun _ => nofun, k.f6, k.f7, k.f8, k.f9, k.f10, k.f11, fun _ => nofun, fun _ => nofun, fun _ => nofun, fun _ => ⟨hrow, hbn, fun _ => hbX⟩, k.f16, fun h => absurd (hL.symm.trans (k.c17_15 h)) (by decide), fun h => up_or (k.c1_0 h), fun h => up_or (k.c3_2 h), fun h => up_or (k.c4_3 h), fun h => up_or (k.c5_4 h), fun h => up_or (k.c6_5 h), fun h => up_or (k.c8_7 h), fun h => up_or (k.c9_8 h), fun h => up_or (k.c11_10 h), fun h => up_or (k.c12_11 h), fun h => up_or (k.c13_6 h), fun h => up_or (k.c13_9 h), fun h => up_or (k.c13_12 h), fun h => up_or (k.c14_13 h), fun _ => up_or (hd ⟨1, .data⟩ (by simp) rfl), fun _ => up_or (hd ⟨14, .data⟩ (by simp) rfl), fun h => up_or (k.c17_15 h), fun h => up_or (k.c17_16 h)⟩⟩
         | 16, _, ho, hL =>
          have ho2 := ho
          simp only [qz1, qz2, qz3, qz4] at ho
          subst ho
          refine wpOp_step ho2 (fun K hK => ?_)
          go_simp
          exact hK _ _ ⟨_, _, _, _, _, _, _, _, _, _, _, _, _, _, _, _, _, rfl, ⟨k.wf, k.f0, k.f1, k.f2, k.f3, k.f4, k.f5, k.f6, k.f7, k.f8, k.f9, k.f10, k.f11, k.f12, k.f13, k.f14, k.f15, fun _ => rfl, k.f17, fun h => up_or (k.c1_0 h), fun h => up_or (k.c3_2 h), fun h => up_or (k.c4_3 h), fun h => up_or (k.c5_4 h), fun h => up_or (k.c6_5 h), fun h => up_or (k.c8_7 h), fun h => up_or (k.c9_8 h), fun h => up_or (k.c11_10 h), fun h => up_or (k.c12_11 h), fun h => up_or (k.c13_6 h), fun h => up_or (k.c13_9 h), fun h => up_or (k.c13_12 h), fun h => up_or (k.c14_13 h), fun h => up_or (k.c15_1 h), fun h => up_or (k.c15_14 h), fun h => up_or (k.c17_15 h), fun h => up_or (k.c17_16 h)⟩⟩
         | 17, _, ho, hL =>
          have ho2 := ho
          simp only [qz1, qz2, qz3, qz4] at ho
          subst ho
          refine wpOp_step ho2 (fun K hK => ?_)
          obtain rfl := k.f16 (hd ⟨16, .data⟩ (by simp) rfl)
          have h15 := hd ⟨15, .data⟩ (by simp) rfl
          obtain ⟨hr15, hb15, hx15⟩ := k.f15 h15
          have hbx := hx15 hL
          have bl := hbx.lt
          have bf := hbx.f 1
          have bc := hbx.c 1 _ rfl
          obtain ⟨o46, c46, rfl, _⟩ := hr15.done
          simp only [List.length_append, List.length_cons, List.length_nil, Nat.zero_add] at hr15
          go_simp
          exact hK _ _ ⟨_, _, _, _, _, _, _, _, _, _, _, _, _, _, _, _, _, rfl, ⟨fun h => absurd (h15.symm.trans h) (by decide), k.f0, k.f1, k.f2, k.f3, fun _ h => absurd (h15.symm.trans h) (by decide), fun _ h => absurd (h15.symm.trans h) (by decide), k.f6, k.f7, k.f8, k.f9, k.f10, k.f11, fun _ h => absurd (h15.symm.trans h) (by decide), fun _ h => absurd (h15.symm.trans h) (by decide), fun _ h => absurd (h15.symm.trans h) (by decide), fun _ => ⟨hr15.keep (AgI.set w _ (Nat.lt_succ_self _)), hb15.setCell (p := ⟨n6, 1, none⟩) (Nat.le_refl n6) _, nofun⟩, k.f16, fun _ => hbx.put2 _, fun h => up_or (k.c1_0 h), fun h => up_or (k.c3_2 h), fun h => up_or (k.c4_3 h), fun h => up_or (k.c5_4 h), fun h => up_or (k.c6_5 h), fun h => up_or (k.c8_7 h), fun h => up_or (k.c9_8 h), fun h => up_or (k.c11_10 h), fun h => up_or (k.c12_11 h), fun h => up_or (k.c13_6 h), fun h => up_or (k.c13_9 h), fun h => up_or (k.c13_12 h), fun h => up_or (k.c14_13 h), fun h => up_or (k.c15_1 h), fun h => up_or (k.c15_14 h), fun _ => up_or (hd ⟨15, .data⟩ (by simp) rfl), fun _ => up_or (hd ⟨16, .data⟩ (by simp) rfl)⟩⟩
         | n + 18, h, _, _ => omega
        ·intro L a w hL hJ
         obtain ⟨v31, v32, v33, v34, v35, v36, v37, v38, v39, v40, v41, v42, v43, v44, v45, v46, v47, rfl, k⟩ := hJ
         obtain ⟨hr15, hb15, -⟩ := k.f15 (hL 15 (by decide))
         have hx17 := k.f17 (hL 17 (by decide))
         obtain rfl := k.f0 (hL 0 (by decide))
         obtain rfl := k.f2 (hL 2 (by decide))
         obtain rfl := k.f3 (hL 3 (by decide))
         obtain rfl := k.f7 (hL 7 (by decide))
         obtain rfl := k.f8 (hL 8 (by decide))
         obtain rfl := k.f10 (hL 10 (by decide))
         obtain rfl := k.f16 (hL 16 (by decide))
         dsimp only
         have HRY := Lib.hid hr15
         have HXY := Lib.hid hx17
         have HSY := Lib.hid (HS7.out.keepA hb15 hbn)
         have HGY := Lib.hid (grown_low2 HG7.out hb15 (Nat.le_of_eq HN6.out))
         clear hr15 hb15 hx17 k hL
         go_wp2_with fail
         go_roundw
         case rel => exact ⟨_, _, r, _, by omega, by simp, HRN.out, HXY.out, HRY.out, HSY.out, HGY.out⟩
         case measure => simp [intOf]; omega
       ·have hqd : decide ((2 : Int) ≤ (ns.length : Int)) = false := decide_eq_false (by omega)
        have HOT : Hid (o = none) := Lib.hid (by
         have := HR.out.none hlt (show Fm.rdUse q2 = none by
          unfold Fm.rdUse
          rw [hq]
          match ns, hns with
          | [], _ => rfl
          | [d], _ => rfl
          | d :: i :: nums, h => exact absurd (by simp) h)
         rw [this] at HO
         exact HO.out.symm)
        have HGX := Lib.hid (grown_trans HG4.out (grown_trans HG.out hG1))
        clear h1 hN hS hG1 hs HC hq HX HRow HG HR
        go_wp2_with fail
        refine (need_no W5).mono ?_
        rintro e W6 ⟨rfl, hw⟩
        subst hw
        go_wp2
        exact ⟨rfl, RdP.mkno HOT.out HGX.out⟩
     ·have hke : k = nb' := by omega
      subst hke
      have hdone := HR.out.done
      rw [hdone] at HO
      have hbx2 : Bx wr W.heap.size [.slice none 0 0, .slice none 0 0] 73 := ⟨(hG.block _ HBX4.out.lt (fun e => by injection e with e; omega)).trans HBX4.out.h⟩
      have a0 := hX.c 0 _ rfl
      have a1 := hX.c 1 _ rfl
      have al := hX.lt
      have b0 := hbx2.c 0 _ rfl
      have b1 := hbx2.c 1 _ rfl
      have bf0 := hbx2.f 0
      have bf1 := hbx2.f 1
      have bl := hbx2.lt
      obtain ⟨ou, nu, rfl, hNU, _, _⟩ := hRow.done
      have HNU := Lib.hid hNU
      have HS9 := Lib.hid hS
      have HUL := Lib.hid HR.out.2.1
      have HGW := Lib.hid hG
      have HBF := Lib.hid ((hbx2.put1 (.slice ot na' nt)).put2 (.slice ou us.length nu))
      have hn2 : W.heap.size < w.heap.size := HWN.out
      have hw3 : w.heap.size ≤ n6 := HLE.out
      have HNX := Lib.hid HN6.out
      have HLQ : Hid (∀ k, k ≠ W.heap.size → ((wr.setCell ⟨W.heap.size, 0, none⟩ (.slice ot na' nt)).setCell ⟨W.heap.size, 1, none⟩ (.slice ou us.length nu)).heap[k]? = wr.heap[k]?) := Lib.hid (fun k hk => (Below.heap_setCell _ ⟨W.heap.size, 1, none⟩ _ k hk).trans (Below.heap_setCell _ ⟨W.heap.size, 0, none⟩ _ k hk))
      have HSQ : Hid (((wr.setCell ⟨W.heap.size, 0, none⟩ (.slice ot na' nt)).setCell ⟨W.heap.size, 1, none⟩ (.slice ou us.length nu)).heap.size = wr.heap.size) := Lib.hid (by simp [World.setCell])
      have HGQ : Hid (W.grownBy ((wr.setCell ⟨W.heap.size, 0, none⟩ (.slice ot na' nt)).setCell ⟨W.heap.size, 1, none⟩ (.slice ou us.length nu)) (some b)) := Lib.hid (by
       have h1 := grown_trans HG4.out hG
       refine grown_low2 h1 (lo := W.heap.size) ?_ (Nat.le_refl _)
       exact (((Below.refl _ _).setCell (p := ⟨W.heap.size, 0, none⟩) (Nat.le_refl _) _).setCell (p := ⟨W.heap.size, 1, none⟩) (Nat.le_refl _) _))
      clear hR hX hRow hS hbx2 hNU hdone hG
      go_wp2
      generalize ((wr.setCell ⟨W.heap.size, 0, none⟩ (.slice ot na' nt)).setCell ⟨W.heap.size, 1, none⟩ (.slice ou us.length nu)) = W9 at HBF HLQ HSQ HGQ ⊢
      clear a0 a1 al b0 b1 bf0 bf1 bl
      have c0 := HBF.out.c 0 _ rfl
      have c1 := HBF.out.c 1 _ rfl
      have cl := HBF.out.lt
      refine bodyPost_ret (v := .agg #[.slice ot na' nt, .slice ou us.length nu]) (by simp [results, Tryz.results70, go_sem, c0, c1]) rfl ?_
      refine RdP.mk (x := ⟨tb, us⟩) (r := q2) HO.out.symm (fun W' hW' => ?_) ?_ HGQ.out
      ·refine ⟨ot, nt, ou, nu, by rw [← HTL.out], HTB.out W' fun j hj => ?_, HNU.out W' fun j hj => ?_⟩
       ·have h1 := hj.1; have h2 := hj.2
        have h3 := HNX.out
        rw [hW' j ⟨by omega, by rw [HSQ.out]; exact Nat.lt_of_lt_of_le h2 HGW.out.size⟩, HLQ.out j (by omega)]
        exact HGW.out.block j h2 (fun e => by injection e with e; omega)
       ·have h1 := hj.1; have h2 := hj.2
        rw [hW' j ⟨by omega, by rw [HSQ.out]; exact h2⟩, HLQ.out j (by omega)]
      ·obtain ⟨⟨s, hs1, hs2, hs3⟩, hs4⟩ := HS9.out
       exact ⟨⟨s, ⟨(HLQ.out b (by omega)).trans hs1.h⟩, hs2, hs3⟩, hs4⟩
end Go.Proofs.Ng
