/-
  Texts put together: Ee.
-/
import Derived.Test.YthcmkpcefiiiaaaGreatDoorZFormatCanonicalCard17
import Derived.Test.YthcmkpcefiiiaaaGreatDoorZFormatCanonicalCard12
import Derived.Test.YthcmkpcefiiiaaaGreatDoorZFormatCanonicalCard9
import Derived.Deep.RegionHeldLaw
set_option linter.unusedVariables false
/-
 Walks: the reader's trajectory. Printed by gen_ee.py.
-/
namespace Go.Proofs.Ng
open Go.RowKit
/-- A trajectory's value. -/
def TrajV (v : Value) (t : Fm.TrajD) (W : World) : Prop := ∃ op np oe ne f nf, v = .agg #[.slice op t.path.pts.length np, .slice oe t.path.edges.length ne, .int .i64 t.grav.1, .int .i64 t.grav.2.1, .int .i64 t.grav.2.2, .int .i64 t.grid, .slice f t.profs.length nf] ∧ Rws PtD 1 W op t.path.pts ∧ Rws EdD 2 W oe t.path.edges ∧ Rws ProfAt 2 W f t.profs
theorem TrajV.at {W : World} {v : Value} {t : Fm.TrajD} (h : TrajV v t W) : TrajAt W v t := by
 obtain ⟨op, np, oe, ne, f, nf, rfl, h1, h2, h3⟩ := h
 obtain ⟨op', np', oe', ne', e, h4, h5⟩ := PathV.at (p := t.path) ⟨op, np, oe, ne, rfl, h1, h2⟩
 injection e with e
 have e1 := congrArg (fun x => x[0]?) e
 have e2 := congrArg (fun x => x[1]?) e
 simp at e1 e2
 obtain ⟨rfl, rfl⟩ := e1
 obtain ⟨rfl, rfl⟩ := e2
 exact ⟨op, np, oe, ne, f, nf, rfl, h4, h5, ⟨h3.ex⟩⟩
theorem info44 : (Tryz.prog.info? 92).map (fun i => (i.zero, i.size, i.bytes)) = some (some (.agg #[.slice none 0 0, .slice none 0 0]), 2, 48) := by kernel_rfl
theorem under39 : Tryz.prog.underlying 41 = some (.slice 92) := by kernel_rfl
theorem Bx.putAt {W : World} {b : Nat} {cs : List Value} {ty : TypeId} (h : Bx W b cs ty) (i : Nat) (u : Value) : Bx (W.setCell ⟨b, i, none⟩ u) b (cs.set i u) ty := ⟨by simp [World.setCell, Array.getElem?_modify, h.h, List.setIfInBounds_toArray]⟩
structure Ct7K (b n2 g off cap : Nat) (na nb : Int) (W1 : World) (L : Nat → Bool) (v6 v7 v32 v33 v34 v35 v36 v37 v38 v39 : Value) (w : World) : Prop where
 wf : Below W1.heap.size W1 w
 f0 : L 0 = true → v32 = .slice (some ⟨g, off, none⟩) 2 cap
 f1 : L 1 = true → v33 = .pointer (some ⟨g, off, none⟩)
 f2 : L 2 = true → v34 = .int .i64 na
 f3 : L 3 = true → Fm.cntOk na = true ∧ v35 = .int .i64 na
 f4 : L 4 = true → v36 = .slice (some ⟨g, off, none⟩) 2 cap
 f5 : L 5 = true → v37 = .pointer (some ⟨g, off + 1, none⟩)
 f6 : L 6 = true → v38 = .int .i64 nb
 f7 : L 7 = true → Fm.cntOk nb = true ∧ v39 = .int .i64 nb
 f8 : L 8 = true → v6 = .int .i64 na
 f9 : L 9 = true → v7 = .int .i64 nb
theorem NumV.four {W : World} {g off cap : Nat} {x y z u : Int} (h : NumV (.slice (some ⟨g, off, none⟩) 4 cap) [x, y, z, u] W) : W.cell? ⟨g, off, none⟩ = some (.int .i64 x) ∧ W.cell? ⟨g, off + 1, none⟩ = some (.int .i64 y) ∧ W.cell? ⟨g, off + 2, none⟩ = some (.int .i64 z) ∧ W.cell? ⟨g, off + 3, none⟩ = some (.int .i64 u) ∧ g < W.heap.size := by
 obtain ⟨oa, c, e, -, hs⟩ := h
 injection e with e _ _
 obtain ⟨g', off', e2, hra⟩ := hs (by simp [pvals])
 rw [← e] at e2
 injection e2 with e2
 injection e2 with h1 h2 _
 subst h1 h2
 exact ⟨hra.c 0 _ rfl 0 _ rfl, hra.c 1 _ rfl 0 _ rfl, hra.c 2 _ rfl 0 _ rfl, hra.c 3 _ rfl 0 _ rfl, hra.lt⟩
/-- Seven cells written. -/
def set7 (w : World) (n : Nat) (a0 a1 a2 a3 a4 a5 a6 : Value) : World := ((((((w.setCell ⟨n, 0, none⟩ a0).setCell ⟨n, 1, none⟩ a1).setCell ⟨n, 2, none⟩ a2).setCell ⟨n, 3, none⟩ a3).setCell ⟨n, 4, none⟩ a4).setCell ⟨n, 5, none⟩ a5).setCell ⟨n, 6, none⟩ a6
theorem st7 {w : World} {n : Nat} {c0 c1 c2 c3 c4 c5 c6 : Value} {ty : TypeId} (h : Bx w n [c0, c1, c2, c3, c4, c5, c6] ty) (a0 a1 a2 a3 a4 a5 a6 : Value) : Bx (set7 w n a0 a1 a2 a3 a4 a5 a6) n [a0, a1, a2, a3, a4, a5, a6] ty :=
 ((((((h.putAt 0 a0).putAt 1 a1).putAt 2 a2).putAt 3 a3).putAt 4 a4).putAt 5 a5).putAt 6 a6
theorem set7_below (w : World) (n B : Nat) (h : B ≤ n) (a0 a1 a2 a3 a4 a5 a6 : Value) : Below B w (set7 w n a0 a1 a2 a3 a4 a5 a6) :=
 (((((((Below.refl _ _).setCell (p := ⟨n, 0, none⟩) h _).setCell (p := ⟨n, 1, none⟩) h _).setCell (p := ⟨n, 2, none⟩) h _).setCell (p := ⟨n, 3, none⟩) h _).setCell (p := ⟨n, 4, none⟩) h _).setCell (p := ⟨n, 5, none⟩) h _).setCell (p := ⟨n, 6, none⟩) h _
theorem set7_blk (w : World) (n : Nat) (a0 a1 a2 a3 a4 a5 a6 : Value) : ∀ k, k ≠ n → (set7 w n a0 a1 a2 a3 a4 a5 a6).heap[k]? = w.heap[k]? := fun k hk =>
 (Below.heap_setCell _ ⟨n, 6, none⟩ _ k hk).trans ((Below.heap_setCell _ ⟨n, 5, none⟩ _ k hk).trans ((Below.heap_setCell _ ⟨n, 4, none⟩ _ k hk).trans ((Below.heap_setCell _ ⟨n, 3, none⟩ _ k hk).trans ((Below.heap_setCell _ ⟨n, 2, none⟩ _ k hk).trans ((Below.heap_setCell _ ⟨n, 1, none⟩ _ k hk).trans (Below.heap_setCell _ ⟨n, 0, none⟩ _ k hk))))))
theorem set7_size (w : World) (n : Nat) (a0 a1 a2 a3 a4 a5 a6 : Value) : (set7 w n a0 a1 a2 a3 a4 a5 a6).heap.size = w.heap.size := by simp [set7, World.setCell]
theorem facts7 {w : World} {n : Nat} {c0 c1 c2 c3 c4 c5 c6 : Value} {ty : TypeId} (h : Bx w n [c0, c1, c2, c3, c4, c5, c6] ty) (a0 a1 a2 a3 a4 a5 : Value) : w.cell? ⟨n, 0, none⟩ = some c0 ∧ w.frozen? ⟨n, 0, none⟩ = false ∧ (w.setCell ⟨n, 0, none⟩ a0).cell? ⟨n, 1, none⟩ = some c1 ∧ (w.setCell ⟨n, 0, none⟩ a0).frozen? ⟨n, 1, none⟩ = false ∧ ((w.setCell ⟨n, 0, none⟩ a0).setCell ⟨n, 1, none⟩ a1).cell? ⟨n, 2, none⟩ = some c2 ∧ ((w.setCell ⟨n, 0, none⟩ a0).setCell ⟨n, 1, none⟩ a1).frozen? ⟨n, 2, none⟩ = false ∧ (((w.setCell ⟨n, 0, none⟩ a0).setCell ⟨n, 1, none⟩ a1).setCell ⟨n, 2, none⟩ a2).cell? ⟨n, 3, none⟩ = some c3 ∧ (((w.setCell ⟨n, 0, none⟩ a0).setCell ⟨n, 1, none⟩ a1).setCell ⟨n, 2, none⟩ a2).frozen? ⟨n, 3, none⟩ = false ∧ ((((w.setCell ⟨n, 0, none⟩ a0).setCell ⟨n, 1, none⟩ a1).setCell ⟨n, 2, none⟩ a2).setCell ⟨n, 3, none⟩ a3).cell? ⟨n, 4, none⟩ = some c4 ∧ ((((w.setCell ⟨n, 0, none⟩ a0).setCell ⟨n, 1, none⟩ a1).setCell ⟨n, 2, none⟩ a2).setCell ⟨n, 3, none⟩ a3).frozen? ⟨n, 4, none⟩ = false ∧ (((((w.setCell ⟨n, 0, none⟩ a0).setCell ⟨n, 1, none⟩ a1).setCell ⟨n, 2, none⟩ a2).setCell ⟨n, 3, none⟩ a3).setCell ⟨n, 4, none⟩ a4).cell? ⟨n, 5, none⟩ = some c5 ∧ (((((w.setCell ⟨n, 0, none⟩ a0).setCell ⟨n, 1, none⟩ a1).setCell ⟨n, 2, none⟩ a2).setCell ⟨n, 3, none⟩ a3).setCell ⟨n, 4, none⟩ a4).frozen? ⟨n, 5, none⟩ = false ∧ ((((((w.setCell ⟨n, 0, none⟩ a0).setCell ⟨n, 1, none⟩ a1).setCell ⟨n, 2, none⟩ a2).setCell ⟨n, 3, none⟩ a3).setCell ⟨n, 4, none⟩ a4).setCell ⟨n, 5, none⟩ a5).cell? ⟨n, 6, none⟩ = some c6 ∧ ((((((w.setCell ⟨n, 0, none⟩ a0).setCell ⟨n, 1, none⟩ a1).setCell ⟨n, 2, none⟩ a2).setCell ⟨n, 3, none⟩ a3).setCell ⟨n, 4, none⟩ a4).setCell ⟨n, 5, none⟩ a5).frozen? ⟨n, 6, none⟩ = false :=
 ⟨h.c 0 _ rfl, h.f 0, (h.putAt 0 a0).c 1 _ rfl, (h.putAt 0 a0).f 1, ((h.putAt 0 a0).putAt 1 a1).c 2 _ rfl, ((h.putAt 0 a0).putAt 1 a1).f 2, (((h.putAt 0 a0).putAt 1 a1).putAt 2 a2).c 3 _ rfl, (((h.putAt 0 a0).putAt 1 a1).putAt 2 a2).f 3, ((((h.putAt 0 a0).putAt 1 a1).putAt 2 a2).putAt 3 a3).c 4 _ rfl, ((((h.putAt 0 a0).putAt 1 a1).putAt 2 a2).putAt 3 a3).f 4, (((((h.putAt 0 a0).putAt 1 a1).putAt 2 a2).putAt 3 a3).putAt 4 a4).c 5 _ rfl, (((((h.putAt 0 a0).putAt 1 a1).putAt 2 a2).putAt 3 a3).putAt 4 a4).f 5, ((((((h.putAt 0 a0).putAt 1 a1).putAt 2 a2).putAt 3 a3).putAt 4 a4).putAt 5 a5).c 6 _ rfl, ((((((h.putAt 0 a0).putAt 1 a1).putAt 2 a2).putAt 3 a3).putAt 4 a4).putAt 5 a5).f 6⟩
structure Tr2K (b n2 g off cap : Nat) (ng nx ny nz : Int) (W2 : World) (L : Nat → Bool) (v4 v11 v12 v13 v14 v15 v16 v17 v18 v19 v20 : Value) (w : World) : Prop where
 wf : Below W2.heap.size W2 w
 f0 : L 0 = true → v11 = .slice (some ⟨g, off, none⟩) 4 cap
 f1 : L 1 = true → v12 = .slice (some ⟨g, off, none⟩) 1 cap
 f2 : L 2 = true → L 11 = false → IntAt w v13 ng
 f3 : L 3 = true → L 11 = false → PtrAt w v14 ng
 f4 : L 4 = true → v15 = .int .i64 ng
 f5 : L 5 = true → v16 = .slice (some ⟨g, off, none⟩) 4 cap
 f6 : L 6 = true → v17 = .slice (some ⟨g, off + 1, none⟩) 3 (cap - 1)
 f7 : L 7 = true → v18 = .pointer (some ⟨g, off + 1, none⟩)
 f8 : L 8 = true → v19 = .agg #[.int .i64 nx, .int .i64 ny, .int .i64 nz]
 f9 : L 9 = true → v20 = .agg #[.slice none 0 0, .slice none 0 0, .int .i64 nx, .int .i64 ny, .int .i64 nz, .int .i64 ng, .slice none 0 0]
 f10 : L 10 = true → L 11 = false → ∃ nA, v4 = .pointer (some ⟨nA, 0, none⟩) ∧ Bx w nA [.slice none 0 0, .slice none 0 0, .int .i64 0, .int .i64 0, .int .i64 0, .int .i64 0, .slice none 0 0] 43 ∧ W2.heap.size ≤ nA
 f11 : L 11 = true → ∃ nA, v4 = .pointer (some ⟨nA, 0, none⟩) ∧ Bx w nA [.slice none 0 0, .slice none 0 0, .int .i64 nx, .int .i64 ny, .int .i64 nz, .int .i64 ng, .slice none 0 0] 43 ∧ W2.heap.size ≤ nA
 c1_0 : L 1 = true → L 0 = true
 c2_1 : L 2 = true → L 1 = true
 c3_2 : L 3 = true → L 2 = true
 c4_3 : L 4 = true → L 3 = true
 c6_5 : L 6 = true → L 5 = true
 c7_6 : L 7 = true → L 6 = true
 c8_7 : L 8 = true → L 7 = true
 c9_4 : L 9 = true → L 4 = true
 c9_8 : L 9 = true → L 8 = true
 c11_9 : L 11 = true → L 9 = true
 c11_10 : L 11 = true → L 10 = true
def Tr2J (b n2 g off cap : Nat) (ng nx ny nz : Int) (W2 : World) (L : Nat → Bool) (a : Act) (w : World) : Prop := ∃ v4 v11 v12 v13 v14 v15 v16 v17 v18 v19 v20 : Value, a = { tmps := #[.pointer (some ⟨b, 0, none⟩), undef, .pointer (some ⟨n2, 0, none⟩), .slice (some ⟨g, off, none⟩) 4 cap, v4, undef, undef, undef, undef, .pointer (some ⟨b, 0, none⟩), .slice (some ⟨g, off, none⟩) 4 cap, v11, v12, v13, v14, v15, v16, v17, v18, v19, v20, undef, undef, undef, undef, undef, undef, undef, undef, undef, undef, undef, undef, undef, undef, undef, undef, undef, undef, undef, undef, undef, undef, undef, undef, undef, undef, undef, undef, undef, undef, undef, undef, undef, undef, undef], defers := [] } ∧ Tr2K b n2 g off cap ng nx ny nz W2 L v4 v11 v12 v13 v14 v15 v16 v17 v18 v19 v20 w
theorem Tr2K.keep {b n2 g off cap : Nat} {ng nx ny nz : Int} {W2 : World} {L : Nat → Bool} {v4 v11 v12 v13 v14 v15 v16 v17 v18 v19 v20 : Value} {w X : World} (k : Tr2K b n2 g off cap ng nx ny nz W2 L v4 v11 v12 v13 v14 v15 v16 v17 v18 v19 v20 w) (h11 : L 11 = false) (hb : Below w.heap.size w X) : Tr2K b n2 g off cap ng nx ny nz W2 L v4 v11 v12 v13 v14 v15 v16 v17 v18 v19 v20 X :=
 ⟨below_call k.wf hb, k.f0, k.f1, fun h e => (k.f2 h e).keep hb, fun h e => (k.f3 h e).keep hb, k.f4, k.f5, k.f6, k.f7, k.f8, k.f9, fun h e => (k.f10 h e).elim fun n h => ⟨n, h.1, h.2.1.keep hb, h.2.2⟩, fun h => absurd (h11.symm.trans h) (by decide), k.c1_0, k.c2_1, k.c3_2, k.c4_3, k.c6_5, k.c7_6, k.c8_7, k.c9_4, k.c9_8, k.c11_9, k.c11_10⟩
set_option maxRecDepth 100000 in
set_option maxHeartbeats 8000000 in
theorem trajectory51 (W : World) (b : Nat) (ls : List (List UInt8)) (tl : List UInt8) (h : RdS W b ls tl) (hL : LibW W) :
  Calls Tryz.prog 48 #[.pointer (some ⟨b, 0, none⟩)] W (RdP b tl TrajV W (Fm.rdTrajR ls)) := by
 generalize hO : Fm.rdTrajR ls = o
 have HO := Lib.hid hO
 have h8 := h.lo
 have hlt0 := h.lt
 have hb1 : Below W.heap.size W (W.alloc (.cells #[.slice none 0 0, .slice none 0 0, .int .i64 0, .int .i64 0, .int .i64 0, .int .i64 0, .slice none 0 0] 43)) := (Below.refl _ _).alloc (Nat.le_refl _) _
 have HX2 := Lib.hid (Bx.new W [.slice none 0 0, .slice none 0 0, .int .i64 0, .int .i64 0, .int .i64 0, .int .i64 0, .slice none 0 0] 43)
 have HL := Lib.hid (hL.keep hb1)
 have HB := Lib.hid hb1
 have HS := Lib.hid (h.keep hb1)
 have HSZ : Hid ((W.alloc (.cells #[.slice none 0 0, .slice none 0 0, .int .i64 0, .int .i64 0, .int .i64 0, .int .i64 0, .slice none 0 0] 43)).heap.size = W.heap.size + 1) := Lib.hid (by simp)
 clear hb1 h hL hO
 go_enter Tryz.func48, Tryz.ntmps48
 go_upto_region 1 with fail
 generalize (W.alloc (.cells #[.slice none 0 0, .slice none 0 0, .int .i64 0, .int .i64 0, .int .i64 0, .int .i64 0, .slice none 0 0] 43)) = W1 at HX2 HL HB HS HSZ ⊢
 obtain ⟨n2, hn2⟩ : ∃ n, n = W.heap.size := ⟨_, rfl⟩
 have HN2 := Lib.hid hn2
 rw [← hn2] at HX2 HSZ hlt0 ⊢
 clear hn2
 have HC := Lib.hid (exactly65 W1 b ⟨#[116, 114, 97, 106, 101, 99, 116, 111, 114, 121]⟩ ls tl 4 HS.out HL.out)
 go_wp2_with fail
 refine HC.out.mono ?_
 rintro e W2 h1
 cases hq : Fm.rdN Fm.kwTraj 4 ls with
 | none =>
  rw [show Fm.rdN (⟨#[116, 114, 97, 106, 101, 99, 116, 111, 114, 121]⟩ : ByteArray).data.toList 4 ls = none from hq] at h1
  obtain ⟨rfl, hG⟩ := h1.no
  have HG := Lib.hid (grown_trans (grown_of_below HB.out) hG)
  have HOT := Lib.hid (HO.out.symm.trans (Fm.rdTrajR_no0 hq))
  clear h1 hG HC hq
  unfold malP
  go_wp2
  exact ⟨rfl, RdP.mkno HOT.out HG.out⟩
 | some p =>
  obtain ⟨ns, q⟩ := p
  obtain ⟨ng, nx, ny, nz, rfl⟩ := Fm.rdN_four hq
  rw [show Fm.rdN (⟨#[116, 114, 97, 106, 101, 99, 116, 111, 114, 121]⟩ : ByteArray).data.toList 4 ls = some ([ng, nx, ny, nz], q) from hq] at h1
  have HQ := Lib.hid hq
  have HIN := Lib.hid (Fm.rdN_in hq)
  obtain ⟨v, rfl, hN, hS, hG⟩ := h1.yes
  obtain ⟨oa, cap, rfl, hcap, hs⟩ := hN.now
  obtain ⟨g, off, rfl, hra⟩ := hs (by simp [pvals])
  obtain ⟨x0, x1, x2, x3, glt⟩ := NumV.four hN.now
  have HG := Lib.hid (grown_trans (grown_of_below HB.out) hG)
  have HS2 := Lib.hid hS
  have HL2 := Lib.hid (HL.out.keepG hG h8)
  have HX22 := Lib.hid (HX2.out.grown hG (by omega))
  have HSZ2 : Hid (n2 + 1 ≤ W2.heap.size) := Lib.hid (by have := HSZ.out; have := hG.size; omega)
  have HSL : Hid (∀ X, Below W2.heap.size W2 X → Sl X (some ⟨g, off, none⟩) 1 (pvals [ng])) := Lib.hid (fun X hX _ => ⟨g, off, rfl, Nat.lt_of_lt_of_le glt hX.size, fun i r hi k v hv => by
   have hi' : [ng][i]?.map (fun p => [Value.int .i64 p]) = some r := by rw [← hi, pvals, List.getElem?_map]
   rw [Option.map_eq_some_iff] at hi'
   obtain ⟨x, hx, rfl⟩ := hi'
   have hi0 : i = 0 := by rcases Nat.eq_zero_or_pos i with h | h; exact h; rw [List.getElem?_eq_none (by simp; omega)] at hx; cases hx
   have hk0 : k = 0 := by rcases Nat.eq_zero_or_pos k with h | h; exact h; rw [List.getElem?_eq_none (by simp; omega)] at hv; cases hv
   subst hi0 hk0
   simp at hx hv
   subst hx hv
   have := (hX.cell (p := ⟨g, off, none⟩) glt).trans x0
   simpa using this⟩)
  have HX1 := Lib.hid x1
  have HX2b := Lib.hid x2
  have HX3 := Lib.hid x3
  have hcc1 : (1 : Int) ≤ (cap : Int) := by simp at hcap; omega
  have hcc2 : 1 ≤ cap := by simp at hcap; omega
  have hcc3 : (4 : Int) ≤ (cap : Int) := by simp at hcap; omega
  have hcc4 : 4 ≤ cap := by simp at hcap; omega
  have hcc5 : cap ≠ 1 := by omega
  clear h1 hN hS hG hs hra HC HX2 HL HB hq HS x0 x1 x2 x3 hcap
  have H77 := Lib.hid (fun X (hX : Below W2.heap.size W2 X) => ints77 X (some ⟨g, off, none⟩) cap [ng] (HSL.out X hX) (fun n hn => HIN.out n (by rw [List.mem_singleton] at hn; subst hn; simp)) (by simp))
  go_upto_region 2 with fail
  refine wp_region_inv (by kernel_rfl) (by kernel_rfl) (Tr2J b n2 g off cap ng nx ny nz W2) ?_ ?_ ?_
  ·exact ⟨_, _, _, _, _, _, _, _, _, _, _, rfl, ⟨below_drew W2 1, nofun, nofun, nofun, nofun, nofun, nofun, nofun, nofun, nofun, nofun, nofun, nofun, nofun, nofun, nofun, nofun, nofun, nofun, nofun, nofun, nofun, nofun, nofun⟩⟩
  ·intro iq oq ho L a w hL hd hJ
   obtain ⟨v4, v11, v12, v13, v14, v15, v16, v17, v18, v19, v20, rfl, k⟩ := hJ
   have hiq : iq < 12 := by have := (Array.getElem?_eq_some_iff.1 ho).1; simpa using this
   match iq, hiq, ho, hL with
   | 0, _, ho, hL =>
    have ho2 := ho
    simp only [qz1, qz2, qz3, qz4] at ho
    subst ho
    refine wpOp_step ho2 (fun K hK => ?_)
    go_simp
    exact hK _ _ ⟨_, _, _, _, _, _, _, _, _, _, _, rfl, ⟨k.wf, fun _ => rfl, k.f1, k.f2, k.f3, k.f4, k.f5, k.f6, k.f7, k.f8, k.f9, k.f10, k.f11, fun h => up_or (k.c1_0 h), fun h => up_or (k.c2_1 h), fun h => up_or (k.c3_2 h), fun h => up_or (k.c4_3 h), fun h => up_or (k.c6_5 h), fun h => up_or (k.c7_6 h), fun h => up_or (k.c8_7 h), fun h => up_or (k.c9_4 h), fun h => up_or (k.c9_8 h), fun h => up_or (k.c11_9 h), fun h => up_or (k.c11_10 h)⟩⟩
   | 1, _, ho, hL =>
    have ho2 := ho
    simp only [qz1, qz2, qz3, qz4] at ho
    subst ho
    refine wpOp_step ho2 (fun K hK => ?_)
    obtain rfl := k.f0 (hd ⟨0, .data⟩ (by simp) rfl)
    go_simp
    exact hK _ _ ⟨_, _, _, _, _, _, _, _, _, _, _, rfl, ⟨k.wf, k.f0, fun _ => rfl, k.f2, k.f3, k.f4, k.f5, k.f6, k.f7, k.f8, k.f9, k.f10, k.f11, fun _ => up_or (hd ⟨0, .data⟩ (by simp) rfl), fun h => up_or (k.c2_1 h), fun h => up_or (k.c3_2 h), fun h => up_or (k.c4_3 h), fun h => up_or (k.c6_5 h), fun h => up_or (k.c7_6 h), fun h => up_or (k.c8_7 h), fun h => up_or (k.c9_4 h), fun h => up_or (k.c9_8 h), fun h => up_or (k.c11_9 h), fun h => up_or (k.c11_10 h)⟩⟩
   | 2, _, ho, hL =>
    have ho2 := ho
    simp only [qz1, qz2, qz3, qz4] at ho
    subst ho
    refine wpOp_step ho2 (fun K hK => ?_)
    obtain rfl := k.f1 (hd ⟨1, .data⟩ (by simp) rfl)
    have h11 : L 11 = false := by
     cases h : L 11 with
     | false => rfl
     | true => exact absurd (hL.symm.trans (k.c3_2 (k.c4_3 (k.c9_4 (k.c11_9 h))))) (by decide)
    have hcall := H77.out w k.wf
    go_simp
    refine hcall.mono ?_
    rintro e X ⟨v', rfl, hN, hb⟩
    replace k := k.keep h11 hb
    exact hK _ _ ⟨_, _, _, _, _, _, _, _, _, _, _, rfl, ⟨k.wf, k.f0, k.f1, fun _ _ => IntAt.of hN.now, k.f3, k.f4, k.f5, k.f6, k.f7, k.f8, k.f9, k.f10, k.f11, fun h => up_or (k.c1_0 h), fun _ => up_or (hd ⟨1, .data⟩ (by simp) rfl), fun h => up_or (k.c3_2 h), fun h => up_or (k.c4_3 h), fun h => up_or (k.c6_5 h), fun h => up_or (k.c7_6 h), fun h => up_or (k.c8_7 h), fun h => up_or (k.c9_4 h), fun h => up_or (k.c9_8 h), fun h => up_or (k.c11_9 h), fun h => up_or (k.c11_10 h)⟩⟩
   | 3, _, ho, hL =>
    have ho2 := ho
    simp only [qz1, qz2, qz3, qz4] at ho
    subst ho
    refine wpOp_step ho2 (fun K hK => ?_)
    have h11 : L 11 = false := by
     cases h : L 11 with
     | false => rfl
     | true => exact absurd (hL.symm.trans (k.c4_3 (k.c9_4 (k.c11_9 h)))) (by decide)
    obtain ⟨g4, o4, c4, rfl, x4, l4⟩ := k.f2 (hd ⟨2, .data⟩ (by simp) rfl) h11
    go_simp
    exact hK _ _ ⟨_, _, _, _, _, _, _, _, _, _, _, rfl, ⟨k.wf, k.f0, k.f1, k.f2, fun _ _ => ⟨g4, o4, rfl, x4, l4⟩, k.f4, k.f5, k.f6, k.f7, k.f8, k.f9, k.f10, k.f11, fun h => up_or (k.c1_0 h), fun h => up_or (k.c2_1 h), fun _ => up_or (hd ⟨2, .data⟩ (by simp) rfl), fun h => up_or (k.c4_3 h), fun h => up_or (k.c6_5 h), fun h => up_or (k.c7_6 h), fun h => up_or (k.c8_7 h), fun h => up_or (k.c9_4 h), fun h => up_or (k.c9_8 h), fun h => up_or (k.c11_9 h), fun h => up_or (k.c11_10 h)⟩⟩
   | 4, _, ho, hL =>
    have ho2 := ho
    simp only [qz1, qz2, qz3, qz4] at ho
    subst ho
    refine wpOp_step ho2 (fun K hK => ?_)
    have h11 : L 11 = false := by
     cases h : L 11 with
     | false => rfl
     | true => exact absurd (hL.symm.trans (k.c9_4 (k.c11_9 h))) (by decide)
    obtain ⟨g4, o4, rfl, x4, l4⟩ := k.f3 (hd ⟨3, .data⟩ (by simp) rfl) h11
    go_simp
    exact hK _ _ ⟨_, _, _, _, _, _, _, _, _, _, _, rfl, ⟨k.wf, k.f0, k.f1, k.f2, k.f3, fun _ => rfl, k.f5, k.f6, k.f7, k.f8, k.f9, k.f10, k.f11, fun h => up_or (k.c1_0 h), fun h => up_or (k.c2_1 h), fun h => up_or (k.c3_2 h), fun _ => up_or (hd ⟨3, .data⟩ (by simp) rfl), fun h => up_or (k.c6_5 h), fun h => up_or (k.c7_6 h), fun h => up_or (k.c8_7 h), fun h => up_or (k.c9_4 h), fun h => up_or (k.c9_8 h), fun h => up_or (k.c11_9 h), fun h => up_or (k.c11_10 h)⟩⟩
   | 5, _, ho, hL =>
    have ho2 := ho
    simp only [qz1, qz2, qz3, qz4] at ho
    subst ho
    refine wpOp_step ho2 (fun K hK => ?_)
    go_simp
    exact hK _ _ ⟨_, _, _, _, _, _, _, _, _, _, _, rfl, ⟨k.wf, k.f0, k.f1, k.f2, k.f3, k.f4, fun _ => rfl, k.f6, k.f7, k.f8, k.f9, k.f10, k.f11, fun h => up_or (k.c1_0 h), fun h => up_or (k.c2_1 h), fun h => up_or (k.c3_2 h), fun h => up_or (k.c4_3 h), fun h => up_or (k.c6_5 h), fun h => up_or (k.c7_6 h), fun h => up_or (k.c8_7 h), fun h => up_or (k.c9_4 h), fun h => up_or (k.c9_8 h), fun h => up_or (k.c11_9 h), fun h => up_or (k.c11_10 h)⟩⟩
   | 6, _, ho, hL =>
    have ho2 := ho
    simp only [qz1, qz2, qz3, qz4] at ho
    subst ho
    refine wpOp_step ho2 (fun K hK => ?_)
    obtain rfl := k.f5 (hd ⟨5, .data⟩ (by simp) rfl)
    go_simp
    exact hK _ _ ⟨_, _, _, _, _, _, _, _, _, _, _, rfl, ⟨k.wf, k.f0, k.f1, k.f2, k.f3, k.f4, k.f5, fun _ => rfl, k.f7, k.f8, k.f9, k.f10, k.f11, fun h => up_or (k.c1_0 h), fun h => up_or (k.c2_1 h), fun h => up_or (k.c3_2 h), fun h => up_or (k.c4_3 h), fun _ => up_or (hd ⟨5, .data⟩ (by simp) rfl), fun h => up_or (k.c7_6 h), fun h => up_or (k.c8_7 h), fun h => up_or (k.c9_4 h), fun h => up_or (k.c9_8 h), fun h => up_or (k.c11_9 h), fun h => up_or (k.c11_10 h)⟩⟩
   | 7, _, ho, hL =>
    have ho2 := ho
    simp only [qz1, qz2, qz3, qz4] at ho
    subst ho
    refine wpOp_step ho2 (fun K hK => ?_)
    obtain rfl := k.f6 (hd ⟨6, .data⟩ (by simp) rfl)
    have haa := run_arrayAt (P := Tryz.prog) w 40 2 3 (some ⟨g, off + 1, none⟩) 3 (cap - 1) Tryz.underlying40 (Nat.le_refl _)
    go_simp
    exact hK _ _ ⟨_, _, _, _, _, _, _, _, _, _, _, rfl, ⟨k.wf, k.f0, k.f1, k.f2, k.f3, k.f4, k.f5, k.f6, fun _ => rfl, k.f8, k.f9, k.f10, k.f11, fun h => up_or (k.c1_0 h), fun h => up_or (k.c2_1 h), fun h => up_or (k.c3_2 h), fun h => up_or (k.c4_3 h), fun h => up_or (k.c6_5 h), fun _ => up_or (hd ⟨6, .data⟩ (by simp) rfl), fun h => up_or (k.c8_7 h), fun h => up_or (k.c9_4 h), fun h => up_or (k.c9_8 h), fun h => up_or (k.c11_9 h), fun h => up_or (k.c11_10 h)⟩⟩
   | 8, _, ho, hL =>
    have ho2 := ho
    simp only [qz1, qz2, qz3, qz4] at ho
    subst ho
    refine wpOp_step ho2 (fun K hK => ?_)
    obtain rfl := k.f7 (hd ⟨7, .data⟩ (by simp) rfl)
    have x1 := (k.wf.cell (p := ⟨g, off + 1, none⟩) glt).trans HX1.out
    have x2 := (k.wf.cell (p := ⟨g, off + 2, none⟩) glt).trans HX2b.out
    have x3 := (k.wf.cell (p := ⟨g, off + 3, none⟩) glt).trans HX3.out
    have gw : g < w.heap.size := Nat.lt_of_lt_of_le glt k.wf.size
    go_simp
    exact hK _ _ ⟨_, _, _, _, _, _, _, _, _, _, _, rfl, ⟨k.wf, k.f0, k.f1, k.f2, k.f3, k.f4, k.f5, k.f6, k.f7, fun _ => rfl, k.f9, k.f10, k.f11, fun h => up_or (k.c1_0 h), fun h => up_or (k.c2_1 h), fun h => up_or (k.c3_2 h), fun h => up_or (k.c4_3 h), fun h => up_or (k.c6_5 h), fun h => up_or (k.c7_6 h), fun _ => up_or (hd ⟨7, .data⟩ (by simp) rfl), fun h => up_or (k.c9_4 h), fun h => up_or (k.c9_8 h), fun h => up_or (k.c11_9 h), fun h => up_or (k.c11_10 h)⟩⟩
   | 9, _, ho, hL =>
    have ho2 := ho
    simp only [qz1, qz2, qz3, qz4] at ho
    subst ho
    refine wpOp_step ho2 (fun K hK => ?_)
    obtain rfl := k.f4 (hd ⟨4, .data⟩ (by simp) rfl)
    obtain rfl := k.f8 (hd ⟨8, .data⟩ (by simp) rfl)
    go_simp
    exact hK _ _ ⟨_, _, _, _, _, _, _, _, _, _, _, rfl, ⟨k.wf, k.f0, k.f1, k.f2, k.f3, k.f4, k.f5, k.f6, k.f7, k.f8, fun _ => rfl, k.f10, k.f11, fun h => up_or (k.c1_0 h), fun h => up_or (k.c2_1 h), fun h => up_or (k.c3_2 h), fun h => up_or (k.c4_3 h), fun h => up_or (k.c6_5 h), fun h => up_or (k.c7_6 h), fun h => up_or (k.c8_7 h), fun _ => up_or (hd ⟨4, .data⟩ (by simp) rfl), fun _ => up_or (hd ⟨8, .data⟩ (by simp) rfl), fun h => up_or (k.c11_9 h), fun h => up_or (k.c11_10 h)⟩⟩
   | 10, _, ho, hL =>
    have ho2 := ho
    simp only [qz1, qz2, qz3, qz4] at ho
    subst ho
    refine wpOp_step ho2 (fun K hK => ?_)
    have h11 : L 11 = false := by
     cases h : L 11 with
     | false => rfl
     | true => exact absurd (hL.symm.trans (k.c11_10 h)) (by decide)
    have hb : Below w.heap.size w (w.alloc (.cells #[.slice none 0 0, .slice none 0 0, .int .i64 0, .int .i64 0, .int .i64 0, .int .i64 0, .slice none 0 0] 43)) := (Below.refl _ _).alloc (Nat.le_refl _) _
    have hbx := Bx.new w [.slice none 0 0, .slice none 0 0, .int .i64 0, .int .i64 0, .int .i64 0, .int .i64 0, .slice none 0 0] 43
    have hsw := k.wf.size
    go_simp
    replace k := k.keep h11 hb
    exact hK _ _ ⟨_, _, _, _, _, _, _, _, _, _, _, rfl, ⟨k.wf, k.f0, k.f1, k.f2, k.f3, k.f4, k.f5, k.f6, k.f7, k.f8, k.f9, fun _ _ => ⟨w.heap.size, rfl, hbx, hsw⟩, fun h => absurd (h11.symm.trans h) (by decide), fun h => up_or (k.c1_0 h), fun h => up_or (k.c2_1 h), fun h => up_or (k.c3_2 h), fun h => up_or (k.c4_3 h), fun h => up_or (k.c6_5 h), fun h => up_or (k.c7_6 h), fun h => up_or (k.c8_7 h), fun h => up_or (k.c9_4 h), fun h => up_or (k.c9_8 h), fun h => up_or (k.c11_9 h), fun h => up_or (k.c11_10 h)⟩⟩
   | 11, _, ho, hL =>
    have ho2 := ho
    simp only [qz1, qz2, qz3, qz4] at ho
    subst ho
    refine wpOp_step ho2 (fun K hK => ?_)
    obtain rfl := k.f9 (hd ⟨9, .data⟩ (by simp) rfl)
    obtain ⟨nA, rfl, hbx, hnA⟩ := k.f10 (hd ⟨10, .data⟩ (by simp) rfl) hL
    have bl := hbx.lt
    obtain ⟨y0, z0, y1, z1, y2, z2, y3, z3, y4, z4, y5, z5, y6, z6⟩ := facts7 hbx (.slice none 0 0) (.slice none 0 0) (.int .i64 nx) (.int .i64 ny) (.int .i64 nz) (.int .i64 ng)
    have hst := st7 hbx (.slice none 0 0) (.slice none 0 0) (.int .i64 nx) (.int .i64 ny) (.int .i64 nz) (.int .i64 ng) (.slice none 0 0)
    have hwb : Below W2.heap.size W2 (set7 w nA (.slice none 0 0) (.slice none 0 0) (.int .i64 nx) (.int .i64 ny) (.int .i64 nz) (.int .i64 ng) (.slice none 0 0)) := k.wf.trans (set7_below w nA W2.heap.size hnA _ _ _ _ _ _ _)
    unfold set7 at hst hwb
    go_simp
    exact hK _ _ ⟨_, _, _, _, _, _, _, _, _, _, _, rfl, ⟨hwb, k.f0, k.f1, fun _ => nofun, fun _ => nofun, k.f4, k.f5, k.f6, k.f7, k.f8, k.f9, fun _ => nofun, fun _ => ⟨nA, rfl, hst, hnA⟩, fun h => up_or (k.c1_0 h), fun h => up_or (k.c2_1 h), fun h => up_or (k.c3_2 h), fun h => up_or (k.c4_3 h), fun h => up_or (k.c6_5 h), fun h => up_or (k.c7_6 h), fun h => up_or (k.c8_7 h), fun h => up_or (k.c9_4 h), fun h => up_or (k.c9_8 h), fun _ => up_or (hd ⟨9, .data⟩ (by simp) rfl), fun _ => up_or (hd ⟨10, .data⟩ (by simp) rfl)⟩⟩
   | n + 12, h, _, _ => omega
  ·intro L a w hL hJ
   obtain ⟨v4, v11, v12, v13, v14, v15, v16, v17, v18, v19, v20, rfl, k⟩ := hJ
   obtain ⟨n4, rfl, hbx, hn4⟩ := k.f11 (hL 11 (by decide))
   obtain rfl := k.f0 (hL 0 (by decide))
   obtain rfl := k.f1 (hL 1 (by decide))
   obtain rfl := k.f4 (hL 4 (by decide))
   obtain rfl := k.f5 (hL 5 (by decide))
   obtain rfl := k.f6 (hL 6 (by decide))
   obtain rfl := k.f7 (hL 7 (by decide))
   obtain rfl := k.f8 (hL 8 (by decide))
   obtain rfl := k.f9 (hL 9 (by decide))
   have hbw := k.wf
   dsimp only
   clear k hL
   obtain ⟨W3, rfl⟩ : ∃ X, X = w := ⟨_, rfl⟩
   have hbl2 : b < W2.heap.size := by have := HSZ2.out; omega
   have hnb : n4 ≠ b := by omega
   have hn42 : n4 ≠ n2 := by have := HSZ2.out; omega
   have HX4 := Lib.hid hbx
   have HB3 := Lib.hid hbw
   have HS3 := Lib.hid (HS2.out.keep hbw)
   have HL3 := Lib.hid (HL2.out.keep hbw)
   have HG3 := Lib.hid (grown_call HG.out hbw)
   have HX23 := Lib.hid (HX22.out.keep hbw)
   have HN4 : Hid (W2.heap.size ≤ n4 ∧ n2 + 1 ≤ W2.heap.size) := Lib.hid ⟨hn4, HSZ2.out⟩
   clear hbx hbw HS2 HL2 HG HX22 HX1 HX2b HX3 H77 HSL glt hn4 HSZ HSZ2 hcc1 hcc2 hcc3 hcc4 hcc5
   have HC := Lib.hid (path39 W3 b q tl HS3.out HL3.out)
   go_wp2_with fail
   refine HC.out.mono ?_
   clear HC
   rintro e W4 h4
   cases hq2 : Fm.rdPathR q with
   | none =>
    rw [hq2] at h4
    obtain ⟨rfl, hG⟩ := h4.no
    have HG := Lib.hid (grown_trans HG3.out hG)
    have HOT := Lib.hid (HO.out.symm.trans (Fm.rdTrajR_no1 HQ.out hq2))
    clear h4 hG hq2
    unfold malP
    go_wp2
    exact ⟨rfl, RdP.mkno HOT.out HG.out⟩
   | some pr =>
    obtain ⟨pd, q2⟩ := pr
    rw [hq2] at h4
    obtain ⟨v, rfl, hN, hS, hG⟩ := h4.yes
    obtain ⟨op, np, oe, ne, rfl, -, -⟩ := hN.now
    have hm : pd.edges.length ≤ 255 := by
     have := (Fm.rdPathR_some hq2).2
     unfold Fm.rightP at this
     rw [Bool.and_eq_true, decide_eq_true_eq] at this
     omega
    have HQ2 := Lib.hid hq2
    have hx4 := HX4.out.grown hG hnb
    have f0 := hx4.f 0
    have c0 := hx4.c 0 _ rfl
    have l4 := hx4.lt
    have hA := hx4.putAt 0 (.slice op pd.pts.length np)
    have f1A := hA.f 1
    have c1A := hA.c 1 _ rfl
    have HX5 : Hid (Bx ((W4.setCell ⟨n4, 0, none⟩ (.slice op pd.pts.length np)).setCell ⟨n4, 1, none⟩ (.slice oe pd.edges.length ne)) n4 [.slice op pd.pts.length np, .slice oe pd.edges.length ne, .int .i64 nx, .int .i64 ny, .int .i64 nz, .int .i64 ng, .slice none 0 0] 43) := Lib.hid (hA.putAt 1 (.slice oe pd.edges.length ne))
    have hbel : Below n4 W4 ((W4.setCell ⟨n4, 0, none⟩ (.slice op pd.pts.length np)).setCell ⟨n4, 1, none⟩ (.slice oe pd.edges.length ne)) := ((Below.refl _ _).setCell (p := ⟨n4, 0, none⟩) (Nat.le_refl _) _).setCell (p := ⟨n4, 1, none⟩) (Nat.le_refl _) _
    have HPV : Hid (New W3.heap.size ((W4.setCell ⟨n4, 0, none⟩ (.slice op pd.pts.length np)).setCell ⟨n4, 1, none⟩ (.slice oe pd.edges.length ne)) (PathV (.agg #[.slice op pd.pts.length np, .slice oe pd.edges.length ne]) pd)) := Lib.hid (New.keep hN ((AgI.set W4 _ HX4.out.lt).trans (AgI.set _ _ HX4.out.lt)))
    have HS5 : Hid (RdS ((W4.setCell ⟨n4, 0, none⟩ (.slice op pd.pts.length np)).setCell ⟨n4, 1, none⟩ (.slice oe pd.edges.length ne)) b q2 tl) := Lib.hid ((hS.other (n := n4) _ (Ne.symm hnb)).other (n := n4) _ (Ne.symm hnb))
    have HL5 := Lib.hid ((HL3.out.keepG hG h8).low (hbel.mono (by have := HN4.out; omega)))
    have HG5 : Hid (W.grownBy ((W4.setCell ⟨n4, 0, none⟩ (.slice op pd.pts.length np)).setCell ⟨n4, 1, none⟩ (.slice oe pd.edges.length ne)) (some b)) := Lib.hid (grown_low2 (grown_trans HG3.out hG) (lo := n4) hbel (by have h1 := HN4.out; have h2 := HN2.out; omega))
    have HX25 : Hid (Bx ((W4.setCell ⟨n4, 0, none⟩ (.slice op pd.pts.length np)).setCell ⟨n4, 1, none⟩ (.slice oe pd.edges.length ne)) n2 [.slice none 0 0, .slice none 0 0, .int .i64 0, .int .i64 0, .int .i64 0, .int .i64 0, .slice none 0 0] 43) := Lib.hid (((HX23.out.grown hG (by omega)).other (Ne.symm hn42) 0 _).other (Ne.symm hn42) 1 _)
    have HZ5 : Hid (W3.heap.size ≤ ((W4.setCell ⟨n4, 0, none⟩ (.slice op pd.pts.length np)).setCell ⟨n4, 1, none⟩ (.slice oe pd.edges.length ne)).heap.size ∧ n4 < W3.heap.size) := Lib.hid ⟨Nat.le_trans hG.size hbel.size, HX4.out.lt⟩
    clear h4 hN hS hG hq2 hA hbel hx4
    go_upto_region 4 with fail
    clear f0 c0 f1A c1A l4
    generalize ((W4.setCell ⟨n4, 0, none⟩ (.slice op pd.pts.length np)).setCell ⟨n4, 1, none⟩ (.slice oe pd.edges.length ne)) = W5 at HX5 HPV HS5 HL5 HG5 HX25 HZ5 ⊢
    have c1 := HX5.out.c 1 _ rfl
    have cl := HX5.out.lt
    go_wp2_with fail
    clear c1 cl
    generalize hml : pd.edges.length = m at hm
    have HML := Lib.hid hml
    rw [hml] at HX5
    clear hml
    go_loopw [28] (fun i X => ∃ (k : Nat) (fs : List Fm.ProfD) (q3 : List (List UInt8)) (v : Value), k ≤ m ∧ i = .int .i64 (k : Nat) ∧ Fm.RepAt Fm.rdProf m q2 k fs q3 ∧ Bx X n4 [.slice op pd.pts.length np, .slice oe m ne, .int .i64 nx, .int .i64 ny, .int .i64 nz, .int .i64 ng, v] 43 ∧ RowO ProfAt 92 2 W5.heap.size X v fs ∧ RdS X b q3 tl ∧ Fr3 W5.heap.size b n4 W5 X) (fun i _ => m - (intOf i).toNat)
    case atStart => exact ⟨0, [], q2, .slice none 0 0, Nat.zero_le _, rfl, Fm.RepAt.start _ _ _, HX5.out, RowO.nil _ _ _ _ _, HS5.out, Fr3.refl _ _ _ _⟩
    case round =>
     obtain ⟨k, fs, q3, v, hk, rfl, hR, hX, hRow, hS, hF⟩ := hrel
     obtain ⟨W6, rfl⟩ : ∃ X, X = wr := ⟨_, rfl⟩
     have HF := Lib.hid hF
     have HR := Lib.hid hR
     have HX6 := Lib.hid hX
     have HRow6 := Lib.hid hRow
     have HS6 := Lib.hid hS
     have hzz := HZ5.out
     have hn44 := HN4.out
     have hn22 := HN2.out
     have HG6 : Hid (W.grownBy W6 (some b)) := Lib.hid (hF.back HG5.out (by omega) (by omega))
     have HL6 : Hid (LibW W6) := Lib.hid (by
      have h1 := HL5.out
      refine h1.low ⟨hF.os, hF.tape, hF.output, hF.size, fun k hk => hF.block k ?_ ?_ ?_⟩ <;> omega)
     have hbw5 : b < W5.heap.size := by omega
     have hn4w5 : n4 < W5.heap.size := by omega
     clear hF hR hX hRow hS hzz hn44 hn22
     by_cases hlt : k < m
     ·have HC := Lib.hid (exactly65 W6 b ⟨#[112, 114, 111, 102, 105, 108, 101]⟩ q3 tl 2 HS6.out HL6.out)
      go_wp2_with fail
      refine HC.out.mono ?_
      clear HC
      rintro e W7 h7
      cases hq7 : Fm.rdN Fm.kwProfile 2 q3 with
      | none =>
       rw [show Fm.rdN (⟨#[112, 114, 111, 102, 105, 108, 101]⟩ : ByteArray).data.toList 2 q3 = none from hq7] at h7
       obtain ⟨rfl, hG⟩ := h7.no
       have HG := Lib.hid (grown_trans HG6.out hG)
       have HOT := Lib.hid (HO.out.symm.trans (Fm.rdTrajR_no2 HQ.out HQ2.out (by rw [HML.out]; exact HR.out.none hlt (Fm.rdProf_no1 hq7))))
       clear h7 hG hq7
       unfold malP
       go_wp2
       exact ⟨rfl, RdP.mkno HOT.out HG.out⟩
      | some p7 =>
       obtain ⟨ns, q4⟩ := p7
       obtain ⟨na, nb, rfl⟩ := Fm.rdN_two hq7
       rw [show Fm.rdN (⟨#[112, 114, 111, 102, 105, 108, 101]⟩ : ByteArray).data.toList 2 q3 = some ([na, nb], q4) from hq7] at h7
       have HQ7 := Lib.hid hq7
       obtain ⟨v7, rfl, hN, hS, hG⟩ := h7.yes
       obtain ⟨oa7, cap7, rfl, hcap7, hs7⟩ := hN.now
       obtain ⟨g7, o7, rfl, hra⟩ := hs7 (by simp [pvals])
       have HX0 : Hid (W7.cell? ⟨g7, o7, none⟩ = some (.int .i64 na)) := Lib.hid (hra.c 0 _ rfl 0 _ rfl)
       have HX1 : Hid (W7.cell? ⟨g7, o7 + 1, none⟩ = some (.int .i64 nb)) := Lib.hid (hra.c 1 _ rfl 0 _ rfl)
       have glt := hra.lt
       have HG67 := Lib.hid hG
       have HS7 := Lib.hid hS
       have HL7 := Lib.hid (HL6.out.keepG hG h8)
       have HP : Hid (∀ X, Below W7.heap.size W7 X → (¬ Fm.cntOk na = true ∨ ¬ Fm.cntOk nb = true) → RdP b tl TrajV W o (.panicked [{ v := .iface 133 (.agg #[]), recovered := false }]) X) := Lib.hid (fun X h hc => RdP.mkno (HO.out.symm.trans (Fm.rdTrajR_no2 HQ.out HQ2.out (by rw [HML.out]; exact HR.out.none hlt (Fm.rdProf_no2 HQ7.out hc)))) (grown_call (grown_trans HG6.out hG) h))
       clear h7 hN hS hG hs7 hra hq7 hcap7
       go_wp2_with fail
       refine wp_region_inv (by kernel_rfl) (by kernel_rfl) (fun L a w => ∃ v6 v7 v32 v33 v34 v35 v36 v37 v38 v39 : Value, a = { tmps := #[(Value.pointer (some ⟨b, 0, none⟩)), undef, (Value.pointer (some ⟨n2, 0, none⟩)), (Value.slice (some ⟨g, off, none⟩) 4 cap), (Value.pointer (some ⟨n4, 0, none⟩)), (Value.slice (some ⟨g7, o7, none⟩) 2 cap7), v6, v7, u8, (Value.pointer (some ⟨b, 0, none⟩)), (Value.slice (some ⟨g, off, none⟩) 4 cap), (Value.slice (some ⟨g, off, none⟩) 4 cap), (Value.slice (some ⟨g, off, none⟩) 1 cap), v13, v14, (Value.int IntKind.i64 ng), (Value.slice (some ⟨g, off, none⟩) 4 cap), (Value.slice (some ⟨g, off + 1, none⟩) 3 (cap - 1)), (Value.pointer (some ⟨g, off + 1, none⟩)), (Value.agg #[Value.int IntKind.i64 nx, Value.int IntKind.i64 ny, Value.int IntKind.i64 nz]), (Value.agg #[Value.slice none 0 0, Value.slice none 0 0, Value.int IntKind.i64 nx, Value.int IntKind.i64 ny, Value.int IntKind.i64 nz, Value.int IntKind.i64 ng, Value.slice none 0 0]), (Value.pointer (some ⟨b, 0, none⟩)), (Value.agg #[Value.slice op pd.pts.length np, Value.slice oe m ne]), (Value.pointer (some ⟨n4, 0, none⟩)), (Value.pointer (some ⟨n4, 0, none⟩)), (Value.pointer (some ⟨n4, 1, none⟩)), (Value.slice oe m ne), (Value.int IntKind.i64 ((m : Nat) : Int)), (Value.int IntKind.i64 ((k : Nat) : Int)), (Value.bool true), (Value.pointer (some ⟨b, 0, none⟩)), (Value.slice (some ⟨g7, o7, none⟩) 2 cap7), v32, v33, v34, v35, v36, v37, v38, v39, u40, u41, u42, u43, u44, u45, u46, u47, u48, u49, u50, u51, u52, u53, u54, undef], defers := [] } ∧ Ct7K b n2 g7 o7 cap7 na nb W7 L v6 v7 v32 v33 v34 v35 v36 v37 v38 v39 w) ?_ ?_ ?_
       ·exact ⟨_, _, _, _, _, _, _, _, _, _, rfl, ⟨below_drew W7 1, nofun, nofun, nofun, nofun, nofun, nofun, nofun, nofun, nofun, nofun⟩⟩
       ·intro iq oq ho L a w hL hd hJ
        obtain ⟨v6, v7, v32, v33, v34, v35, v36, v37, v38, v39, rfl, k⟩ := hJ
        have hiq : iq < 10 := by have := (Array.getElem?_eq_some_iff.1 ho).1; simpa using this
        match iq, hiq, ho, hL with
        | 0, _, ho, hL =>
         have ho2 := ho
         simp only [qz1, qz2, qz3, qz4] at ho
         subst ho
         refine wpOp_step ho2 (fun K hK => ?_)
         go_simp
         exact hK _ _ ⟨_, _, _, _, _, _, _, _, _, _, rfl, ⟨k.wf, fun _ => rfl, k.f1, k.f2, k.f3, k.f4, k.f5, k.f6, k.f7, k.f8, k.f9⟩⟩
        | 1, _, ho, hL =>
         have ho2 := ho
         simp only [qz1, qz2, qz3, qz4] at ho
         subst ho
         refine wpOp_step ho2 (fun K hK => ?_)
         obtain rfl := k.f0 (hd ⟨0, .data⟩ (by simp) rfl)
         go_simp
         exact hK _ _ ⟨_, _, _, _, _, _, _, _, _, _, rfl, ⟨k.wf, k.f0, fun _ => rfl, k.f2, k.f3, k.f4, k.f5, k.f6, k.f7, k.f8, k.f9⟩⟩
        | 2, _, ho, hL =>
         have ho2 := ho
         simp only [qz1, qz2, qz3, qz4] at ho
         subst ho
         refine wpOp_step ho2 (fun K hK => ?_)
         obtain rfl := k.f1 (hd ⟨1, .data⟩ (by simp) rfl)
         have x0 : w.cell? ⟨g7, o7, none⟩ = some (.int .i64 na) := (k.wf.cell (p := ⟨g7, o7, none⟩) glt).trans HX0.out
         have gw : g7 < w.heap.size := Nat.lt_of_lt_of_le glt k.wf.size
         go_simp
         exact hK _ _ ⟨_, _, _, _, _, _, _, _, _, _, rfl, ⟨k.wf, k.f0, k.f1, fun _ => rfl, k.f3, k.f4, k.f5, k.f6, k.f7, k.f8, k.f9⟩⟩
        | 3, _, ho, hL =>
         have ho2 := ho
         simp only [qz1, qz2, qz3, qz4] at ho
         subst ho
         refine wpOp_step ho2 (fun K hK => ?_)
         obtain rfl := k.f2 (hd ⟨2, .data⟩ (by simp) rfl)
         by_cases hc : Fm.cntOk na = true
         ·have hcc : Calls Tryz.prog 67 #[.int .i64 na] w (fun e W' => e = .returned (.int .i64 na) ∧ W' = w) := (count64 na w).mono fun e W' h => by rw [if_pos hc] at h; exact h
          go_simp
          refine hcc.mono ?_
          rintro e X ⟨rfl, hX⟩
          subst hX
          exact hK _ _ ⟨_, _, _, _, _, _, _, _, _, _, rfl, ⟨k.wf, k.f0, k.f1, k.f2, fun _ => ⟨hc, rfl⟩, k.f4, k.f5, k.f6, k.f7, k.f8, k.f9⟩⟩
         ·have hcc : Calls Tryz.prog 67 #[.int .i64 na] w (fun e W' => e = .panicked [{ v := .iface 133 (.agg #[]), recovered := false }] ∧ W' = w) := (count64 na w).mono fun e W' h => by rw [if_neg hc] at h; exact h
          go_simp
          refine hcc.mono ?_
          rintro e X ⟨rfl, hX⟩
          subst hX
          exact ⟨rfl, HP.out _ k.wf (.inl hc)⟩
        | 4, _, ho, hL =>
         have ho2 := ho
         simp only [qz1, qz2, qz3, qz4] at ho
         subst ho
         refine wpOp_step ho2 (fun K hK => ?_)
         go_simp
         exact hK _ _ ⟨_, _, _, _, _, _, _, _, _, _, rfl, ⟨k.wf, k.f0, k.f1, k.f2, k.f3, fun _ => rfl, k.f5, k.f6, k.f7, k.f8, k.f9⟩⟩
        | 5, _, ho, hL =>
         have ho2 := ho
         simp only [qz1, qz2, qz3, qz4] at ho
         subst ho
         refine wpOp_step ho2 (fun K hK => ?_)
         obtain rfl := k.f4 (hd ⟨4, .data⟩ (by simp) rfl)
         go_simp
         exact hK _ _ ⟨_, _, _, _, _, _, _, _, _, _, rfl, ⟨k.wf, k.f0, k.f1, k.f2, k.f3, k.f4, fun _ => rfl, k.f6, k.f7, k.f8, k.f9⟩⟩
        | 6, _, ho, hL =>
         have ho2 := ho
         simp only [qz1, qz2, qz3, qz4] at ho
         subst ho
         refine wpOp_step ho2 (fun K hK => ?_)
         obtain rfl := k.f5 (hd ⟨5, .data⟩ (by simp) rfl)
         have x1 : w.cell? ⟨g7, o7 + 1, none⟩ = some (.int .i64 nb) := (k.wf.cell (p := ⟨g7, o7 + 1, none⟩) glt).trans HX1.out
         have gw : g7 < w.heap.size := Nat.lt_of_lt_of_le glt k.wf.size
         go_simp
         exact hK _ _ ⟨_, _, _, _, _, _, _, _, _, _, rfl, ⟨k.wf, k.f0, k.f1, k.f2, k.f3, k.f4, k.f5, fun _ => rfl, k.f7, k.f8, k.f9⟩⟩
        | 7, _, ho, hL =>
         have ho2 := ho
         simp only [qz1, qz2, qz3, qz4] at ho
         subst ho
         refine wpOp_step ho2 (fun K hK => ?_)
         obtain rfl := k.f6 (hd ⟨6, .data⟩ (by simp) rfl)
         by_cases hc : Fm.cntOk nb = true
         ·have hcc : Calls Tryz.prog 67 #[.int .i64 nb] w (fun e W' => e = .returned (.int .i64 nb) ∧ W' = w) := (count64 nb w).mono fun e W' h => by rw [if_pos hc] at h; exact h
          go_simp
          refine hcc.mono ?_
          rintro e X ⟨rfl, hX⟩
          subst hX
          exact hK _ _ ⟨_, _, _, _, _, _, _, _, _, _, rfl, ⟨k.wf, k.f0, k.f1, k.f2, k.f3, k.f4, k.f5, k.f6, fun _ => ⟨hc, rfl⟩, k.f8, k.f9⟩⟩
         ·have hcc : Calls Tryz.prog 67 #[.int .i64 nb] w (fun e W' => e = .panicked [{ v := .iface 133 (.agg #[]), recovered := false }] ∧ W' = w) := (count64 nb w).mono fun e W' h => by rw [if_neg hc] at h; exact h
          go_simp
          refine hcc.mono ?_
          rintro e X ⟨rfl, hX⟩
          subst hX
          exact ⟨rfl, HP.out _ k.wf (.inr hc)⟩
        | 8, _, ho, hL =>
         have ho2 := ho
         simp only [qz1, qz2, qz3, qz4] at ho
         subst ho
         refine wpOp_step ho2 (fun K hK => ?_)
         obtain ⟨_, rfl⟩ := k.f3 (hd ⟨3, .data⟩ (by simp) rfl)
         go_simp
         exact hK _ _ ⟨_, _, _, _, _, _, _, _, _, _, rfl, ⟨k.wf, k.f0, k.f1, k.f2, k.f3, k.f4, k.f5, k.f6, k.f7, fun _ => rfl, k.f9⟩⟩
        | 9, _, ho, hL =>
         have ho2 := ho
         simp only [qz1, qz2, qz3, qz4] at ho
         subst ho
         refine wpOp_step ho2 (fun K hK => ?_)
         obtain ⟨_, rfl⟩ := k.f7 (hd ⟨7, .data⟩ (by simp) rfl)
         go_simp
         exact hK _ _ ⟨_, _, _, _, _, _, _, _, _, _, rfl, ⟨k.wf, k.f0, k.f1, k.f2, k.f3, k.f4, k.f5, k.f6, k.f7, k.f8, fun _ => rfl⟩⟩
        | n + 10, h, _, _ => omega
       ·intro L a w hL hJ
        obtain ⟨v6, v7, v32, v33, v34, v35, v36, v37, v38, v39, rfl, k⟩ := hJ
        obtain rfl := k.f0 (hL 0 (by decide))
        obtain rfl := k.f1 (hL 1 (by decide))
        obtain rfl := k.f2 (hL 2 (by decide))
        obtain ⟨hca, rfl⟩ := k.f3 (hL 3 (by decide))
        obtain rfl := k.f4 (hL 4 (by decide))
        obtain rfl := k.f5 (hL 5 (by decide))
        obtain rfl := k.f6 (hL 6 (by decide))
        obtain ⟨hcb, rfl⟩ := k.f7 (hL 7 (by decide))
        obtain rfl := k.f8 (hL 8 (by decide))
        obtain rfl := k.f9 (hL 9 (by decide))
        have hb2 := k.wf
        dsimp only
        clear k hL
        obtain ⟨W8, rfl⟩ : ∃ X, X = w := ⟨_, rfl⟩
        obtain ⟨na', rfl⟩ : ∃ m : Nat, na = (m : Int) := ⟨na.toNat, (Fm.cnt_nat hca).symm⟩
        obtain ⟨nb', rfl⟩ : ∃ m : Nat, nb = (m : Int) := ⟨nb.toNat, (Fm.cnt_nat hcb).symm⟩
        have hna : na' ≤ 1048576 := by unfold Fm.cntOk at hca; rw [decide_eq_true_eq] at hca; omega
        have hnb' : nb' ≤ 1048576 := by unfold Fm.cntOk at hcb; rw [decide_eq_true_eq] at hcb; omega
        have HCA := Lib.hid (And.intro hca hcb)
        have HG8 := Lib.hid (grown_call HG67.out hb2)
        have HS8 := Lib.hid (HS7.out.keep hb2)
        have HL8 := Lib.hid (HL7.out.keep hb2)
        clear hb2 HG67 HS7 HL7 HP HX0 HX1 glt hca hcb
        have HC := Lib.hid (exactly65 W8 b ⟨#[108, 101, 118, 101, 108, 115]⟩ q4 tl na' HS8.out HL8.out)
        go_wp2_with fail
        refine HC.out.mono ?_
        clear HC
        rintro e W9 h9
        cases hq9 : Fm.rdN Fm.kwLevels na' q4 with
        | none =>
         rw [show Fm.rdN (⟨#[108, 101, 118, 101, 108, 115]⟩ : ByteArray).data.toList na' q4 = none from hq9] at h9
         obtain ⟨rfl, hG⟩ := h9.no
         have HG := Lib.hid (grown_trans HG6.out (grown_trans HG8.out hG))
         have HOT := Lib.hid (HO.out.symm.trans (Fm.rdTrajR_no2 HQ.out HQ2.out (by rw [HML.out]; exact HR.out.none hlt (Fm.rdProf_no3 HQ7.out (by rw [Int.toNat_natCast]; exact hq9)))))
         clear h9 hG hq9
         unfold malP
         go_wp2
         exact ⟨rfl, RdP.mkno HOT.out HG.out⟩
        | some p9 =>
         obtain ⟨lv, q5⟩ := p9
         rw [show Fm.rdN (⟨#[108, 101, 118, 101, 108, 115]⟩ : ByteArray).data.toList na' q4 = some (lv, q5) from hq9] at h9
         have HQ9 := Lib.hid hq9
         obtain ⟨v9, rfl, hN, hS, hG⟩ := h9.yes
         have HN9 := Lib.hid hN
         have HG9 := Lib.hid hG
         have HS9 := Lib.hid hS
         have HL9 := Lib.hid (HL8.out.keepG hG h8)
         clear h9 hN hS hG hq9
         have HC := Lib.hid (exactly65 W9 b ⟨#[115, 116, 101, 112, 115]⟩ q5 tl nb' HS9.out HL9.out)
         go_wp2_with fail
         refine HC.out.mono ?_
         clear HC
         rintro e W10 h10
         cases hq10 : Fm.rdN Fm.kwSteps nb' q5 with
         | none =>
          rw [show Fm.rdN (⟨#[115, 116, 101, 112, 115]⟩ : ByteArray).data.toList nb' q5 = none from hq10] at h10
          obtain ⟨rfl, hG⟩ := h10.no
          have HG := Lib.hid (grown_trans HG6.out (grown_trans HG8.out (grown_trans HG9.out hG)))
          have HOT := Lib.hid (HO.out.symm.trans (Fm.rdTrajR_no2 HQ.out HQ2.out (by rw [HML.out]; exact HR.out.none hlt (Fm.rdProf_no4 HQ7.out (by rw [Int.toNat_natCast]; exact HQ9.out) (by rw [Int.toNat_natCast]; exact hq10)))))
          clear h10 hG hq10
          unfold malP
          go_wp2
          exact ⟨rfl, RdP.mkno HOT.out HG.out⟩
         | some p10 =>
          obtain ⟨st, q6⟩ := p10
          rw [show Fm.rdN (⟨#[115, 116, 101, 112, 115]⟩ : ByteArray).data.toList nb' q5 = some (st, q6) from hq10] at h10
          obtain ⟨v10, rfl, hN, hS, hG⟩ := h10.yes
          obtain ⟨o10, c10, rfl, -, hs10⟩ := hN.now
          have hst : st.length ≤ 1048576 := by have := (Fm.rdN_un hq10).2; omega
          have HRN := Lib.hid (HR.out.step hlt (Fm.rdProf_yes HQ7.out HCA.out.1 HCA.out.2 (by rw [Int.toNat_natCast]; exact HQ9.out) (by rw [Int.toNat_natCast]; exact hq10)))
          have HC := Lib.hid (ints77 W10 o10 c10 st hs10 (Fm.rdN_in hq10) hst)
          have HG10 := Lib.hid hG
          have HS10 := Lib.hid hS
          clear h10 hN hS hG hq10 hs10
          go_wp2_with fail
          refine HC.out.mono ?_
          clear HC
          rintro e W11 ⟨v11, rfl, hN11, hb11⟩
          -- the profile's data
          have hG611 : W6.grownBy W11 (some b) := grown_trans HG8.out (grown_trans HG9.out (grown_call HG10.out hb11))
          have hD1 : New W6.heap.size W11 (NumV v9 lv) := by
           have h1 : New W8.heap.size W11 (NumV v9 lv) := New.keep HN9.out ((grown_ag HG10.out W8.heap.size (Nat.lt_of_lt_of_le HS6.out.lt HG8.out.size)).trans (AgI.of hb11))
           exact Fp.mono h1 fun k hk => ⟨Nat.le_trans HG8.out.size hk.1, hk.2⟩
          have hD2 : New W6.heap.size W11 (NumV v11 st) := Fp.mono hN11 fun k hk => ⟨Nat.le_trans HG8.out.size (Nat.le_trans HG9.out.size (Nat.le_trans HG10.out.size hk.1)), hk.2⟩
          obtain ⟨ol, cl, rfl, -, -⟩ := hD1.now
          obtain ⟨oi, ci, rfl, -, -⟩ := hD2.now
          have HD : Hid (New W6.heap.size W11 (fun X => ProfAt X [.slice ol lv.length cl, .slice oi st.length ci] ⟨lv, st⟩)) := Lib.hid (fun X hX => by
           obtain ⟨a1, a2, e1, -, h1⟩ := hD1 X hX
           obtain ⟨a3, a4, e2, -, h2⟩ := hD2 X hX
           injection e1 with e1 _ e1'
           injection e2 with e2 _ e2'
           exact ⟨ol, cl, oi, ci, rfl, by rw [e1]; exact h1, by rw [e2]; exact h2⟩)
          have HG11 := Lib.hid hG611
          have HS11 := Lib.hid (HS10.out.keep hb11)
          have hx11 := HX6.out.grown hG611 hnb
          have c6 := hx11.c 6 _ rfl
          have cl6 := hx11.lt
          clear hN11 hb11 hG611 hD1 hD2 HG8 HG9 HG10 HS8 HL8 HN9 HS9 HL9 HS10
          have hb12 : Below W11.heap.size W11 (W11.alloc (.cells #[.slice ol lv.length cl, .slice oi st.length ci] 92)) := (Below.refl _ _).alloc (Nat.le_refl _) _
          have HX8 := Lib.hid (Bx.new W11 [.slice ol lv.length cl, .slice oi st.length ci] 92)
          have HX12 := Lib.hid (hx11.keep hb12)
          have HB12 := Lib.hid hb12
          clear hx11 hb12
          go_upto_region 9 with fail
          clear c6 cl6
          generalize hW12 : W11.alloc (.cells #[.slice ol lv.length cl, .slice oi st.length ci] 92) = W12 at HX8 HX12 HB12 ⊢
          clear hW12
          generalize W11.heap.size = n8 at HX8 ⊢
          have a0 := HX8.out.c 0 _ rfl
          have a1 := HX8.out.c 1 _ rfl
          have al := HX8.out.lt
          have c6 := HX12.out.c 6 _ rfl
          have f6 := HX12.out.f 6
          have cl6 := HX12.out.lt
          obtain ⟨i0, hi, hz0, hz1, hz2⟩ := info_parts info44
          obtain ⟨rows, hV⟩ := HRow6.out.ex
          have hb13 : Below W12.heap.size W12 (W12.alloc (.cells #[.slice ol lv.length cl, .slice oi st.length ci] 92)) := (Below.refl _ _).alloc (Nat.le_refl _) _
          have hb1113 := below_call HB12.out hb13
          have HV := Lib.hid hV
          have HV2 := Lib.hid (hV.keep ((grown_ag HG11.out W5.heap.size hbw5).trans (AgI.of hb1113)))
          have hkx := HRN.out.2.1
          rw [List.length_append, List.length_cons, List.length_nil] at hkx
          have hVl := hV.len
          have HSZ : Hid (W5.heap.size ≤ (W12.alloc (.cells #[.slice ol lv.length cl, .slice oi st.length ci] 92)).heap.size) := Lib.hid (Nat.le_trans HF.out.size (Nat.le_trans HG11.out.size hb1113.size))
          have HX13 := Lib.hid (HX12.out.keep hb13)
          have HB13 := Lib.hid hb1113
          clear hV hb13 hb1113
          go_wp2_with (at_builtin; refine wpList_append_own_at _ rfl _ _ 41 rfl W5.heap.size 92 i0 (.agg #[.slice none 0 0, .slice none 0 0]) 2 48 under39 hi hz0 hz1 hz2 rfl (by decide) _ _ _ rfl HV2.out.own ⟨W12.heap.size, 0, none⟩ 1 1 [.slice ol lv.length cl, .slice oi st.length ci] rfl rfl ?c1 ?c2 ?c3 ?c4 ?c5 ?_)
          case c1 => exact new_cells _ _ _
          case c2 => intro u hu; simp at hu; rcases hu with rfl | rfl <;> rfl
          case c3 => unfold maxLen; omega
          case c4 => omega
          case c5 => exact HSZ.out
          intro v' w' hown' hgrow _ hat
          have hrl : rows.length = k := by omega
          have HR2 : Hid (RowO ProfAt 92 2 W5.heap.size w' v' (fs ++ [⟨lv, st⟩])) := Lib.hid (HV.out.app (grown_ag HG11.out W5.heap.size hbw5) HD.out rfl HB13.out (by rw [hrl]; exact hown') hgrow (by simpa using hat) HF.out.size)
          have hbn : Below W5.heap.size (W12.alloc (.cells #[.slice ol lv.length cl, .slice oi st.length ci] 92)) w' := grown_below HV2.out.own hgrow HSZ.out
          have HB14 : Hid (Below W5.heap.size W11 w') := Lib.hid ((HB13.out.mono (Nat.le_trans HF.out.size HG11.out.size)).trans hbn)
          have hx14 := HX13.out.low hbn hn4w5
          clear a0 a1 al c6 f6 cl6 hbn hgrow hat
          have f6 := hx14.f 6
          have c6 := hx14.c 6 _ rfl
          have cl6 := hx14.lt
          obtain ⟨on, cn, rfl⟩ := own_sl hown'
          have HX15 := Lib.hid (hx14.putAt 6 (.slice on (k + 1) cn))
          have HS14 := Lib.hid (HS11.out.keepA HB14.out hbw5)
          clear hx14 hown' hi hz0 hz1 hz2 HV HV2 HD HB13 HX13
          go_wp2_with fail
          have HR15 := Lib.hid (HR2.out.keep (AgI.set w' (i := 6) (n := n4) (.slice on (k + 1) cn) hn4w5))
          have HS15 := Lib.hid (HS14.out.other (n := n4) (i := 6) (.slice on (k + 1) cn) (Ne.symm hnb))
          have HF15 : Hid (Fr3 W5.heap.size b n4 W5 (w'.setCell ⟨n4, 6, none⟩ (.slice on (k + 1) cn))) := Lib.hid (HF.out.trans ((Fr3.grown HG11.out HF.out.size).trans ((Fr3.low HB14.out).trans (Fr3.set w' 6 _))))
          go_roundw
          case rel => exact ⟨k + 1, _, q6, _, by omega, by simp, HRN.out, HX15.out, HR15.out, HS15.out, HF15.out⟩
          case measure => simp [intOf]; omega
     ·have hke : k = m := by omega
      subst hke
      have HR3 := Lib.hid HR.out.done
      obtain ⟨f, nf, rfl, hFN, -, -⟩ := HRow6.out.done
      have hfl : fs.length = k := HR.out.2.1
      have HOT : Hid (o = some (⟨ng, (nx, ny, nz), pd, fs⟩, q3)) := Lib.hid (HO.out.symm.trans (Fm.rdTrajR_yes HQ.out HQ2.out (by rw [HML.out]; exact HR3.out)))
      have HPV6 : Hid (New W3.heap.size W6 (TrajV (.agg #[.slice op pd.pts.length np, .slice oe k ne, .int .i64 nx, .int .i64 ny, .int .i64 nz, .int .i64 ng, .slice f fs.length nf]) ⟨ng, (nx, ny, nz), pd, fs⟩)) := Lib.hid (fun X hX => by
       have hz1 := HZ5.out
       have hz2 := HN4.out
       obtain ⟨op', np', oe', ne', e, h1, h2⟩ := HPV.out X fun j hj => by
        have h1 := hj.1; have h2 := hj.2
        rw [hX j ⟨h1, Nat.lt_of_lt_of_le h2 HF.out.size⟩]
        exact HF.out.block j h2 (by omega) (by omega)
       have h3 := hFN X fun j hj => hX j ⟨by have := hj.1; omega, hj.2⟩
       injection e with e
       have e1 := congrArg (fun x => x[0]?) e
       have e2 := congrArg (fun x => x[1]?) e
       simp at e1 e2
       exact ⟨op', np', oe', ne', f, nf, by simp [e1, e2, HML.out.symm], h1, h2, h3⟩)
      have c0 := HX6.out.c 0 _ rfl
      have c1 := HX6.out.c 1 _ rfl
      have c2 := HX6.out.c 2 _ rfl
      have c3 := HX6.out.c 3 _ rfl
      have c4 := HX6.out.c 4 _ rfl
      have c5 := HX6.out.c 5 _ rfl
      have c6 := HX6.out.c 6 _ rfl
      have cl := HX6.out.lt
      have hn4o := HN4.out
      have hx2 : Bx W6 n2 [.slice none 0 0, .slice none 0 0, .int .i64 0, .int .i64 0, .int .i64 0, .int .i64 0, .slice none 0 0] 43 := ⟨(HF.out.block n2 (by omega) (by omega) (Ne.symm hn42)).trans HX25.out.h⟩
      have bl := hx2.lt
      obtain ⟨y0, z0, y1, z1, y2, z2, y3, z3, y4, z4, y5, z5, y6, z6⟩ := facts7 hx2 (.slice op pd.pts.length np) (.slice oe k ne) (.int .i64 nx) (.int .i64 ny) (.int .i64 nz) (.int .i64 ng)
      have HBF := Lib.hid (st7 hx2 (.slice op pd.pts.length np) (.slice oe k ne) (.int .i64 nx) (.int .i64 ny) (.int .i64 nz) (.int .i64 ng) (.slice f fs.length nf))
      have h22 := HN2.out
      have HGQ := Lib.hid (grown_low2 HG6.out (set7_below W6 n2 W.heap.size (Nat.le_of_eq h22.symm) (.slice op pd.pts.length np) (.slice oe k ne) (.int .i64 nx) (.int .i64 ny) (.int .i64 nz) (.int .i64 ng) (.slice f fs.length nf)) (Nat.le_refl _))
      have HBL := Lib.hid (set7_blk W6 n2 (.slice op pd.pts.length np) (.slice oe k ne) (.int .i64 nx) (.int .i64 ny) (.int .i64 nz) (.int .i64 ng) (.slice f fs.length nf))
      have HSQ := Lib.hid (set7_size W6 n2 (.slice op pd.pts.length np) (.slice oe k ne) (.int .i64 nx) (.int .i64 ny) (.int .i64 nz) (.int .i64 ng) (.slice f fs.length nf))
      clear hFN hx2 hfl HR HRow6 h22 hn4o
      unfold set7 at HBF HGQ HBL HSQ
      go_wp2
      generalize ((((((W6.setCell ⟨n2, 0, none⟩ (.slice op pd.pts.length np)).setCell ⟨n2, 1, none⟩ (.slice oe k ne)).setCell ⟨n2, 2, none⟩ (.int .i64 nx)).setCell ⟨n2, 3, none⟩ (.int .i64 ny)).setCell ⟨n2, 4, none⟩ (.int .i64 nz)).setCell ⟨n2, 5, none⟩ (.int .i64 ng)).setCell ⟨n2, 6, none⟩ (.slice f fs.length nf) = W9 at HBF HSQ HGQ HBL ⊢
      clear c0 c1 c2 c3 c4 c5 c6 cl bl y0 z0 y1 z1 y2 z2 y3 z3 y4 z4 y5 z5 y6 z6
      have c0 := HBF.out.c 0 _ rfl
      have c1 := HBF.out.c 1 _ rfl
      have c2 := HBF.out.c 2 _ rfl
      have c3 := HBF.out.c 3 _ rfl
      have c4 := HBF.out.c 4 _ rfl
      have c5 := HBF.out.c 5 _ rfl
      have c6 := HBF.out.c 6 _ rfl
      have cl := HBF.out.lt
      refine bodyPost_ret (v := .agg #[.slice op pd.pts.length np, .slice oe k ne, .int .i64 nx, .int .i64 ny, .int .i64 nz, .int .i64 ng, .slice f fs.length nf]) (by simp [results, Tryz.results48, go_sem, c0, c1, c2, c3, c4, c5, c6]) rfl ?_
      refine RdP.mk (x := ⟨ng, (nx, ny, nz), pd, fs⟩) (r := q3) HOT.out (fun W' hW' => HPV6.out W' fun j hj => ?_) ?_ HGQ.out
      ·have h1 := hj.1; have h2 := hj.2
       have h3 := HN2.out
       have h4 := HN4.out
       have h5 := HB3.out.size
       rw [hW' j ⟨by omega, by rw [HSQ.out]; exact h2⟩, HBL.out j (by omega)]
      ·obtain ⟨⟨s, hs1, hs2, hs3⟩, hs4⟩ := HS6.out
       exact ⟨⟨s, ⟨(HBL.out b (by omega)).trans hs1.h⟩, hs2, hs3⟩, hs4⟩
end Go.Proofs.Ng
