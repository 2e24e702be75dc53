/-
  Texts put together: Cg.
-/
import Derived.Test.YthcmkpcefiiiaaaGreatDoorZFormatCanonicalCard7
import Derived.Test.YthcmkpcefiiiaaaGreatDoorZFormatCanonicalCard4
set_option linter.unusedVariables false
/-
 Walks: a path. Printed by gen_cg.py.
-/
namespace Go.Proofs.Ng
open Go.RowKit
/-- All that stood is as it was, but the reader, one box, and what was made from lo on. -/
structure Fr3 (lo b n : Nat) (W X : World) : Prop where
 os : X.os = W.os
 tape : X.tape = W.tape
 output : X.output = W.output
 size : W.heap.size ≤ X.heap.size
 block : ∀ k, k < lo → k ≠ b → k ≠ n → X.heap[k]? = W.heap[k]?
theorem Fr3.refl (lo b n : Nat) (W : World) : Fr3 lo b n W W := ⟨rfl, rfl, rfl, Nat.le_refl _, fun _ _ _ _ => rfl⟩
theorem Fr3.trans {lo b n : Nat} {W X Y : World} (h : Fr3 lo b n W X) (k : Fr3 lo b n X Y) : Fr3 lo b n W Y :=
 ⟨k.os.trans h.os, k.tape.trans h.tape, k.output.trans h.output, Nat.le_trans h.size k.size, fun i h1 h2 h3 => (k.block i h1 h2 h3).trans (h.block i h1 h2 h3)⟩
theorem Fr3.grown {lo b n : Nat} {W X : World} (h : W.grownBy X (some b)) (hl : lo ≤ W.heap.size) : Fr3 lo b n W X :=
 ⟨h.os, h.tape, h.output, h.size, fun k h1 h2 _ => h.block k (Nat.lt_of_lt_of_le h1 hl) (fun e => h2 (Option.some.inj e))⟩
theorem Fr3.low {lo b n : Nat} {W X : World} (h : Below lo W X) : Fr3 lo b n W X := ⟨h.os, h.tape, h.output, h.size, fun k h1 _ _ => h.block k h1⟩
theorem Fr3.set {lo b n : Nat} (W : World) (i : Nat) (v : Value) : Fr3 lo b n W (W.setCell ⟨n, i, none⟩ v) :=
 ⟨rfl, rfl, rfl, by simp [World.setCell], fun k _ _ h => Below.heap_setCell W ⟨n, i, none⟩ v k h⟩
theorem Fr3.back {lo b n : Nat} {W0 W X : World} (h : Fr3 lo b n W X) (h0 : W0.grownBy W (some b)) (hn : W0.heap.size ≤ n) (hl : W0.heap.size ≤ lo) : W0.grownBy X (some b) :=
 ⟨h.os.trans h0.os, h.tape.trans h0.tape, h.output.trans h0.output, Nat.le_trans h0.size h.size, fun k h1 h2 => (h.block k (by omega) (fun e => h2 (congrArg some e)) (by omega)).trans (h0.block k h1 h2)⟩
theorem Bx.grown {W X : World} {n b : Nat} {cs : List Value} {ty : TypeId} (h : Bx W n cs ty) (hg : W.grownBy X (some b)) (hne : n ≠ b) : Bx X n cs ty := ⟨(hg.block n h.lt (fun e => hne (Option.some.inj e))).trans h.h⟩
theorem RdS.other {W : World} {b n i : Nat} {ls : List (List UInt8)} {tl : List UInt8} (h : RdS W b ls tl) (v : Value) (hne : b ≠ n) : RdS (W.setCell ⟨n, i, none⟩ v) b ls tl := by
 obtain ⟨⟨s, h1, h2, h3⟩, h4⟩ := h
 exact ⟨⟨s, ⟨(Below.heap_setCell W ⟨n, i, none⟩ v b hne).trans h1.h⟩, h2, h3⟩, h4⟩
/-- Points, edges in memory. -/
def PtD : Dat (List Int) := fun W r xs => ∃ o c, r = [.slice o xs.length c] ∧ Sl W o 1 (pvals xs)
def EdD : Dat Fm.EdgeD := fun W r e => ∃ ot nt ou nu, r = [.slice ot e.table.length nt, .slice ou e.uses.length nu] ∧ Rws VecD 3 W ot e.table ∧ Rws UseAt 3 W ou e.uses
/-- A path's value. -/
def PathV (v : Value) (p : Fm.PathD) (W : World) : Prop := ∃ op np oe ne, v = .agg #[.slice op p.pts.length np, .slice oe p.edges.length ne] ∧ Rws PtD 1 W op p.pts ∧ Rws EdD 2 W oe p.edges
theorem vecs_of {W : World} {o : Option Addr} {l : List (Int × Int × Int)} (h : Rws VecD 3 W o l) : Sl W o 3 (vecsV l) := by
 obtain ⟨rows, h1, h2, h3⟩ := h.ex
 have e : rows = vecsV l := by
  apply List.ext_getElem
  ·simp [vecsV, h1]
  ·intro k hk hk2
   have hk3 : k < l.length := by rw [← h1]; exact hk
   have := h3 k rows[k] l[k] (List.getElem?_eq_getElem hk) (List.getElem?_eq_getElem hk3)
   rw [this]
   simp [vecsV]
 rw [← e]
 exact h2
theorem uses_of {W : World} {o : Option Addr} {l : List Fm.UseD} (h : Rws UseAt 3 W o l) : Uses W o l := ⟨h.ex⟩
theorem PathV.at {W : World} {v : Value} {p : Fm.PathD} (h : PathV v p W) : PathAt W v p := by
 obtain ⟨op, np, oe, ne, rfl, hp, he⟩ := h
 refine ⟨op, np, oe, ne, rfl, ?_, ?_⟩
 ·obtain ⟨rows, h1, h2, h3⟩ := hp.ex
  have hh : ∀ (k : Nat) (r : List Value), rows[k]? = some r → ∃ v : Value, r = [v] := fun k r hr => by
   obtain ⟨xs, hx⟩ : ∃ xs, p.pts[k]? = some xs := ⟨_, List.getElem?_eq_getElem (by rw [← h1]; exact (List.getElem?_eq_some_iff.1 hr).1)⟩
   obtain ⟨o, c, e, _⟩ := h3 k r xs hr hx
   exact ⟨_, e⟩
  have e : rows = (rows.map fun r => (r.head?.getD undef)).map fun v => [v] := by
   apply List.ext_getElem
   ·simp
   ·intro k hk hk2
    obtain ⟨v, hv⟩ := hh k rows[k] (List.getElem?_eq_getElem hk)
    simp [hv]
  refine ⟨rows.map fun r => (r.head?.getD undef), by simp [h1], by rw [← e]; exact h2, fun k v xs hv hx => ?_⟩
  rw [List.getElem?_map] at hv
  cases hr : rows[k]? with
  | none => rw [hr] at hv; cases hv
  | some r =>
   rw [hr] at hv
   obtain ⟨o, c, e2, hs⟩ := h3 k r xs hr hx
   subst e2
   simp at hv
   subst hv
   exact ⟨o, c, rfl, hs⟩
 ·obtain ⟨rows, h1, h2, h3⟩ := he.ex
  refine ⟨rows, h1, h2, fun k r e hr hx => ?_⟩
  obtain ⟨ot, nt, ou, nu, e2, ht, hu⟩ := h3 k r e hr hx
  exact ⟨ot, nt, ou, nu, e2, vecs_of ht, uses_of hu⟩
theorem info42 : (Tryz.prog.info? 68).map (fun i => (i.zero, i.size, i.bytes)) = some (some (.slice none 0 0), 1, 24) := by kernel_rfl
theorem info52 : (Tryz.prog.info? 73).map (fun i => (i.zero, i.size, i.bytes)) = some (some (.agg #[.slice none 0 0, .slice none 0 0]), 2, 48) := by kernel_rfl
theorem under22 : Tryz.prog.underlying 26 = some (.slice 68) := by kernel_rfl
theorem under23 : Tryz.prog.underlying 27 = some (.slice 73) := by kernel_rfl
structure Pa6K (b n2 g off cap n k0 : Nat) (u27 : Value) (v : Value) (xs : List (List Int)) (o3 : Option ((List Int) × List (List UInt8))) (tl : List UInt8) (W5 : World) (L : Nat → Bool) (v0 v1 v2 v3 v4 v5 v6 : Value) (w : World) : Prop where
 wf : (L 3 = false → Below W5.heap.size W5 w) ∧ (L 5 = false → W5.grownBy w (some b))
 f0 : L 0 = true → v0 = .pointer (some ⟨n2 + 1, 0, none⟩)
 f1 : L 1 = true → v1 = v
 f2 : L 2 = true → v2 = .pointer (some ⟨b, 0, none⟩)
 f3 : L 3 = true → L 5 = false → ∃ x r, o3 = some (x, r) ∧ New W5.heap.size w (NumV v3 x) ∧ RdS w b r tl
 f4 : L 4 = true → L 5 = false → ∃ x r cs g4, o3 = some (x, r) ∧ v4 = .slice (some ⟨g4, 0, none⟩) 1 1 ∧ Bx w g4 cs 68 ∧ cs.length = 1 ∧ (∀ u ∈ cs, u.oneCell' = true) ∧ New W5.heap.size w (fun W => PtD W cs x) ∧ RdS w b r tl
 f5 : L 5 = true → ∃ x r, o3 = some (x, r) ∧ RowO PtD 68 1 (n2 + 2) w v5 (xs ++ [x]) ∧ RdS w b r tl ∧ Fr3 (n2 + 2) b (n2 + 1) W5 w ∧ (L 7 = false → Bx w (n2 + 1) [v, .slice none 0 0] 29)
 f6 : L 6 = true → v6 = .pointer (some ⟨n2 + 1, 0, none⟩)
 f7 : L 7 = true → Bx w (n2 + 1) [v5, .slice none 0 0] 29
 c1_0 : L 1 = true → L 0 = true
 c3_2 : L 3 = true → L 2 = true
 c4_3 : L 4 = true → L 3 = true
 c5_1 : L 5 = true → L 1 = true
 c5_4 : L 5 = true → L 4 = true
 c7_5 : L 7 = true → L 5 = true
 c7_6 : L 7 = true → L 6 = true
def Pa6J (b n2 g off cap n k0 : Nat) (u27 : Value) (v : Value) (xs : List (List Int)) (o3 : Option ((List Int) × List (List UInt8))) (tl : List UInt8) (W5 : World) (L : Nat → Bool) (a : Act) (w : World) : Prop := ∃ v0 v1 v2 v3 v4 v5 v6 : Value, a = { tmps := #[.pointer (some ⟨b, 0, none⟩), undef, .pointer (some ⟨n2, 0, none⟩), .pointer (some ⟨n2 + 1, 0, none⟩), .int .i64 (n : Nat), .pointer (some ⟨b, 0, none⟩), .slice (some ⟨g, off, none⟩) 1 cap, .pointer (some ⟨g, off, none⟩), .int .i64 (n : Nat), .int .i64 (n : Nat), .int .i64 (n : Nat), .bool true, .bool true, .int .i64 (n : Nat), .bool true, .bool true, .tuple #[], .int .i64 (n : Nat), .int .i64 (k0 : Nat), .bool true, v0, v1, v2, v3, v4, v5, v6, u27, undef, undef, undef, undef, undef, undef, undef, undef, undef, undef, undef, undef, undef, undef, undef, undef], defers := [] } ∧ Pa6K b n2 g off cap n k0 u27 v xs o3 tl W5 L v0 v1 v2 v3 v4 v5 v6 w
theorem Pa6K.keep {b n2 g off cap n k0 : Nat} {u27 : Value} {v : Value} {xs : List (List Int)} {o3 : Option ((List Int) × List (List UInt8))} {tl : List UInt8} {W5 : World} {L : Nat → Bool} {v0 v1 v2 v3 v4 v5 v6 : Value} {w X : World} (k : Pa6K b n2 g off cap n k0 u27 v xs o3 tl W5 L v0 v1 v2 v3 v4 v5 v6 w) (h5 : L 5 = false) (hb : Below w.heap.size w X) : Pa6K b n2 g off cap n k0 u27 v xs o3 tl W5 L v0 v1 v2 v3 v4 v5 v6 X :=
 ⟨⟨fun h => below_call (k.wf.1 h) hb, fun h => grown_call (k.wf.2 h) hb⟩, k.f0, k.f1, k.f2, fun h e => (k.f3 h e).elim fun x h => h.elim fun r h => ⟨x, r, h.1, New.keep h.2.1 (AgI.of hb), h.2.2.keep hb⟩, fun h e => (k.f4 h e).elim fun x h => h.elim fun r h => h.elim fun cs h => h.elim fun g h => ⟨x, r, cs, g, h.1, h.2.1, h.2.2.1.keep hb, h.2.2.2.1, h.2.2.2.2.1, New.keep h.2.2.2.2.2.1 (AgI.of hb), h.2.2.2.2.2.2.keep hb⟩, fun h => absurd (h5.symm.trans h) (by decide), k.f6, fun h => absurd (h5.symm.trans (k.c7_5 h)) (by decide), k.c1_0, k.c3_2, k.c4_3, k.c5_1, k.c5_4, k.c7_5, k.c7_6⟩
structure Pa10K (b n2 g off cap m k0 lo2 np nps : Nat) (op : Option Addr) (u20 u21 u22 u23 u24 u25 u26 u27 u39 : Value) (v : Value) (xs : List Fm.EdgeD) (o3 : Option (Fm.EdgeD × List (List UInt8))) (tl : List UInt8) (W5 : World) (L : Nat → Bool) (v0 v1 v2 v3 v4 v5 v6 : Value) (w : World) : Prop where
 wf : (L 3 = false → Below W5.heap.size W5 w) ∧ (L 5 = false → W5.grownBy w (some b))
 f0 : L 0 = true → v0 = .pointer (some ⟨n2 + 1, 1, none⟩)
 f1 : L 1 = true → v1 = v
 f2 : L 2 = true → v2 = .pointer (some ⟨b, 0, none⟩)
 f3 : L 3 = true → L 5 = false → ∃ x r, o3 = some (x, r) ∧ New W5.heap.size w (EdgeV v3 x) ∧ RdS w b r tl
 f4 : L 4 = true → L 5 = false → ∃ x r cs g4, o3 = some (x, r) ∧ v4 = .slice (some ⟨g4, 0, none⟩) 1 1 ∧ Bx w g4 cs 73 ∧ cs.length = 2 ∧ (∀ u ∈ cs, u.oneCell' = true) ∧ New W5.heap.size w (fun W => EdD W cs x) ∧ RdS w b r tl
 f5 : L 5 = true → ∃ x r, o3 = some (x, r) ∧ RowO EdD 73 2 (lo2) w v5 (xs ++ [x]) ∧ RdS w b r tl ∧ Fr3 (lo2) b (n2 + 1) W5 w ∧ (L 7 = false → Bx w (n2 + 1) [.slice op nps np, v] 29)
 f6 : L 6 = true → v6 = .pointer (some ⟨n2 + 1, 1, none⟩)
 f7 : L 7 = true → Bx w (n2 + 1) [.slice op nps np, v5] 29
 c1_0 : L 1 = true → L 0 = true
 c3_2 : L 3 = true → L 2 = true
 c4_3 : L 4 = true → L 3 = true
 c5_1 : L 5 = true → L 1 = true
 c5_4 : L 5 = true → L 4 = true
 c7_5 : L 7 = true → L 5 = true
 c7_6 : L 7 = true → L 6 = true
def Pa10J (b n2 g off cap m k0 lo2 np nps : Nat) (op : Option Addr) (u20 u21 u22 u23 u24 u25 u26 u27 u39 : Value) (v : Value) (xs : List Fm.EdgeD) (o3 : Option (Fm.EdgeD × List (List UInt8))) (tl : List UInt8) (W5 : World) (L : Nat → Bool) (a : Act) (w : World) : Prop := ∃ v0 v1 v2 v3 v4 v5 v6 : Value, a = { tmps := #[.pointer (some ⟨b, 0, none⟩), undef, .pointer (some ⟨n2, 0, none⟩), .pointer (some ⟨n2 + 1, 0, none⟩), .int .i64 ((m + 1 : Nat) : Int), .pointer (some ⟨b, 0, none⟩), .slice (some ⟨g, off, none⟩) 1 cap, .pointer (some ⟨g, off, none⟩), .int .i64 ((m + 1 : Nat) : Int), .int .i64 ((m + 1 : Nat) : Int), .int .i64 ((m + 1 : Nat) : Int), .bool true, .bool true, .int .i64 ((m + 1 : Nat) : Int), .bool true, .bool true, .tuple #[], .int .i64 ((m + 1 : Nat) : Int), .int .i64 ((m + 1 : Nat) : Int), .bool false, u20, u21, u22, u23, u24, u25, u26, u27, .int .i64 ((m + 1 : Nat) : Int), .int .i64 (m : Nat), .int .i64 (k0 : Nat), .bool true, v0, v1, v2, v3, v4, v5, v6, u39, undef, undef, undef, undef], defers := [] } ∧ Pa10K b n2 g off cap m k0 lo2 np nps op u20 u21 u22 u23 u24 u25 u26 u27 u39 v xs o3 tl W5 L v0 v1 v2 v3 v4 v5 v6 w
theorem Pa10K.keep {b n2 g off cap m k0 lo2 np nps : Nat} {op : Option Addr} {u20 u21 u22 u23 u24 u25 u26 u27 u39 : Value} {v : Value} {xs : List Fm.EdgeD} {o3 : Option (Fm.EdgeD × List (List UInt8))} {tl : List UInt8} {W5 : World} {L : Nat → Bool} {v0 v1 v2 v3 v4 v5 v6 : Value} {w X : World} (k : Pa10K b n2 g off cap m k0 lo2 np nps op u20 u21 u22 u23 u24 u25 u26 u27 u39 v xs o3 tl W5 L v0 v1 v2 v3 v4 v5 v6 w) (h5 : L 5 = false) (hb : Below w.heap.size w X) : Pa10K b n2 g off cap m k0 lo2 np nps op u20 u21 u22 u23 u24 u25 u26 u27 u39 v xs o3 tl W5 L v0 v1 v2 v3 v4 v5 v6 X :=
 ⟨⟨fun h => below_call (k.wf.1 h) hb, fun h => grown_call (k.wf.2 h) hb⟩, k.f0, k.f1, k.f2, fun h e => (k.f3 h e).elim fun x h => h.elim fun r h => ⟨x, r, h.1, New.keep h.2.1 (AgI.of hb), h.2.2.keep hb⟩, fun h e => (k.f4 h e).elim fun x h => h.elim fun r h => h.elim fun cs h => h.elim fun g h => ⟨x, r, cs, g, h.1, h.2.1, h.2.2.1.keep hb, h.2.2.2.1, h.2.2.2.2.1, New.keep h.2.2.2.2.2.1 (AgI.of hb), h.2.2.2.2.2.2.keep hb⟩, fun h => absurd (h5.symm.trans h) (by decide), k.f6, fun h => absurd (h5.symm.trans (k.c7_5 h)) (by decide), k.c1_0, k.c3_2, k.c4_3, k.c5_1, k.c5_4, k.c7_5, k.c7_6⟩
set_option maxRecDepth 100000 in
set_option maxHeartbeats 8000000 in
theorem path39 (W : World) (b : Nat) (ls : List (List UInt8)) (tl : List UInt8) (h : RdS W b ls tl) (hL : LibW W) :
  Calls Tryz.prog 41 #[.pointer (some ⟨b, 0, none⟩)] W (RdP b tl PathV W (Fm.rdPathR ls)) := by
 generalize hO : Fm.rdPathR ls = o
 have HO := Lib.hid hO
 have h8 := h.lo
 have hlt0 := h.lt
 have hb1 : Below W.heap.size W ((W.alloc (.cells #[.slice none 0 0, .slice none 0 0] 29)).alloc (.cells #[.slice none 0 0, .slice none 0 0] 29)) := ((Below.refl _ _).alloc (Nat.le_refl _) _).alloc (by simp) _
 have hsz : ((W.alloc (.cells #[.slice none 0 0, .slice none 0 0] 29)).alloc (.cells #[.slice none 0 0, .slice none 0 0] 29)).heap.size = W.heap.size + 2 := by simp
 have hsz1 : (W.alloc (.cells #[.slice none 0 0, .slice none 0 0] 29)).heap.size = W.heap.size + 1 := by simp
 have HX2 := Lib.hid ((Bx.new W [.slice none 0 0, .slice none 0 0] 29).keep ((Below.refl _ (W.alloc (.cells #[.slice none 0 0, .slice none 0 0] 29))).alloc (Nat.le_refl _) (.cells #[.slice none 0 0, .slice none 0 0] 29)))
 have HX3 := Lib.hid (Bx.new (W.alloc (.cells #[.slice none 0 0, .slice none 0 0] 29)) [.slice none 0 0, .slice none 0 0] 29)
 have HL := Lib.hid (hL.keep hb1)
 have HB := Lib.hid hb1
 have HS := Lib.hid (h.keep hb1)
 have HSZ := Lib.hid hsz
 rw [hsz1] at HX3
 clear hb1 h hL hO hsz hsz1
 go_enter Tryz.func41, Tryz.ntmps41
 go_wp2_with fail
 generalize ((W.alloc (.cells #[.slice none 0 0, .slice none 0 0] 29)).alloc (.cells #[.slice none 0 0, .slice none 0 0] 29)) = W1 at HX2 HX3 HL HB HS HSZ ⊢
 obtain ⟨n2, hn2⟩ : ∃ n, n = W.heap.size := ⟨_, rfl⟩
 have HN2 := Lib.hid hn2
 rw [← hn2] at HX2 HX3 HSZ hlt0 ⊢
 clear hn2
 have HC := Lib.hid (exactly65 W1 b ⟨#[112, 97, 116, 104]⟩ ls tl 1 HS.out HL.out)
 refine HC.out.mono ?_
 rintro e W2 h1
 cases hq : Fm.rdN Fm.kwPath 1 ls with
 | none =>
  rw [show Fm.rdN (⟨#[112, 97, 116, 104]⟩ : ByteArray).data.toList 1 ls = none from hq] at h1
  obtain ⟨rfl, hG⟩ := h1.no
  have HG := Lib.hid (grown_trans (grown_of_below HB.out) hG)
  have HOT := Lib.hid (HO.out.symm.trans (Fm.rdPath_no1 hq))
  clear h1 hG HC hq
  unfold malP
  go_wp2
  exact ⟨rfl, RdP.mkno HOT.out HG.out⟩
 | some p =>
  obtain ⟨ns, q⟩ := p
  obtain ⟨na, rfl⟩ := Fm.rdN_one hq
  rw [show Fm.rdN (⟨#[112, 97, 116, 104]⟩ : ByteArray).data.toList 1 ls = some ([na], q) from hq] at h1
  have HQ := Lib.hid hq
  obtain ⟨v, rfl, hN, hS, hG⟩ := h1.yes
  obtain ⟨oa, cap, rfl, hcap, hs⟩ := hN.now
  obtain ⟨g, off, rfl, hra⟩ := hs (by simp [pvals])
  have x0 : W2.cell? ⟨g, off, none⟩ = some (.int .i64 na) := hra.c 0 _ rfl 0 _ rfl
  have glt := hra.lt
  have HG := Lib.hid (grown_trans (grown_of_below HB.out) hG)
  have HS2 := Lib.hid hS
  have HL2 := Lib.hid (HL.out.keepG hG h8)
  have HX22 := Lib.hid (HX2.out.grown hG (by omega))
  have HX32 := Lib.hid (HX3.out.grown hG (by omega))
  have HSZ2 : Hid (n2 + 2 ≤ W2.heap.size) := Lib.hid (by have := HSZ.out; have := hG.size; omega)
  have HCC := Lib.hid (count64 na W2)
  clear h1 hN hS hG hs hra HC HX2 HX3 HL HB hq HS
  go_wp2_with fail
  refine HCC.out.mono ?_
  rintro e W3 ⟨he, hw⟩
  subst hw
  by_cases hca : Fm.cntOk na = true
  ·rw [if_pos hca] at he
   subst he
   clear x0 glt HCC
   obtain ⟨n, rfl⟩ : ∃ m : Nat, na = (m : Int) := ⟨na.toNat, (Fm.cnt_nat hca).symm⟩
   clear hca
   by_cases hn2' : 2 ≤ n
   ·by_cases hn256 : n ≤ 256
    ·have hd1 : decide ((2 : Int) ≤ (n : Int)) = true := decide_eq_true (by omega)
     have hd2 : decide ((n : Int) ≤ 256) = true := decide_eq_true (by omega)
     go_wp2_with fail
     refine (need_yes W3).mono ?_
     rintro e W4 ⟨rfl, hw⟩
     subst hw
     clear hd1 hd2
     go_wp2_with fail
     go_loopw [18] (fun i X => ∃ (k : Nat) (ps : List (List Int)) (q2 : List (List UInt8)) (v : Value), k ≤ n ∧ i = .int .i64 (k : Nat) ∧ Fm.RepAt (Fm.rdLine Fm.kwPoint) n q k ps q2 ∧ Bx X (n2 + 1) [v, .slice none 0 0] 29 ∧ RowO PtD 68 1 (n2 + 2) X v ps ∧ RdS X b q2 tl ∧ Fr3 (n2 + 2) b (n2 + 1) W4 X) (fun i _ => n - (intOf i).toNat)
     case atStart => exact ⟨0, [], q, .slice none 0 0, Nat.zero_le _, rfl, Fm.RepAt.start _ _ _, HX32.out, RowO.nil _ _ _ _ _, HS2.out, Fr3.refl _ _ _ _⟩
     case round =>
      obtain ⟨k, ps, q2, v, hk, rfl, hR, hX, hRow, hS, hF⟩ := hrel
      obtain ⟨W5, rfl⟩ : ∃ X, X = wr := ⟨_, rfl⟩
      have HF := Lib.hid hF
      have HR := Lib.hid hR
      have HX5 := Lib.hid hX
      have HRow5 := Lib.hid hRow
      have HS5 := Lib.hid hS
      have hW1 : W.heap.size ≤ n2 + 1 := by rw [← HN2.out]; omega
      have HG5 : Hid (W.grownBy W5 (some b)) := Lib.hid (hF.back HG.out hW1 (by omega))
      have HL5 : Hid (LibW W5) := Lib.hid (by
       have h1 := HL2.out
       refine h1.low ⟨hF.os, hF.tape, hF.output, hF.size, fun k hk => hF.block k ?_ ?_ ?_⟩ <;> omega)
      clear hF hR hX hRow hS hW1
      by_cases hlt : k < n
      ·go_wp2_with fail
       generalize hO3 : Fm.rdLine Fm.kwPoint q2 = o3
       have HO3 : Hid (Fm.rdLine (⟨#[112, 111, 105, 110, 116]⟩ : ByteArray).data.toList q2 = o3) := Lib.hid hO3
       have HRN : Hid (∀ x r, o3 = some (x, r) → Fm.RepAt (Fm.rdLine Fm.kwPoint) n q (k + 1) (ps ++ [x]) r) := Lib.hid (fun x r e => HR.out.step hlt (hO3.trans e))
       have HP : Hid (o3 = none → ∀ X, W5.grownBy X (some b) → RdP b tl PathV W o (.panicked [{ v := .iface 133 (.agg #[]), recovered := false }]) X) := Lib.hid (fun e X hX => RdP.mkno (HO.out.symm.trans (Fm.rdPath_no2 HQ.out (HR.out.none hlt (hO3.trans e)))) (grown_trans HG5.out hX))
       have HXL : Hid (∀ rows : List (List Value), rows.length = ps.length → rows.length + 1 ≤ 1048576) := Lib.hid (fun rows h => by have := HR.out.2.1; omega)
       have HLO : Hid (n2 + 2 ≤ W5.heap.size) := Lib.hid (HX5.out.lt)
       have hnb : n2 + 1 ≠ b := by omega
       have hblo : b < n2 + 2 := by omega
       have hnlo : n2 + 1 < n2 + 2 := by omega
       clear hO3
       refine wp_region_inv (by kernel_rfl) (by kernel_rfl) (Pa6J b n2 g off cap n k u27 v ps o3 tl W5) ?_ ?_ ?_
       ·exact ⟨_, _, _, _, _, _, _, rfl, ⟨⟨fun _ => below_drew W5 1, fun _ => grown_of_below (below_drew W5 1)⟩, nofun, nofun, nofun, nofun, nofun, nofun, nofun, nofun, nofun, nofun, nofun, nofun, nofun, nofun, nofun⟩⟩
       ·intro iq oq ho L a w hL hd hJ
        obtain ⟨v0, v1, v2, v3, v4, v5, v6, rfl, k⟩ := hJ
        have hiq : iq < 8 := by have := (Array.getElem?_eq_some_iff.1 ho).1; simpa using this
        match iq, hiq, ho, hL with
        | 0, _, ho, hL =>
         have ho2 := ho
         simp only [qz1, qz2, qz3, qz4] at ho
         subst ho
         refine wpOp_step ho2 (fun K hK => ?_)
         go_simp
         exact hK _ _ ⟨_, _, _, _, _, _, _, rfl, ⟨k.wf, fun _ => rfl, k.f1, k.f2, k.f3, k.f4, k.f5, k.f6, k.f7, fun h => up_or (k.c1_0 h), fun h => up_or (k.c3_2 h), fun h => up_or (k.c4_3 h), fun h => up_or (k.c5_1 h), fun h => up_or (k.c5_4 h), fun h => up_or (k.c7_5 h), fun h => up_or (k.c7_6 h)⟩⟩
        | 1, _, ho, hL =>
         have ho2 := ho
         simp only [qz1, qz2, qz3, qz4] at ho
         subst ho
         refine wpOp_step ho2 (fun K hK => ?_)
         obtain rfl := k.f0 (hd ⟨0, .data⟩ (by simp) rfl)
         have h5 : L 5 = false := by
          cases h : L 5 with
          | false => rfl
          | true => exact absurd (hL.symm.trans (k.c5_1 h)) (by decide)
         have hbx := HX5.out.grown (k.wf.2 h5) hnb
         have c1 := hbx.c 0 _ rfl
         have cl := hbx.lt
         go_simp
         exact hK _ _ ⟨_, _, _, _, _, _, _, rfl, ⟨k.wf, k.f0, fun _ => rfl, k.f2, k.f3, k.f4, k.f5, k.f6, k.f7, fun _ => up_or (hd ⟨0, .data⟩ (by simp) rfl), fun h => up_or (k.c3_2 h), fun h => up_or (k.c4_3 h), fun h => up_or (k.c5_1 h), fun h => up_or (k.c5_4 h), fun h => up_or (k.c7_5 h), fun h => up_or (k.c7_6 h)⟩⟩
        | 2, _, ho, hL =>
         have ho2 := ho
         simp only [qz1, qz2, qz3, qz4] at ho
         subst ho
         refine wpOp_step ho2 (fun K hK => ?_)
         go_simp
         exact hK _ _ ⟨_, _, _, _, _, _, _, rfl, ⟨k.wf, k.f0, k.f1, fun _ => rfl, k.f3, k.f4, k.f5, k.f6, k.f7, fun h => up_or (k.c1_0 h), fun h => up_or (k.c3_2 h), fun h => up_or (k.c4_3 h), fun h => up_or (k.c5_1 h), fun h => up_or (k.c5_4 h), fun h => up_or (k.c7_5 h), fun h => up_or (k.c7_6 h)⟩⟩
        | 3, _, ho, hL =>
         have ho2 := ho
         simp only [qz1, qz2, qz3, qz4] at ho
         subst ho
         refine wpOp_step ho2 (fun K hK => ?_)
         obtain rfl := k.f2 (hd ⟨2, .data⟩ (by simp) rfl)
         have h5 : L 5 = false := by
          cases h : L 5 with
          | false => rfl
          | true => exact absurd (hL.symm.trans (k.c4_3 (k.c5_4 h))) (by decide)
         have hb0 := k.wf.1 hL
         have hcall := line67 w b ⟨#[112, 111, 105, 110, 116]⟩ q2 tl (HS5.out.keep hb0) (HL5.out.keep hb0)
         rw [HO3.out] at hcall
         go_simp
         refine hcall.mono ?_
         rintro e X h1
         rcases o3 with _ | ⟨x, r⟩
         ·obtain ⟨rfl, hG⟩ := h1.no
          exact ⟨rfl, HP.out rfl X (grown_trans (grown_of_below hb0) hG)⟩
         ·obtain ⟨v', rfl, hN, hS, hG⟩ := h1.yes
          exact hK _ _ ⟨_, _, _, _, _, _, _, rfl, ⟨⟨nofun, fun _ => grown_trans (grown_of_below hb0) hG⟩, k.f0, k.f1, k.f2, fun _ _ => ⟨x, r, rfl, fun W' hW' => hN W' fun k hk => hW' k ⟨Nat.le_trans hb0.size hk.1, hk.2⟩, hS⟩, fun h => absurd (hL.symm.trans (k.c4_3 h)) (by decide), fun h => absurd (h5.symm.trans h) (by decide), k.f6, fun h => absurd (h5.symm.trans (k.c7_5 h)) (by decide), fun h => up_or (k.c1_0 h), fun _ => up_or (hd ⟨2, .data⟩ (by simp) rfl), fun h => up_or (k.c4_3 h), fun h => up_or (k.c5_1 h), fun h => up_or (k.c5_4 h), fun h => up_or (k.c7_5 h), fun h => up_or (k.c7_6 h)⟩⟩
        | 4, _, ho, hL =>
         have ho2 := ho
         simp only [qz1, qz2, qz3, qz4] at ho
         subst ho
         refine wpOp_step ho2 (fun K hK => ?_)
         have h5 : L 5 = false := by
          cases h : L 5 with
          | false => rfl
          | true => exact absurd (hL.symm.trans (k.c5_4 h)) (by decide)
         obtain ⟨x, r, rfl, hN, hS⟩ := k.f3 (hd ⟨3, .data⟩ (by simp) rfl) h5
         obtain ⟨oa, cp, rfl, -, -⟩ := hN.now
         have hDx : New W5.heap.size w (fun W => PtD W [.slice oa x.length cp] x) := fun W' hW' => (hN W' hW').elim fun o h => h.elim fun c h => ⟨o, c, by rw [h.1], h.2.2⟩
         have hb : Below w.heap.size w (w.alloc (.cells #[.slice oa x.length cp] 68)) := (Below.refl _ _).alloc (Nat.le_refl _) _
         have hbx := Bx.new w [.slice oa x.length cp] 68
         have hocx : ∀ u ∈ ([.slice oa x.length cp] : List Value), u.oneCell' = true := by
          intro u hu
          simp only [List.mem_cons, List.not_mem_nil, or_false] at hu
          first | (subst hu; rfl) | (rcases hu with rfl | rfl <;> rfl)
         go_simp
         replace k := k.keep h5 hb
         exact hK _ _ ⟨_, _, _, _, _, _, _, rfl, ⟨k.wf, k.f0, k.f1, k.f2, k.f3, fun _ _ => ⟨x, r, _, w.heap.size, rfl, rfl, hbx, rfl, hocx, New.keep hDx (AgI.of hb), hS.keep hb⟩, k.f5, k.f6, k.f7, fun h => up_or (k.c1_0 h), fun h => up_or (k.c3_2 h), fun _ => up_or (hd ⟨3, .data⟩ (by simp) rfl), fun h => up_or (k.c5_1 h), fun h => up_or (k.c5_4 h), fun h => up_or (k.c7_5 h), fun h => up_or (k.c7_6 h)⟩⟩
        | 5, _, ho, hL =>
         have ho2 := ho
         simp only [qz1, qz2, qz3, qz4] at ho
         subst ho
         refine wpOp_step ho2 (fun K hK => ?_)
         obtain rfl := k.f1 (hd ⟨1, .data⟩ (by simp) rfl)
         obtain ⟨x, r, cs, g4, rfl, rfl, hbx, hcl, hoc, hN, hS⟩ := k.f4 (hd ⟨4, .data⟩ (by simp) rfl) hL
         have hg := k.wf.2 hL
         have l3 := k.c4_3 (hd ⟨4, .data⟩ (by simp) rfl)
         obtain ⟨rows, hV0⟩ := HRow5.out.ex
         have hV := hV0.keep (grown_ag hg (n2 + 2) hblo)
         have hrl := HXL.out rows hV0.len
         have hlx : n2 + 2 ≤ w.heap.size := Nat.le_trans HLO.out hg.size
         obtain ⟨i0, hi, hz0, hz1, hz2⟩ := info_parts info42
         refine step_append_lies _ rfl (.tmp 21) (.tmp 24) 26 rfl (n2 + 2) 68 i0 (.slice none 0 0) 1 24 under22 hi hz0 hz1 hz2 rfl (by decide) _ rows.length rows.flatten (by simp [Act.eval]) hV.own ⟨g4, 0, none⟩ 1 1 cs (by simp [Act.eval]) (by rw [hcl]) (World.news_of_block hbx.h) hoc (by decide) (by unfold maxLen; omega) (by omega) hlx _ rfl ?_
         intro gN cN X hown hgrow hat hltN
         have hrow := hV0.app (grown_ag hg (n2 + 2) hblo) hN hcl (Below.refl _ _) hown hgrow (hat.elim (fun e => .inl e.symm) (fun e => .inr (by rw [e]; rfl))) HLO.out
         have hbn1 : Below (n2 + 2) w X := grown_below hV.own hgrow hlx
         have hbX : Bx X (n2 + 1) [_, .slice none 0 0] 29 := (HX5.out.grown hg hnb).low hbn1 hnlo
         exact hK _ _ ⟨_, _, _, _, _, _, _, rfl, ⟨⟨fun h => absurd ((show L 3 = false from h).symm.trans l3) (by decide), nofun⟩, k.f0, k.f1, k.f2, fun _ => nofun, fun _ => nofun, fun _ => ⟨x, r, rfl, hrow, hS.keepA hbn1 hblo, (Fr3.grown hg HLO.out).trans (Fr3.low hbn1), fun _ => hbX⟩, k.f6, fun h => absurd (hL.symm.trans (k.c7_5 h)) (by decide), fun h => up_or (k.c1_0 h), fun h => up_or (k.c3_2 h), fun h => up_or (k.c4_3 h), fun _ => up_or (hd ⟨1, .data⟩ (by simp) rfl), fun _ => up_or (hd ⟨4, .data⟩ (by simp) rfl), fun h => up_or (k.c7_5 h), fun h => up_or (k.c7_6 h)⟩⟩
        | 6, _, ho, hL =>
         have ho2 := ho
         simp only [qz1, qz2, qz3, qz4] at ho
         subst ho
         refine wpOp_step ho2 (fun K hK => ?_)
         go_simp
         exact hK _ _ ⟨_, _, _, _, _, _, _, rfl, ⟨k.wf, k.f0, k.f1, k.f2, k.f3, k.f4, k.f5, fun _ => rfl, k.f7, fun h => up_or (k.c1_0 h), fun h => up_or (k.c3_2 h), fun h => up_or (k.c4_3 h), fun h => up_or (k.c5_1 h), fun h => up_or (k.c5_4 h), fun h => up_or (k.c7_5 h), fun h => up_or (k.c7_6 h)⟩⟩
        | 7, _, ho, hL =>
         have ho2 := ho
         simp only [qz1, qz2, qz3, qz4] at ho
         subst ho
         refine wpOp_step ho2 (fun K hK => ?_)
         obtain rfl := k.f6 (hd ⟨6, .data⟩ (by simp) rfl)
         have h15 := hd ⟨5, .data⟩ (by simp) rfl
         obtain ⟨x, r, rfl, hr15, hS, hF, hx15⟩ := k.f5 h15
         have l3 := k.c4_3 (k.c5_4 h15)
         have hbx := hx15 hL
         have bl := hbx.lt
         have bf := hbx.f 0
         have bc := hbx.c 0 _ rfl
         obtain ⟨o46, c46, rfl, _⟩ := hr15.done
         simp only [List.length_append, List.length_cons, List.length_nil, Nat.zero_add] at hr15
         go_simp
         exact hK _ _ ⟨_, _, _, _, _, _, _, rfl, ⟨⟨fun h => absurd ((show L 3 = false from h).symm.trans l3) (by decide), fun h => absurd ((show L 5 = false from h).symm.trans h15) (by decide)⟩, k.f0, k.f1, k.f2, fun _ h => absurd ((show L 5 = false from h).symm.trans h15) (by decide), fun _ h => absurd ((show L 5 = false from h).symm.trans h15) (by decide), fun _ => ⟨x, r, rfl, hr15.keep (AgI.set w _ hnlo), hS.other _ (Ne.symm hnb), hF.trans (Fr3.set w 0 _), nofun⟩, k.f6, fun _ => hbx.put1 _, fun h => up_or (k.c1_0 h), fun h => up_or (k.c3_2 h), fun h => up_or (k.c4_3 h), fun h => up_or (k.c5_1 h), fun h => up_or (k.c5_4 h), fun _ => up_or (hd ⟨5, .data⟩ (by simp) rfl), fun _ => up_or (hd ⟨6, .data⟩ (by simp) rfl)⟩⟩
        | n + 8, h, _, _ => omega
       ·intro L a w hL hJ
        obtain ⟨v0, v1, v2, v3, v4, v5, v6, rfl, k⟩ := hJ
        obtain ⟨x, r, hx3, hr15, hS9, hF9, -⟩ := k.f5 (hL 5 (by decide))
        have hx17 := k.f7 (hL 7 (by decide))
        obtain rfl := k.f0 (hL 0 (by decide))
        obtain rfl := k.f2 (hL 2 (by decide))
        obtain rfl := k.f6 (hL 6 (by decide))
        dsimp only
        have HRY := Lib.hid hr15
        have HXY := Lib.hid hx17
        have HSY := Lib.hid hS9
        have HFY := Lib.hid (HF.out.trans hF9)
        have HRN2 := Lib.hid (HRN.out x r hx3)
        clear hr15 hx17 hS9 hF9 hx3 k hL
        go_wp2_with fail
        go_roundw
        case rel => exact ⟨_, _, r, _, by omega, by simp, HRN2.out, HXY.out, HRY.out, HSY.out, HFY.out⟩
        case measure => simp [intOf]; omega
      ·have hke : k = n := by omega
       subst hke
       have HR2 := Lib.hid HR.out.done
       obtain ⟨op, np, rfl, hPN, -, -⟩ := HRow5.out.done
       have HPN := Lib.hid hPN
       have HPL : Hid (ps.length = k) := Lib.hid HR.out.2.1
       obtain ⟨m, rfl⟩ : ∃ m, k = m + 1 := ⟨k - 1, by omega⟩
       have hwm : IntKind.i64.wrap ((m : Int) + 1 - 1) = (m : Int) := by rw [IntWalk.i64_in _ (by omega)]; omega
       have hm1 : 1 ≤ m := by omega
       have hm2 : m + 1 ≤ 256 := hn256
       have HX26 : Hid (Bx W5 n2 [.slice none 0 0, .slice none 0 0] 29) := Lib.hid ⟨(HF.out.block n2 (by omega) (by omega) (by omega)).trans HX22.out.h⟩
       clear hPN HR hlt hk HRow5 HF HX32 HX22 HS2
       obtain ⟨W6, rfl⟩ : ∃ X, X = W5 := ⟨_, rfl⟩
       have HX6 := Lib.hid HX5.out
       have HS6 := Lib.hid HS5.out
       have HG6 := Lib.hid HG5.out
       have HL6 := Lib.hid HL5.out
       have HZ6 : Hid (n2 + 2 ≤ W6.heap.size) := Lib.hid HX5.out.lt
       have hbn2 : b < n2 := hlt0
       clear HX5 HS5 HG5 HL5
       go_wp2_with fail
       go_loopw [30] (fun i X => ∃ (k : Nat) (es : List Fm.EdgeD) (q3 : List (List UInt8)) (v : Value), k ≤ m ∧ i = .int .i64 (k : Nat) ∧ Fm.RepAt Fm.rdEdge m q2 k es q3 ∧ Bx X (n2 + 1) [.slice op ps.length np, v] 29 ∧ RowO EdD 73 2 W6.heap.size X v es ∧ RdS X b q3 tl ∧ Fr3 W6.heap.size b (n2 + 1) W6 X) (fun i _ => m - (intOf i).toNat)
       case atStart => exact ⟨0, [], q2, .slice none 0 0, Nat.zero_le _, rfl, Fm.RepAt.start _ _ _, HX6.out, RowO.nil _ _ _ _ _, HS6.out, Fr3.refl _ _ _ _⟩
       case round =>
        obtain ⟨k, es, q3, v, hk, rfl, hR, hX, hRow, hS, hF⟩ := hrel
        obtain ⟨W5, rfl⟩ : ∃ X, X = wr := ⟨_, rfl⟩
        have HF := Lib.hid hF
        have HR := Lib.hid hR
        have HX5 := Lib.hid hX
        have HRow5 := Lib.hid hRow
        have HS5 := Lib.hid hS
        have hW1 : W.heap.size ≤ n2 + 1 := by rw [← HN2.out]; omega
        have HG5 : Hid (W.grownBy W5 (some b)) := Lib.hid (hF.back HG6.out hW1 (by have := HZ6.out; omega))
        have HL5 : Hid (LibW W5) := Lib.hid (by
         have h1 := HL6.out
         have h2 := HZ6.out
         refine h1.low ⟨hF.os, hF.tape, hF.output, hF.size, fun k hk => hF.block k ?_ ?_ ?_⟩ <;> omega)
        clear hF hR hX hRow hS hW1
        by_cases hlt : k < m
        ·go_wp2_with fail
         generalize hO3 : Fm.rdEdge q3 = o3
         have HO3 : Hid (Fm.rdEdge q3 = o3) := Lib.hid hO3
         have HRN : Hid (∀ x r, o3 = some (x, r) → Fm.RepAt Fm.rdEdge m q2 (k + 1) (es ++ [x]) r) := Lib.hid (fun x r e => HR.out.step hlt (hO3.trans e))
         have HP : Hid (o3 = none → ∀ X, W5.grownBy X (some b) → RdP b tl PathV W o (.panicked [{ v := .iface 133 (.agg #[]), recovered := false }]) X) := Lib.hid (fun e X hX => RdP.mkno (HO.out.symm.trans (Fm.rdPath_no3 HQ.out HR2.out (HR.out.none hlt (hO3.trans e)))) (grown_trans HG5.out hX))
         have HXL : Hid (∀ rows : List (List Value), rows.length = es.length → rows.length + 1 ≤ 1048576) := Lib.hid (fun rows h => by have := HR.out.2.1; omega)
         have HLO : Hid (W6.heap.size ≤ W5.heap.size) := Lib.hid HF.out.size
         have hnb : n2 + 1 ≠ b := by omega
         have hblo : b < W6.heap.size := by have := HZ6.out; omega
         have hnlo : n2 + 1 < W6.heap.size := by have := HZ6.out; omega
         clear hO3
         refine wp_region_inv (by kernel_rfl) (by kernel_rfl) (Pa10J b n2 g off cap m k W6.heap.size np ps.length op u20 u21 u22 u23 u24 u25 u26 u27 u39 v es o3 tl W5) ?_ ?_ ?_
         ·exact ⟨_, _, _, _, _, _, _, rfl, ⟨⟨fun _ => below_drew W5 1, fun _ => grown_of_below (below_drew W5 1)⟩, nofun, nofun, nofun, nofun, nofun, nofun, nofun, nofun, nofun, nofun, nofun, nofun, nofun, nofun, nofun⟩⟩
         ·intro iq oq ho L a w hL hd hJ
          obtain ⟨v0, v1, v2, v3, v4, v5, v6, rfl, k⟩ := hJ
          have hiq : iq < 8 := by have := (Array.getElem?_eq_some_iff.1 ho).1; simpa using this
          match iq, hiq, ho, hL with
          | 0, _, ho, hL =>
           have ho2 := ho
           simp only [qz1, qz2, qz3, qz4] at ho
           subst ho
           refine wpOp_step ho2 (fun K hK => ?_)
           go_simp
           exact hK _ _ ⟨_, _, _, _, _, _, _, rfl, ⟨k.wf, fun _ => rfl, k.f1, k.f2, k.f3, k.f4, k.f5, k.f6, k.f7, fun h => up_or (k.c1_0 h), fun h => up_or (k.c3_2 h), fun h => up_or (k.c4_3 h), fun h => up_or (k.c5_1 h), fun h => up_or (k.c5_4 h), fun h => up_or (k.c7_5 h), fun h => up_or (k.c7_6 h)⟩⟩
          | 1, _, ho, hL =>
           have ho2 := ho
           simp only [qz1, qz2, qz3, qz4] at ho
           subst ho
           refine wpOp_step ho2 (fun K hK => ?_)
           obtain rfl := k.f0 (hd ⟨0, .data⟩ (by simp) rfl)
           have h5 : L 5 = false := by
            cases h : L 5 with
            | false => rfl
            | true => exact absurd (hL.symm.trans (k.c5_1 h)) (by decide)
           have hbx := HX5.out.grown (k.wf.2 h5) hnb
           have c1 := hbx.c 1 _ rfl
           have cl := hbx.lt
           go_simp
           exact hK _ _ ⟨_, _, _, _, _, _, _, rfl, ⟨k.wf, k.f0, fun _ => rfl, k.f2, k.f3, k.f4, k.f5, k.f6, k.f7, fun _ => up_or (hd ⟨0, .data⟩ (by simp) rfl), fun h => up_or (k.c3_2 h), fun h => up_or (k.c4_3 h), fun h => up_or (k.c5_1 h), fun h => up_or (k.c5_4 h), fun h => up_or (k.c7_5 h), fun h => up_or (k.c7_6 h)⟩⟩
          | 2, _, ho, hL =>
           have ho2 := ho
           simp only [qz1, qz2, qz3, qz4] at ho
           subst ho
           refine wpOp_step ho2 (fun K hK => ?_)
           go_simp
           exact hK _ _ ⟨_, _, _, _, _, _, _, rfl, ⟨k.wf, k.f0, k.f1, fun _ => rfl, k.f3, k.f4, k.f5, k.f6, k.f7, fun h => up_or (k.c1_0 h), fun h => up_or (k.c3_2 h), fun h => up_or (k.c4_3 h), fun h => up_or (k.c5_1 h), fun h => up_or (k.c5_4 h), fun h => up_or (k.c7_5 h), fun h => up_or (k.c7_6 h)⟩⟩
          | 3, _, ho, hL =>
           have ho2 := ho
           simp only [qz1, qz2, qz3, qz4] at ho
           subst ho
           refine wpOp_step ho2 (fun K hK => ?_)
           obtain rfl := k.f2 (hd ⟨2, .data⟩ (by simp) rfl)
           have h5 : L 5 = false := by
            cases h : L 5 with
            | false => rfl
            | true => exact absurd (hL.symm.trans (k.c4_3 (k.c5_4 h))) (by decide)
           have hb0 := k.wf.1 hL
           have hcall := edge68 w b q3 tl (HS5.out.keep hb0) (HL5.out.keep hb0)
           rw [HO3.out] at hcall
           go_simp
           refine hcall.mono ?_
           rintro e X h1
           rcases o3 with _ | ⟨x, r⟩
           ·obtain ⟨rfl, hG⟩ := h1.no
            exact ⟨rfl, HP.out rfl X (grown_trans (grown_of_below hb0) hG)⟩
           ·obtain ⟨v', rfl, hN, hS, hG⟩ := h1.yes
            exact hK _ _ ⟨_, _, _, _, _, _, _, rfl, ⟨⟨nofun, fun _ => grown_trans (grown_of_below hb0) hG⟩, k.f0, k.f1, k.f2, fun _ _ => ⟨x, r, rfl, fun W' hW' => hN W' fun k hk => hW' k ⟨Nat.le_trans hb0.size hk.1, hk.2⟩, hS⟩, fun h => absurd (hL.symm.trans (k.c4_3 h)) (by decide), fun h => absurd (h5.symm.trans h) (by decide), k.f6, fun h => absurd (h5.symm.trans (k.c7_5 h)) (by decide), fun h => up_or (k.c1_0 h), fun _ => up_or (hd ⟨2, .data⟩ (by simp) rfl), fun h => up_or (k.c4_3 h), fun h => up_or (k.c5_1 h), fun h => up_or (k.c5_4 h), fun h => up_or (k.c7_5 h), fun h => up_or (k.c7_6 h)⟩⟩
          | 4, _, ho, hL =>
           have ho2 := ho
           simp only [qz1, qz2, qz3, qz4] at ho
           subst ho
           refine wpOp_step ho2 (fun K hK => ?_)
           have h5 : L 5 = false := by
            cases h : L 5 with
            | false => rfl
            | true => exact absurd (hL.symm.trans (k.c5_4 h)) (by decide)
           obtain ⟨x, r, rfl, hN, hS⟩ := k.f3 (hd ⟨3, .data⟩ (by simp) rfl) h5
           obtain ⟨ot, nt, ou, nu, rfl, -, -⟩ := hN.now
           have hDx : New W5.heap.size w (fun W => EdD W [.slice ot x.table.length nt, .slice ou x.uses.length nu] x) := fun W' hW' => by
            obtain ⟨a1, a2, a3, a4, e, h1, h2⟩ := hN W' hW'
            have e2 := congrArg (fun v => match v with | .agg cs => cs.toList | _ => []) e
            exact ⟨a1, a2, a3, a4, e2, h1, h2⟩
           have hb : Below w.heap.size w (w.alloc (.cells #[.slice ot x.table.length nt, .slice ou x.uses.length nu] 73)) := (Below.refl _ _).alloc (Nat.le_refl _) _
           have hbx := Bx.new w [.slice ot x.table.length nt, .slice ou x.uses.length nu] 73
           have hocx : ∀ u ∈ ([.slice ot x.table.length nt, .slice ou x.uses.length nu] : List Value), u.oneCell' = true := by
            intro u hu
            simp only [List.mem_cons, List.not_mem_nil, or_false] at hu
            first | (subst hu; rfl) | (rcases hu with rfl | rfl <;> rfl)
           go_simp
           replace k := k.keep h5 hb
           exact hK _ _ ⟨_, _, _, _, _, _, _, rfl, ⟨k.wf, k.f0, k.f1, k.f2, k.f3, fun _ _ => ⟨x, r, _, w.heap.size, rfl, rfl, hbx, rfl, hocx, New.keep hDx (AgI.of hb), hS.keep hb⟩, k.f5, k.f6, k.f7, fun h => up_or (k.c1_0 h), fun h => up_or (k.c3_2 h), fun _ => up_or (hd ⟨3, .data⟩ (by simp) rfl), fun h => up_or (k.c5_1 h), fun h => up_or (k.c5_4 h), fun h => up_or (k.c7_5 h), fun h => up_or (k.c7_6 h)⟩⟩
          | 5, _, ho, hL =>
           have ho2 := ho
           simp only [qz1, qz2, qz3, qz4] at ho
           subst ho
           refine wpOp_step ho2 (fun K hK => ?_)
           obtain rfl := k.f1 (hd ⟨1, .data⟩ (by simp) rfl)
           obtain ⟨x, r, cs, g4, rfl, rfl, hbx, hcl, hoc, hN, hS⟩ := k.f4 (hd ⟨4, .data⟩ (by simp) rfl) hL
           have hg := k.wf.2 hL
           have l3 := k.c4_3 (hd ⟨4, .data⟩ (by simp) rfl)
           obtain ⟨rows, hV0⟩ := HRow5.out.ex
           have hV := hV0.keep (grown_ag hg W6.heap.size hblo)
           have hrl := HXL.out rows hV0.len
           have hlx : W6.heap.size ≤ w.heap.size := Nat.le_trans HLO.out hg.size
           obtain ⟨i0, hi, hz0, hz1, hz2⟩ := info_parts info52
           refine step_append_lies _ rfl (.tmp 33) (.tmp 36) 27 rfl W6.heap.size 73 i0 (.agg #[.slice none 0 0, .slice none 0 0]) 2 48 under23 hi hz0 hz1 hz2 rfl (by decide) _ rows.length rows.flatten (by simp [Act.eval]) hV.own ⟨g4, 0, none⟩ 1 1 cs (by simp [Act.eval]) (by rw [hcl]) (World.news_of_block hbx.h) hoc (by decide) (by unfold maxLen; omega) (by omega) hlx _ rfl ?_
           intro gN cN X hown hgrow hat hltN
           have hrow := hV0.app (grown_ag hg W6.heap.size hblo) hN hcl (Below.refl _ _) hown hgrow (hat.elim (fun e => .inl e.symm) (fun e => .inr (by rw [e]; rfl))) HLO.out
           have hbn1 : Below W6.heap.size w X := grown_below hV.own hgrow hlx
           have hbX : Bx X (n2 + 1) [.slice op ps.length np, _] 29 := (HX5.out.grown hg hnb).low hbn1 hnlo
           exact hK _ _ ⟨_, _, _, _, _, _, _, rfl, ⟨⟨fun h => absurd ((show L 3 = false from h).symm.trans l3) (by decide), nofun⟩, k.f0, k.f1, k.f2, fun _ => nofun, fun _ => nofun, fun _ => ⟨x, r, rfl, hrow, hS.keepA hbn1 hblo, (Fr3.grown hg HLO.out).trans (Fr3.low hbn1), fun _ => hbX⟩, k.f6, fun h => absurd (hL.symm.trans (k.c7_5 h)) (by decide), fun h => up_or (k.c1_0 h), fun h => up_or (k.c3_2 h), fun h => up_or (k.c4_3 h), fun _ => up_or (hd ⟨1, .data⟩ (by simp) rfl), fun _ => up_or (hd ⟨4, .data⟩ (by simp) rfl), fun h => up_or (k.c7_5 h), fun h => up_or (k.c7_6 h)⟩⟩
          | 6, _, ho, hL =>
           have ho2 := ho
           simp only [qz1, qz2, qz3, qz4] at ho
           subst ho
           refine wpOp_step ho2 (fun K hK => ?_)
           go_simp
           exact hK _ _ ⟨_, _, _, _, _, _, _, rfl, ⟨k.wf, k.f0, k.f1, k.f2, k.f3, k.f4, k.f5, fun _ => rfl, k.f7, fun h => up_or (k.c1_0 h), fun h => up_or (k.c3_2 h), fun h => up_or (k.c4_3 h), fun h => up_or (k.c5_1 h), fun h => up_or (k.c5_4 h), fun h => up_or (k.c7_5 h), fun h => up_or (k.c7_6 h)⟩⟩
          | 7, _, ho, hL =>
           have ho2 := ho
           simp only [qz1, qz2, qz3, qz4] at ho
           subst ho
           refine wpOp_step ho2 (fun K hK => ?_)
           obtain rfl := k.f6 (hd ⟨6, .data⟩ (by simp) rfl)
           have h15 := hd ⟨5, .data⟩ (by simp) rfl
           obtain ⟨x, r, rfl, hr15, hS, hF, hx15⟩ := k.f5 h15
           have l3 := k.c4_3 (k.c5_4 h15)
           have hbx := hx15 hL
           have bl := hbx.lt
           have bf := hbx.f 1
           have bc := hbx.c 1 _ rfl
           obtain ⟨o46, c46, rfl, _⟩ := hr15.done
           simp only [List.length_append, List.length_cons, List.length_nil, Nat.zero_add] at hr15
           go_simp
           exact hK _ _ ⟨_, _, _, _, _, _, _, rfl, ⟨⟨fun h => absurd ((show L 3 = false from h).symm.trans l3) (by decide), fun h => absurd ((show L 5 = false from h).symm.trans h15) (by decide)⟩, k.f0, k.f1, k.f2, fun _ h => absurd ((show L 5 = false from h).symm.trans h15) (by decide), fun _ h => absurd ((show L 5 = false from h).symm.trans h15) (by decide), fun _ => ⟨x, r, rfl, hr15.keep (AgI.set w _ hnlo), hS.other _ (Ne.symm hnb), hF.trans (Fr3.set w 1 _), nofun⟩, k.f6, fun _ => hbx.put2 _, fun h => up_or (k.c1_0 h), fun h => up_or (k.c3_2 h), fun h => up_or (k.c4_3 h), fun h => up_or (k.c5_1 h), fun h => up_or (k.c5_4 h), fun _ => up_or (hd ⟨5, .data⟩ (by simp) rfl), fun _ => up_or (hd ⟨6, .data⟩ (by simp) rfl)⟩⟩
          | n + 8, h, _, _ => omega
         ·intro L a w hL hJ
          obtain ⟨v0, v1, v2, v3, v4, v5, v6, rfl, k⟩ := hJ
          obtain ⟨x, r, hx3, hr15, hS9, hF9, -⟩ := k.f5 (hL 5 (by decide))
          have hx17 := k.f7 (hL 7 (by decide))
          obtain rfl := k.f0 (hL 0 (by decide))
          obtain rfl := k.f2 (hL 2 (by decide))
          obtain rfl := k.f6 (hL 6 (by decide))
          dsimp only
          have HRY := Lib.hid hr15
          have HXY := Lib.hid hx17
          have HSY := Lib.hid hS9
          have HFY := Lib.hid (HF.out.trans hF9)
          have HRN2 := Lib.hid (HRN.out x r hx3)
          clear hr15 hx17 hS9 hF9 hx3 k hL
          go_wp2_with fail
          go_roundw
          case rel => exact ⟨_, _, r, _, by omega, by simp, HRN2.out, HXY.out, HRY.out, HSY.out, HFY.out⟩
          case measure => simp [intOf]; omega
        ·have hke : k = m := by omega
         subst hke
         have HR3 := Lib.hid HR.out.done
         obtain ⟨oe, ne, rfl, hEN, -, -⟩ := HRow5.out.done
         have hel : es.length = k := HR.out.2.1
         have hRws1 : New (n2 + 2) W5 (fun X => Rws PtD 1 X op ps) := fun X hX => HPN.out X fun j hj => by
          have h1 := hj.1; have h2 := hj.2
          rw [hX j ⟨h1, Nat.lt_of_lt_of_le h2 HF.out.size⟩]
          exact HF.out.block j h2 (by omega) (by omega)
         have hRws2 : New (n2 + 2) W5 (fun X => Rws EdD 2 X oe es) := fun X hX => hEN X fun j hj => hX j ⟨Nat.le_trans HZ6.out hj.1, hj.2⟩
         have hPV : New (n2 + 2) W5 (PathV (.agg #[.slice op ps.length np, .slice oe es.length ne]) ⟨ps, es⟩) := fun X hX => ⟨op, np, oe, ne, rfl, hRws1 X hX, hRws2 X hX⟩
         have HPV := Lib.hid hPV
         have H34 := Lib.hid (rightForm34 W5 _ ⟨ps, es⟩ hPV.now.at (by show ps.length ≤ _; have := HPL.out; omega) (by show es.length ≤ _; omega))
         have HOP : Hid (o = if Fm.rightP ⟨ps, es⟩ = true then some (⟨ps, es⟩, q3) else none) := Lib.hid (by
          rw [← HO.out]
          unfold Fm.rdPathR
          rw [Fm.rdPath_mk HQ.out (by omega) HR2.out (show Fm.rep Fm.rdEdge (k + 1 - 1) q2 = some (es, q3) from HR3.out)])
         have a0 := HX5.out.c 0 _ rfl
         have a1 := HX5.out.c 1 _ rfl
         have al := HX5.out.lt
         clear hEN hRws1 hRws2 hPV HRow5 HR HR3 hel
         cases hrp : Fm.rightP ⟨ps, es⟩ with
         | false =>
          rw [hrp] at H34
          have HON : Hid (o = none) := Lib.hid (by rw [HOP.out, if_neg]; rw [hrp]; decide)
          go_wp2_with fail
          refine H34.out.mono ?_
          rintro e Y ⟨rfl, hbY⟩
          have HGY := Lib.hid (grown_call HG5.out hbY)
          clear hbY H34
          go_wp2_with fail
          refine (need_no Y).mono ?_
          rintro e Y2 ⟨rfl, hw⟩
          subst hw
          go_wp2
          exact ⟨rfl, RdP.mkno HON.out HGY.out⟩
         | true =>
          rw [hrp] at H34
          have HON : Hid (o = some (⟨ps, es⟩, q3)) := Lib.hid (by rw [HOP.out, if_pos hrp])
          go_wp2_with fail
          refine H34.out.mono ?_
          rintro e Y ⟨rfl, hbY⟩
          have HGY := Lib.hid (grown_call HG5.out hbY)
          have HSY := Lib.hid (HS5.out.keep hbY)
          have HPY := Lib.hid (HPV.out.keep (AgI.of hbY))
          have hb3 := HX5.out.keep hbY
          have hb2 : Bx Y n2 [.slice none 0 0, .slice none 0 0] 29 := Bx.keep ⟨(HF.out.block n2 (by have := HZ6.out; omega) (by omega) (by omega)).trans HX26.out.h⟩ hbY
          clear hbY H34 a0 a1 al
          have a0 := hb3.c 0 _ rfl
          have a1 := hb3.c 1 _ rfl
          have al := hb3.lt
          have b0 := hb2.c 0 _ rfl
          have b1 := hb2.c 1 _ rfl
          have bf0 := hb2.f 0
          have bf1 := hb2.f 1
          have bl := hb2.lt
          go_wp2_with fail
          refine (need_yes Y).mono ?_
          rintro e Y2 ⟨rfl, hw⟩
          subst hw
          have HBF := Lib.hid ((hb2.put1 (.slice op ps.length np)).put2 (.slice oe es.length ne))
          have HLQ : Hid (∀ k, k ≠ n2 → ((Y2.setCell ⟨n2, 0, none⟩ (.slice op ps.length np)).setCell ⟨n2, 1, none⟩ (.slice oe es.length ne)).heap[k]? = Y2.heap[k]?) := Lib.hid (fun k hk => (Below.heap_setCell _ ⟨n2, 1, none⟩ _ k hk).trans (Below.heap_setCell _ ⟨n2, 0, none⟩ _ k hk))
          have HSQ : Hid (((Y2.setCell ⟨n2, 0, none⟩ (.slice op ps.length np)).setCell ⟨n2, 1, none⟩ (.slice oe es.length ne)).heap.size = Y2.heap.size) := Lib.hid (by simp [World.setCell])
          have HGQ : Hid (W.grownBy ((Y2.setCell ⟨n2, 0, none⟩ (.slice op ps.length np)).setCell ⟨n2, 1, none⟩ (.slice oe es.length ne)) (some b)) := Lib.hid (by
           refine grown_low2 HGY.out (lo := W.heap.size) ?_ (Nat.le_refl _)
           have h2 : W.heap.size ≤ n2 := Nat.le_of_eq HN2.out.symm
           exact (((Below.refl _ _).setCell (p := ⟨n2, 0, none⟩) h2 _).setCell (p := ⟨n2, 1, none⟩) h2 _))
          clear hb2 hb3
          go_wp2
          generalize ((Y2.setCell ⟨n2, 0, none⟩ (.slice op ps.length np)).setCell ⟨n2, 1, none⟩ (.slice oe es.length ne)) = W9 at HBF HLQ HSQ HGQ ⊢
          clear a0 a1 al b0 b1 bf0 bf1 bl
          have c0 := HBF.out.c 0 _ rfl
          have c1 := HBF.out.c 1 _ rfl
          have cl := HBF.out.lt
          refine bodyPost_ret (v := .agg #[.slice op ps.length np, .slice oe es.length ne]) (by simp [results, Tryz.results41, go_sem, c0, c1]) rfl ?_
          refine RdP.mk (x := ⟨ps, es⟩) (r := q3) HON.out (fun W' hW' => HPY.out W' fun j hj => ?_) ?_ HGQ.out
          ·have h1 := hj.1; have h2 := hj.2
           have h3 := HN2.out
           rw [hW' j ⟨by omega, by rw [HSQ.out]; exact h2⟩, HLQ.out j (by omega)]
          ·obtain ⟨⟨s, hs1, hs2, hs3⟩, hs4⟩ := HSY.out
           exact ⟨⟨s, ⟨(HLQ.out b (by omega)).trans hs1.h⟩, hs2, hs3⟩, hs4⟩
    ·have hd1 : decide ((2 : Int) ≤ (n : Int)) = true := decide_eq_true (by omega)
     have hd2 : decide ((n : Int) ≤ 256) = false := decide_eq_false (by omega)
     have HOT := Lib.hid (HO.out.symm.trans (Fm.rdPathR_no HQ.out (by omega)))
     go_wp2_with fail
     refine (need_no W3).mono ?_
     rintro e W4 ⟨rfl, hw⟩
     subst hw
     go_wp2
     exact ⟨rfl, RdP.mkno HOT.out HG.out⟩
   ·have hd1 : decide ((2 : Int) ≤ (n : Int)) = false := decide_eq_false (by omega)
    have HOT := Lib.hid (HO.out.symm.trans (Fm.rdPathR_no HQ.out (by omega)))
    go_wp2_with fail
    refine (need_no W3).mono ?_
    rintro e W4 ⟨rfl, hw⟩
    subst hw
    go_wp2
    exact ⟨rfl, RdP.mkno HOT.out HG.out⟩
  ·rw [if_neg hca] at he
   subst he
   have HOT := Lib.hid (HO.out.symm.trans (Fm.rdPath_no0 HQ.out hca))
   unfold malP
   go_wp2
   exact ⟨rfl, RdP.mkno HOT.out HG.out⟩
end Go.Proofs.Ng
