/-
  Texts put together: Tr.
-/
import Derived.Test.YthcmkpcefiiiaaaGreatDoorZFormatCanonicalCard23
set_option linter.unusedVariables false
/-
 Walks: the reference's FormatCut on a tree that was made. Printed by gen_tr.py.
-/
namespace Go.Proofs.Ng
open Go.RowKit
theorem treeT_eq (t : Fm.TreeD) : Fm.treeT t = Fm.lineT Fm.kwCut [(t.root.length : Nat), (t.cells.length : Nat)] ++ Fm.lineT Fm.kwRoot (t.root.map Fm.pairL).flatten ++ flT Fm.cellT t.cells := rfl
theorem cellT_split {c : Fm.CellD} (h : Fm.leafB c = false) : Fm.cellT c = Fm.lineT Fm.kwSplit [c.joint, c.low, c.high] := by unfold Fm.cellT; rw [if_neg (by rw [h]; decide)]
theorem cellT_two {c : Fm.CellD} (h : Fm.leafB c = true) (hk : c.verd.kind = 2) : Fm.cellT c = Fm.lineT Fm.kwLeaf [c.verd.kind, (c.verd.normals.length : Nat)] ++ flT normT c.verd.normals ++ Fm.lineT Fm.kwWitness (Fm.witL c.verd) := by unfold Fm.cellT; rw [if_pos h, if_pos hk]; rfl
theorem cellT_one {c : Fm.CellD} (h : Fm.leafB c = true) (hk : c.verd.kind ≠ 2) : Fm.cellT c = Fm.lineT Fm.kwLeaf [c.verd.kind, (c.verd.normals.length : Nat)] ++ flT normT c.verd.normals := by unfold Fm.cellT; rw [if_pos h, if_neg hk, List.append_nil]; rfl
theorem flat_take {l : List (Int × Int)} {k : Nat} {a : Int × Int} (h : l[k]? = some a) : ((l.take (k + 1)).map Fm.pairL).flatten = ((l.take k).map Fm.pairL).flatten ++ Fm.pairL a := by
 rw [List.take_add_one, h]; simp
theorem mk_root64 {t : Fm.TreeD} (hm : MkT t) : ∀ n ∈ (t.root.map Fm.pairL).flatten, Fm.inR64 n := by
 intro n hn
 rw [List.mem_flatten] at hn
 obtain ⟨l, hl, hn⟩ := hn
 obtain ⟨a, ha, rfl⟩ := List.mem_map.1 hl
 have := hm.rb a ha
 unfold Fm.pairL at hn
 simp only [List.mem_cons, List.not_mem_nil, or_false] at hn
 unfold Fm.inR64
 rcases hn with rfl | rfl <;> omega
theorem mk_split64 {c : Fm.CellD} (h : MkCl c) : ∀ n ∈ [c.joint, c.low, c.high], Fm.inR64 n := by
 intro n hn
 have h1 := h.j
 have h2 := h.l
 have h3 := h.h
 simp only [List.mem_cons, List.not_mem_nil, or_false] at hn
 unfold Fm.inR64
 rcases hn with rfl | rfl | rfl <;> omega
theorem mk_leaf64 {c : Fm.CellD} (h : MkCl c) : ∀ n ∈ [c.verd.kind, ((c.verd.normals.length : Nat) : Int)], Fm.inR64 n := by
 intro n hn
 have h1 := h.v.rk
 have h2 := h.v.nn
 simp only [List.mem_cons, List.not_mem_nil, or_false] at hn
 unfold Fm.inR64
 rcases hn with rfl | rfl <;> omega
theorem mk_wit64 {u : Fm.VerdD} (h : MkVd u) : ∀ n ∈ Fm.witL u, Fm.inR64 n := by
 intro n hn
 unfold Fm.witL at hn
 have h1 := h.nl
 have h2 := h.nr
 have h3 := h.pair
 simp only [List.mem_cons, List.mem_append] at hn
 rcases hn with rfl | rfl | hn | rfl | hn
 ·unfold Fm.inR64; omega
 ·unfold Fm.inR64; omega
 ·exact h.rl n hn
 ·unfold Fm.inR64; omega
 ·exact h.rr n hn
/-- A list of numbers that is being made: B its base. -/
def OwnI (B : Nat) (X : World) (v : Value) (ns : List Int) : Prop := X.ownsRow B 2 1 v ns.length (pflat ns)
theorem pflat_two (l : List Int) (x y : Int) : pflat (l ++ [x, y]) = pflat l ++ [.int .i64 x, .int .i64 y] := by simp [pflat]
structure Rf8K (n1 cr kk g off : Nat) (t : Fm.TreeD) (a1 a2 : Int) (ns : List Int) (u5 : Value) (Wr : World) (L : Nat → Bool) (v30 v31 v32 v33 v34 v35 v36 v37 v38 v39 v40 v41 v42 v43 v44 v5 : Value) (w : World) : Prop where
 wf : (L 15 = false → v5 = u5) ∧ Below (n1 + 1) Wr w ∧ (L 14 = false → OwnI (n1 + 1) w u5 ns) ∧ n1 + 1 ≤ w.heap.size
 f0 : L 0 = true → v30 = u5
 f1 : L 1 = true → v31 = .pointer (some ⟨n1, 0, none⟩)
 f2 : L 2 = true → v32 = .slice (some ⟨g, off, none⟩) t.root.length cr
 f3 : L 3 = true → v33 = .int .i64 ((kk : Nat) : Int)
 f4 : L 4 = true → v34 = .pointer (some ⟨g, off + kk * 2, none⟩)
 f5 : L 5 = true → v35 = .pointer (some ⟨g, off + kk * 2, none⟩)
 f6 : L 6 = true → v36 = .int .i64 a1
 f7 : L 7 = true → v37 = .pointer (some ⟨n1, 0, none⟩)
 f8 : L 8 = true → v38 = .slice (some ⟨g, off, none⟩) t.root.length cr
 f9 : L 9 = true → v39 = .int .i64 ((kk : Nat) : Int)
 f10 : L 10 = true → v40 = .pointer (some ⟨g, off + kk * 2, none⟩)
 f11 : L 11 = true → v41 = .pointer (some ⟨g, off + kk * 2 + 1, none⟩)
 f12 : L 12 = true → v42 = .int .i64 a2
 f13 : L 13 = true → ∃ q, v43 = .slice (some ⟨q, 0, none⟩) 2 2 ∧ (L 14 = false → Bx w q [.int .i64 a1, .int .i64 a2] 2)
 f14 : L 14 = true → L 13 = true ∧ OwnI (n1 + 1) w v44 (ns ++ [a1, a2])
 f15 : L 15 = true → L 0 = true ∧ L 14 = true ∧ v5 = v44
structure Rf24K (B n10 g1 c11 br offr crr : Nat) (p x y : Int) (w8 : World) (L : Nat → Bool) (v118 v119 v120 v121 v122 v123 v124 v125 v126 v11 : Value) (w : World) : Prop where
 wf : (L 9 = false → v11 = .slice (some ⟨g1, 0, none⟩) 3 c11) ∧ Below B w8 w ∧ (L 5 = false → w.ownsRow B 2 1 (.slice (some ⟨g1, 0, none⟩) 3 c11) 3 (pflat [p, 1, x])) ∧ B ≤ w.heap.size
 f0 : L 0 = true → v118 = .slice (some ⟨g1, 0, none⟩) 3 c11
 f1 : L 1 = true → v119 = .pointer (some ⟨n10, 2, none⟩)
 f2 : L 2 = true → v120 = .slice (some ⟨br, offr, none⟩) 1 crr
 f3 : L 3 = true → v121 = .int .i64 1
 f4 : L 4 = true → ∃ q, v122 = .slice (some ⟨q, 0, none⟩) 1 1 ∧ (L 5 = false → Bx w q [.int .i64 1] 2)
 f5 : L 5 = true → L 4 = true ∧ ∃ g c, v123 = .slice (some ⟨g, 0, none⟩) 4 c ∧ (L 8 = false → w.ownsRow B 2 1 (.slice (some ⟨g, 0, none⟩) 4 c) 4 (pflat [p, 1, x, 1]))
 f6 : L 6 = true → v124 = .pointer (some ⟨n10, 2, none⟩)
 f7 : L 7 = true → v125 = .slice (some ⟨br, offr, none⟩) 1 crr
 f8 : L 8 = true → L 5 = true ∧ ∃ g c, v126 = .slice (some ⟨g, 0, none⟩) 5 c ∧ w.ownsRow B 2 1 (.slice (some ⟨g, 0, none⟩) 5 c) 5 (pflat [p, 1, x, 1, y])
 f9 : L 9 = true → L 0 = true ∧ L 8 = true ∧ v11 = v126
theorem line_own {w X : World} {B : Nat} {v : Value} {ns : List Int} (kw : List UInt8) (htab : TabW w.heap.size w) (hB : Below w.heap.size w X) (ho : OwnI B X v ns) (hr : ∀ n ∈ ns, Fm.inR64 n) (hl : (Fm.lineT kw ns).length ≤ 1048576) :
  ∃ oa cap, v = .slice oa ns.length cap ∧ Calls Tryz.prog 33 #[.string ⟨kw.toArray⟩, v] X (fun e W' => e = .returned (.string ⟨(Fm.lineT kw ns).toArray⟩) ∧ Below X.heap.size X W') := by
 obtain ⟨oa, cap, e⟩ := own_sl ho
 subst e
 exact ⟨oa, cap, rfl, line28_own kw htab hB ho rfl hr hl⟩
set_option maxRecDepth 100000 in
set_option maxHeartbeats 16000000 in
theorem refCut9 (w : World) (v : Value) (t : Fm.TreeD) (hT : TreeAt w v t) (hm : MkT t) (hn : t.cells.length ≤ 27) (hl : (Fm.docC t).length ≤ 1048576) (htab : TabW w.heap.size w) :
  Calls Tryz.prog 9 #[v] w (fun e W' => e = .returned (fmtV (some (Fm.docC t))) ∧ Below w.heap.size w W') := by
 have H32 := Lib.hid (fun X (hX : Below w.heap.size w X) => validTree32 X v t (hT.keep hX) hm.val)
 have hJ3 := hm.rl
 have HDOC := Lib.hid (document23 w (Fm.treeT t) hl)
 have HDW := Lib.hid (fun X => document23 X (Fm.treeT t) hl)
 obtain ⟨or, cr, oc, cc, rfl, hro, hce⟩ := hT
 have hlt : (Fm.treeT t).length ≤ 1048576 := by unfold Fm.docC at hl; rw [List.length_append] at hl; omega
 rw [treeT_eq, List.length_append, List.length_append] at hlt
 have HR := Lib.hid hro
 have HC := Lib.hid hce
 have HL := Lib.hid hlt
 have HM := Lib.hid hm
 have HT := Lib.hid htab
 have hb1 : Below w.heap.size w (w.alloc (.cells #[.slice or t.root.length cr, .slice oc t.cells.length cc] 36)) := (Below.refl _ _).alloc (Nat.le_refl _) _
 have hbx := Bx.new w [.slice or t.root.length cr, .slice oc t.cells.length cc] 36
 have hsz : (w.alloc (.cells #[.slice or t.root.length cr, .slice oc t.cells.length cc] 36)).heap.size = w.heap.size + 1 := by simp
 have HB1 := Lib.hid hb1
 have HX1 := Lib.hid hbx
 clear hro hce hlt hm htab hb1 hbx hl HDOC
 go_enter Tryz.func9, Tryz.ntmps9
 go_wp2_with fail
 generalize w.alloc (.cells #[.slice or t.root.length cr, .slice oc t.cells.length cc] 36) = w1 at HB1 HX1 hsz ⊢
 obtain ⟨n1, hn1⟩ : ∃ n, w.heap.size = n := ⟨_, rfl⟩
 have HN1 := Lib.hid hn1
 rw [hn1] at HX1 hsz ⊢
 refine (H32.out w1 HB1.out).mono ?_
 rintro e W2 ⟨rfl, hb⟩
 have HX2 := Lib.hid (HX1.out.keep hb)
 have HB2 := Lib.hid (below_call HB1.out hb)
 have hsz2 : n1 + 1 ≤ W2.heap.size := by have := hb.size; omega
 clear hb HX1 HB1 H32 hsz hn1
 have c0 := HX2.out.c 0 _ rfl
 have c1 := HX2.out.c 1 _ rfl
 have lc := HX2.out.lt
 have h2b : Below W2.heap.size W2 (W2.alloc (.cells #[.int .i64 (t.root.length : Nat), .int .i64 (t.cells.length : Nat)] 2)) := (Below.refl _ _).alloc (Nat.le_refl _) _
 have h2N := Sl.new W2 [((t.root.length : Nat) : Int), ((t.cells.length : Nat) : Int)] 2
 have hB3 := below_call HB2.out h2b
 have HLC := Lib.hid (line28 _ Fm.kwCut _ 2 [((t.root.length : Nat) : Int), ((t.cells.length : Nat) : Int)] h2N (line_nn _ _ (by omega) (by omega)) (by have := HL.out; omega) (tab_size HT.out hB3))
 have HX3 := Lib.hid (HX2.out.keep h2b)
 have HB3 := Lib.hid hB3
 have hsz3 := Nat.le_trans hsz2 h2b.size
 clear h2b h2N hB3 HX2 HB2
 generalize hl1 : Fm.lineT Fm.kwCut [((t.root.length : Nat) : Int), ((t.cells.length : Nat) : Int)] = l1 at HLC HL
 go_wp2_with fail
 refine HLC.out.mono ?_
 clear HLC
 rintro e W4 ⟨rfl, hb⟩
 have HX4 := Lib.hid (HX3.out.keep hb)
 have HB4 := Lib.hid (below_call HB3.out hb)
 have hsz4 : n1 + 1 ≤ W4.heap.size := Nat.le_trans hsz3 hb.size
 clear hb HX3 HB3 hsz3 c0 c1 lc
 go_wp2_with fail
 go_loopw [5, 6] (fun v i W => ∃ k : Nat, k ≤ t.root.length ∧ i = .int .i64 (k : Nat) ∧ OwnI (n1 + 1) W v ((t.root.take k).map Fm.pairL).flatten ∧ Below w.heap.size w W ∧ Bx W n1 [.slice or t.root.length cr, .slice oc t.cells.length cc] 36 ∧ n1 + 1 ≤ W.heap.size) (fun _ i _ => t.root.length - (intOf i).toNat)
 case atStart => exact ⟨0, Nat.zero_le _, rfl, World.ownsRow_nil _ _ _ _, HB4.out, HX4.out, hsz4⟩
 case round =>
  obtain ⟨kk, hk, rfl, hO, hB, hX, hz⟩ := hrel
  have c0 := hX.c 0 _ rfl
  have lc := hX.lt
  clear HX4 HB4 hsz4
  by_cases hlt : kk < t.root.length
  ·obtain ⟨a, ha⟩ : ∃ a, t.root[kk]? = some a := ⟨_, List.getElem?_eq_getElem hlt⟩
   obtain ⟨g, off, hor, glt, -, -⟩ := iv_get (HR.out.keep hB) ha
   subst hor
   have HO := Lib.hid hO
   have HB := Lib.hid hB
   have HX := Lib.hid hX
   have HA := Lib.hid ha
   have hd : decide ((kk : Int) < (t.root.length : Int)) = true := decide_eq_true (by omega)
   obtain ⟨Wr, hWr⟩ : ∃ X, X = wr := ⟨_, rfl⟩
   subst hWr
   obtain ⟨⟨a1, a2⟩, rfl⟩ : ∃ b : Int × Int, b = a := ⟨_, rfl⟩
   have HXK : Hid (∀ X, Below (n1 + 1) Wr X → X.cell? ⟨n1, 0, none⟩ = some (.slice (some ⟨g, off, none⟩) t.root.length cr) ∧ n1 < X.heap.size ∧ X.cell? ⟨g, off + kk * 2, none⟩ = some (.int .i64 a1) ∧ X.cell? ⟨g, off + kk * 2 + 1, none⟩ = some (.int .i64 a2) ∧ g < X.heap.size) := Lib.hid (fun X hX => by
    have hx := HX.out.low hX (by omega)
    obtain ⟨g', off', e', hg', q0, q1⟩ := iv_get (HR.out.keep (HB.out.trans (hX.mono (by have := HN1.out; omega)))) HA.out
    injection e' with e'
    injection e' with e1 e2 _
    subst e1 e2
    exact ⟨hx.c 0 _ rfl, hx.lt, q0, q1, hg'⟩)
   obtain ⟨ns, hns⟩ : ∃ ns, ns = ((t.root.take kk).map Fm.pairL).flatten := ⟨_, rfl⟩
   have hnl : ns.length ≤ 6 := by rw [hns, Fm.flat_len, List.length_take]; omega
   have HNS : Hid (((t.root.take (kk + 1)).map Fm.pairL).flatten = ns ++ [a1, a2]) := Lib.hid (by rw [flat_take ha, hns]; rfl)
   rw [← hns] at HO
   clear hO hB hX ha hns
   go_upto_region 8 with fail
   clear hd c0 lc
   obtain ⟨i0, hi0, hz0, hz1, hz2⟩ := info_parts info2
   have hri : decide ((t.root.length : Int) ≤ (kk : Int)) = false := decide_eq_false (by omega)
   have hri2 : decide (t.root.length ≤ kk) = false := decide_eq_false (by omega)
   refine wp_region_inv2 (by kernel_rfl) (by kernel_rfl) (fun L a w => ∃ v30 v31 v32 v33 v34 v35 v36 v37 v38 v39 v40 v41 v42 v43 v44 v5 : Value, a = { tmps := #[((Value.agg #[Value.slice (some ⟨g, off, none⟩) t.root.length cr, Value.slice oc t.cells.length cc])), ((Value.pointer (some ⟨n1, 0, none⟩))), ((Value.string { data := #[] })), ((Value.int IntKind.i64 0)), ((Value.string { data := l1.toArray })), v5, ((Value.int IntKind.i64 ((kk : Nat) : Int))), undef, undef, undef, undef, undef, ((Value.agg #[Value.slice (some ⟨g, off, none⟩) t.root.length cr, Value.slice oc t.cells.length cc])), ((Value.bool true)), ((Value.bool false)), ((Value.pointer (some ⟨n1, 0, none⟩))), ((Value.slice (some ⟨g, off, none⟩) t.root.length cr)), ((Value.int IntKind.i64 ((t.root.length : Nat) : Int))), ((Value.pointer (some ⟨n1, 1, none⟩))), ((Value.slice oc t.cells.length cc)), ((Value.int IntKind.i64 ((t.cells.length : Nat) : Int))), ((Value.slice (some ⟨W2.heap.size, 0, none⟩) 2 2)), ((Value.string { data := l1.toArray })), ((Value.int IntKind.i64 ((kk : Nat) : Int))), ((Value.pointer (some ⟨n1, 0, none⟩))), ((Value.slice (some ⟨g, off, none⟩) t.root.length cr)), ((Value.int IntKind.i64 ((t.root.length : Nat) : Int))), ((Value.bool true)), u28, u29, v30, v31, v32, v33, v34, v35, v36, v37, v38, v39, v40, v41, v42, v43, v44, undef, undef, undef, undef, undef, undef, undef, undef, undef, undef, undef, undef, undef, undef, undef, undef, undef, undef, undef, undef, undef, undef, undef, undef, undef, undef, undef, undef, undef, undef, undef, undef, undef, undef, undef, undef, undef, undef, undef, undef, undef, undef, undef, undef, undef, undef, undef, undef, undef, undef, undef, undef, undef, undef, undef, undef, undef, undef, undef, undef, undef, undef, undef, undef, undef, undef, undef, undef, undef, undef, undef, undef, undef, undef, undef, undef, undef, undef, undef, undef, undef, undef, undef, undef, undef, undef, undef, undef, undef, undef], defers := [] } ∧ Rf8K n1 cr kk g off t a1 a2 ns u5 Wr L v30 v31 v32 v33 v34 v35 v36 v37 v38 v39 v40 v41 v42 v43 v44 v5 w) ?_ ?_ ?_
   ·exact ⟨_, _, _, _, _, _, _, _, _, _, _, _, _, _, _, _, rfl, ⟨⟨fun _ => rfl, (Below.refl _ _).drew, fun _ => own_keep HO.out (Below.refl _ _).drew, hz⟩, nofun, nofun, nofun, nofun, nofun, nofun, nofun, nofun, nofun, nofun, nofun, nofun, nofun, nofun, nofun, nofun⟩⟩
   ·intro iq oq ho L a w hL hd hJ
    obtain ⟨v30, v31, v32, v33, v34, v35, v36, v37, v38, v39, v40, v41, v42, v43, v44, v5, rfl, k⟩ := hJ
    have hiq : iq < 16 := by have := (Array.getElem?_eq_some_iff.1 ho).1; simpa using this
    match iq, hiq, ho, hL with
    | 0, _, ho, hL =>
     have ho2 := ho
     simp only [qz1, qz2, qz3, qz4] at ho
     subst ho
     refine wpOp_step ho2 (fun K hK => ?_)
     have h15 : L 15 = false := by
      cases h : L 15 with
      | false => rfl
      | true => exact absurd (hL.symm.trans (k.f15 h).1) (by decide)
     obtain rfl := k.wf.1 h15
     go_simp
     exact hK _ _ ⟨_, _, _, _, _, _, _, _, _, _, _, _, _, _, _, _, rfl, ⟨k.wf, fun _ => rfl, k.f1, k.f2, k.f3, k.f4, k.f5, k.f6, k.f7, k.f8, k.f9, k.f10, k.f11, k.f12, k.f13, k.f14, fun h => absurd (hL.symm.trans (k.f15 h).1) (by decide)⟩⟩
    | 1, _, ho, hL =>
     have ho2 := ho
     simp only [qz1, qz2, qz3, qz4] at ho
     subst ho
     refine wpOp_step ho2 (fun K hK => ?_)
     go_simp
     exact hK _ _ ⟨_, _, _, _, _, _, _, _, _, _, _, _, _, _, _, _, rfl, ⟨k.wf, k.f0, fun _ => rfl, k.f2, k.f3, k.f4, k.f5, k.f6, k.f7, k.f8, k.f9, k.f10, k.f11, k.f12, k.f13, k.f14, k.f15⟩⟩
    | 2, _, ho, hL =>
     have ho2 := ho
     simp only [qz1, qz2, qz3, qz4] at ho
     subst ho
     refine wpOp_step ho2 (fun K hK => ?_)
     obtain rfl := k.f1 (hd ⟨1, .data⟩ (by simp) rfl)
     have hx := HXK.out w k.wf.2.1
     have y0 := hx.1
     have ly := hx.2.1
     go_simp
     exact hK _ _ ⟨_, _, _, _, _, _, _, _, _, _, _, _, _, _, _, _, rfl, ⟨k.wf, k.f0, k.f1, fun _ => rfl, k.f3, k.f4, k.f5, k.f6, k.f7, k.f8, k.f9, k.f10, k.f11, k.f12, k.f13, k.f14, k.f15⟩⟩
    | 3, _, ho, hL =>
     have ho2 := ho
     simp only [qz1, qz2, qz3, qz4] at ho
     subst ho
     refine wpOp_step ho2 (fun K hK => ?_)
     go_simp
     exact hK _ _ ⟨_, _, _, _, _, _, _, _, _, _, _, _, _, _, _, _, rfl, ⟨k.wf, k.f0, k.f1, k.f2, fun _ => rfl, k.f4, k.f5, k.f6, k.f7, k.f8, k.f9, k.f10, k.f11, k.f12, k.f13, k.f14, k.f15⟩⟩
    | 4, _, ho, hL =>
     have ho2 := ho
     simp only [qz1, qz2, qz3, qz4] at ho
     subst ho
     refine wpOp_step ho2 (fun K hK => ?_)
     obtain rfl := k.f2 (hd ⟨2, .data⟩ (by simp) rfl)
     obtain rfl := k.f3 (hd ⟨3, .data⟩ (by simp) rfl)
     go_simp
     exact hK _ _ ⟨_, _, _, _, _, _, _, _, _, _, _, _, _, _, _, _, rfl, ⟨k.wf, k.f0, k.f1, k.f2, k.f3, fun _ => rfl, k.f5, k.f6, k.f7, k.f8, k.f9, k.f10, k.f11, k.f12, k.f13, k.f14, k.f15⟩⟩
    | 5, _, ho, hL =>
     have ho2 := ho
     simp only [qz1, qz2, qz3, qz4] at ho
     subst ho
     refine wpOp_step ho2 (fun K hK => ?_)
     obtain rfl := k.f4 (hd ⟨4, .data⟩ (by simp) rfl)
     go_simp
     exact hK _ _ ⟨_, _, _, _, _, _, _, _, _, _, _, _, _, _, _, _, rfl, ⟨k.wf, k.f0, k.f1, k.f2, k.f3, k.f4, fun _ => rfl, k.f6, k.f7, k.f8, k.f9, k.f10, k.f11, k.f12, k.f13, k.f14, k.f15⟩⟩
    | 6, _, ho, hL =>
     have ho2 := ho
     simp only [qz1, qz2, qz3, qz4] at ho
     subst ho
     refine wpOp_step ho2 (fun K hK => ?_)
     obtain rfl := k.f5 (hd ⟨5, .data⟩ (by simp) rfl)
     have hx := HXK.out w k.wf.2.1
     have x0 := hx.2.2.1
     have x1 := hx.2.2.2.1
     have glt := hx.2.2.2.2
     go_simp
     exact hK _ _ ⟨_, _, _, _, _, _, _, _, _, _, _, _, _, _, _, _, rfl, ⟨k.wf, k.f0, k.f1, k.f2, k.f3, k.f4, k.f5, fun _ => rfl, k.f7, k.f8, k.f9, k.f10, k.f11, k.f12, k.f13, k.f14, k.f15⟩⟩
    | 7, _, ho, hL =>
     have ho2 := ho
     simp only [qz1, qz2, qz3, qz4] at ho
     subst ho
     refine wpOp_step ho2 (fun K hK => ?_)
     go_simp
     exact hK _ _ ⟨_, _, _, _, _, _, _, _, _, _, _, _, _, _, _, _, rfl, ⟨k.wf, k.f0, k.f1, k.f2, k.f3, k.f4, k.f5, k.f6, fun _ => rfl, k.f8, k.f9, k.f10, k.f11, k.f12, k.f13, k.f14, k.f15⟩⟩
    | 8, _, ho, hL =>
     have ho2 := ho
     simp only [qz1, qz2, qz3, qz4] at ho
     subst ho
     refine wpOp_step ho2 (fun K hK => ?_)
     obtain rfl := k.f7 (hd ⟨7, .data⟩ (by simp) rfl)
     have hx := HXK.out w k.wf.2.1
     have y0 := hx.1
     have ly := hx.2.1
     go_simp
     exact hK _ _ ⟨_, _, _, _, _, _, _, _, _, _, _, _, _, _, _, _, rfl, ⟨k.wf, k.f0, k.f1, k.f2, k.f3, k.f4, k.f5, k.f6, k.f7, fun _ => rfl, k.f9, k.f10, k.f11, k.f12, k.f13, k.f14, k.f15⟩⟩
    | 9, _, ho, hL =>
     have ho2 := ho
     simp only [qz1, qz2, qz3, qz4] at ho
     subst ho
     refine wpOp_step ho2 (fun K hK => ?_)
     go_simp
     exact hK _ _ ⟨_, _, _, _, _, _, _, _, _, _, _, _, _, _, _, _, rfl, ⟨k.wf, k.f0, k.f1, k.f2, k.f3, k.f4, k.f5, k.f6, k.f7, k.f8, fun _ => rfl, k.f10, k.f11, k.f12, k.f13, k.f14, k.f15⟩⟩
    | 10, _, ho, hL =>
     have ho2 := ho
     simp only [qz1, qz2, qz3, qz4] at ho
     subst ho
     refine wpOp_step ho2 (fun K hK => ?_)
     obtain rfl := k.f8 (hd ⟨8, .data⟩ (by simp) rfl)
     obtain rfl := k.f9 (hd ⟨9, .data⟩ (by simp) rfl)
     go_simp
     exact hK _ _ ⟨_, _, _, _, _, _, _, _, _, _, _, _, _, _, _, _, rfl, ⟨k.wf, k.f0, k.f1, k.f2, k.f3, k.f4, k.f5, k.f6, k.f7, k.f8, k.f9, fun _ => rfl, k.f11, k.f12, k.f13, k.f14, k.f15⟩⟩
    | 11, _, ho, hL =>
     have ho2 := ho
     simp only [qz1, qz2, qz3, qz4] at ho
     subst ho
     refine wpOp_step ho2 (fun K hK => ?_)
     obtain rfl := k.f10 (hd ⟨10, .data⟩ (by simp) rfl)
     go_simp
     exact hK _ _ ⟨_, _, _, _, _, _, _, _, _, _, _, _, _, _, _, _, rfl, ⟨k.wf, k.f0, k.f1, k.f2, k.f3, k.f4, k.f5, k.f6, k.f7, k.f8, k.f9, k.f10, fun _ => rfl, k.f12, k.f13, k.f14, k.f15⟩⟩
    | 12, _, ho, hL =>
     have ho2 := ho
     simp only [qz1, qz2, qz3, qz4] at ho
     subst ho
     refine wpOp_step ho2 (fun K hK => ?_)
     obtain rfl := k.f11 (hd ⟨11, .data⟩ (by simp) rfl)
     have hx := HXK.out w k.wf.2.1
     have x0 := hx.2.2.1
     have x1 := hx.2.2.2.1
     have glt := hx.2.2.2.2
     go_simp
     exact hK _ _ ⟨_, _, _, _, _, _, _, _, _, _, _, _, _, _, _, _, rfl, ⟨k.wf, k.f0, k.f1, k.f2, k.f3, k.f4, k.f5, k.f6, k.f7, k.f8, k.f9, k.f10, k.f11, fun _ => rfl, k.f13, k.f14, k.f15⟩⟩
    | 13, _, ho, hL =>
     have ho2 := ho
     simp only [qz1, qz2, qz3, qz4] at ho
     subst ho
     refine wpOp_step ho2 (fun K hK => ?_)
     obtain rfl := k.f6 (hd ⟨6, .data⟩ (by simp) rfl)
     obtain rfl := k.f12 (hd ⟨12, .data⟩ (by simp) rfl)
     have hb : Below w.heap.size w (w.alloc (.cells #[.int .i64 a1, .int .i64 a2] 2)) := (Below.refl _ _).alloc (Nat.le_refl _) _
     have hbx := Bx.new w [.int .i64 a1, .int .i64 a2] 2
     have hz := k.wf.2.2.2
     go_simp
     exact hK _ _ ⟨_, _, _, _, _, _, _, _, _, _, _, _, _, _, _, _, rfl, ⟨⟨k.wf.1, k.wf.2.1.trans (hb.mono hz), fun h => own_keep (k.wf.2.2.1 h) hb, Nat.le_trans hz hb.size⟩, k.f0, k.f1, k.f2, k.f3, k.f4, k.f5, k.f6, k.f7, k.f8, k.f9, k.f10, k.f11, k.f12, fun _ => ⟨w.heap.size, rfl, fun _ => hbx⟩, fun h => absurd (hL.symm.trans (k.f14 h).1) (by decide), fun h => absurd (hL.symm.trans (k.f14 (k.f15 h).2.1).1) (by decide)⟩⟩
    | 14, _, ho, hL =>
     have ho2 := ho
     simp only [qz1, qz2, qz3, qz4] at ho
     subst ho
     refine wpOp_step ho2 (fun K hK => ?_)
     obtain rfl := k.f0 (hd ⟨0, .data⟩ (by simp) rfl)
     obtain ⟨q, rfl, hq⟩ := k.f13 (hd ⟨13, .data⟩ (by simp) rfl)
     have h13 := hd ⟨13, .data⟩ (by simp) rfl
     have hbx := hq hL
     have hz := k.wf.2.2.2
     have hown := k.wf.2.2.1 hL
     refine step_append_lies _ rfl (.tmp 30) (.tmp 43) 68 rfl (n1 + 1) 2 i0 (.int .i64 0) 1 8 under42 hi0 hz0 hz1 hz2 rfl (by decide) _ ns.length (pflat ns) (by simp [Act.eval]) hown ⟨q, 0, none⟩ 2 2 [.int .i64 a1, .int .i64 a2] (by simp [Act.eval]) rfl (World.news_of_block hbx.h) (by intro u hu; simp at hu; rcases hu with rfl | rfl <;> rfl) (by decide) (by unfold maxLen; omega) (by omega) hz _ rfl ?_
     intro gN cN X hown2 hgrow hat hltN
     have hbX := grown_below hown hgrow hz
     have ho3 : OwnI (n1 + 1) X (.slice (some ⟨gN, 0, none⟩) (ns.length + 2) cN) (ns ++ [a1, a2]) := by unfold OwnI; rw [List.length_append, pflat_two]; exact hown2
     exact hK _ _ ⟨_, _, _, _, _, _, _, _, _, _, _, _, _, _, _, _, rfl, ⟨⟨k.wf.1, k.wf.2.1.trans hbX, nofun, Nat.le_trans hz hgrow.size⟩, k.f0, k.f1, k.f2, k.f3, k.f4, k.f5, k.f6, k.f7, k.f8, k.f9, k.f10, k.f11, k.f12, fun _ => ⟨q, rfl, nofun⟩, fun _ => ⟨h13, ho3⟩, fun h => absurd (hL.symm.trans (k.f15 h).2.1) (by decide)⟩⟩
    | 15, _, ho, hL =>
     have ho2 := ho
     simp only [qz1, qz2, qz3, qz4] at ho
     subst ho
     refine wpOp_step ho2 (fun K hK => ?_)
     have h0 := hd ⟨0, .phase⟩ (by simp) rfl
     have h14 := hd ⟨14, .data⟩ (by simp) rfl
     obtain ⟨h13, ho⟩ := k.f14 h14
     obtain ⟨oa, cap, e⟩ := own_sl ho
     rw [show (ns ++ [a1, a2]).length = ns.length + 2 by simp] at e
     subst e
     go_simp
     exact hK _ _ ⟨_, _, _, _, _, _, _, _, _, _, _, _, _, _, _, _, rfl, ⟨⟨nofun, k.wf.2⟩, k.f0, k.f1, k.f2, k.f3, k.f4, k.f5, k.f6, k.f7, k.f8, k.f9, k.f10, k.f11, k.f12, k.f13, k.f14, fun _ => ⟨h0, h14, rfl⟩⟩⟩
    | n + 16, h, _, _ => omega
   ·intro L a w hL hJ
    obtain ⟨v30, v31, v32, v33, v34, v35, v36, v37, v38, v39, v40, v41, v42, v43, v44, v5, rfl, k⟩ := hJ
    obtain rfl := k.f1 (hL 1 (by decide))
    obtain rfl := k.f2 (hL 2 (by decide))
    obtain rfl := k.f3 (hL 3 (by decide))
    obtain rfl := k.f4 (hL 4 (by decide))
    obtain rfl := k.f5 (hL 5 (by decide))
    obtain rfl := k.f6 (hL 6 (by decide))
    obtain rfl := k.f7 (hL 7 (by decide))
    obtain rfl := k.f8 (hL 8 (by decide))
    obtain rfl := k.f9 (hL 9 (by decide))
    obtain rfl := k.f10 (hL 10 (by decide))
    obtain rfl := k.f11 (hL 11 (by decide))
    obtain rfl := k.f12 (hL 12 (by decide))
    obtain ⟨-, h14, rfl⟩ := k.f15 (hL 15 (by decide))
    obtain ⟨-, ho⟩ := k.f14 h14
    obtain rfl := k.f0 (hL 0 (by decide))
    obtain ⟨q, rfl, -⟩ := k.f13 (hL 13 (by decide))
    have HO2 := Lib.hid ho
    have hwf := k.wf
    have HB2 := Lib.hid (HB.out.trans (hwf.2.1.mono (by have := HN1.out; omega)))
    have HX2 := Lib.hid (HX.out.low hwf.2.1 (by omega))
    have hz2 := hwf.2.2.2
    clear k hL ho hwf
    go_wp2_with fail
    go_roundw
    case rel => exact ⟨kk + 1, by omega, by simp, by rw [HNS.out]; exact HO2.out, HB2.out, HX2.out, hz2⟩
    case measure => simp [intOf]; omega
  ·have hke : kk = t.root.length := by omega
   subst hke
   rw [List.take_length] at hO
   have hd : decide ((t.root.length : Int) < (t.root.length : Int)) = false := by simp
   have hd2 : decide (t.root.length < t.root.length) = false := by simp
   have h64 := mk_root64 HM.out
   have HTE := Lib.hid (treeT_eq t)
   generalize (t.root.map Fm.pairL).flatten = rs at hO HL h64 HTE
   obtain ⟨oa, cp, rfl, hcall⟩ := line_own Fm.kwRoot HT.out hB hO h64 (by have := HL.out; omega)
   have hcat := cat (a := l1) (c := Fm.lineT Fm.kwRoot rs) (by have := HL.out; omega)
   have HCL := Lib.hid hcall
   have HB := Lib.hid hB
   have HX := Lib.hid hX
   clear hO hB hX hcall h64
   generalize hl2 : Fm.lineT Fm.kwRoot rs = l2 at HCL HL hcat
   go_wp2_with fail
   refine HCL.out.mono ?_
   clear HCL
   rintro e W5 ⟨rfl, hb⟩
   have HB5 := Lib.hid (below_call HB.out hb)
   have HX5 := Lib.hid (HX.out.keep hb)
   clear hb HB HX c0 lc hd hd2
   go_wp2_with fail
   clear hcat
   have HL2 : Hid ((l1 ++ l2).length + (flT Fm.cellT t.cells).length ≤ 1048576) := Lib.hid (by have := HL.out; rw [List.length_append]; omega)
   have HTT : Hid (Fm.treeT t = l1 ++ l2 ++ flT Fm.cellT t.cells) := Lib.hid (by rw [HTE.out, hl1, hl2])
   clear HL hl1 hl2 HTE
   generalize l1 ++ l2 = t0 at HL2 HTT ⊢
   go_loopw [4, 7] (fun s i W => ∃ k : Nat, k ≤ t.cells.length ∧ i = .int .i64 (k : Nat) ∧ s = .string ⟨(t0 ++ flT Fm.cellT (t.cells.take k)).toArray⟩ ∧ Below w.heap.size w W ∧ Bx W n1 [.slice or t.root.length cr, .slice oc t.cells.length cc] 36) (fun _ i _ => t.cells.length - (intOf i).toNat)
   case atStart => exact ⟨0, Nat.zero_le _, rfl, by rw [List.take_zero, show flT Fm.cellT [] = [] from rfl, List.append_nil], HB5.out, HX5.out⟩
   case round =>
    obtain ⟨k, hk, rfl, rfl, hB, hX⟩ := hrel
    clear HB5 HX5
    have c1 := hX.c 1 _ rfl
    have lc := hX.lt
    by_cases hlt : k < t.cells.length
    ·obtain ⟨c, hc⟩ : ∃ c, t.cells[k]? = some c := ⟨_, List.getElem?_eq_getElem hlt⟩
     have HMC := Lib.hid (HM.out.cl c (List.mem_of_getElem? hc))
     obtain ⟨gc, off, on, ol, orr, cn, cl, crr, hoc, glt, z0, z1, z2, z3, z4, z5, z6, z7, hs1, hs2, hs3⟩ := (HC.out.keep hB).get hc
     subst hoc
     have hlen : (t0 ++ flT Fm.cellT (t.cells.take k)).length + (Fm.cellT c).length ≤ 1048576 := by
      have h1 := HL2.out
      have h2 := flT_le Fm.cellT t.cells (k + 1)
      rw [flT_take hc] at h2
      simp only [List.length_append] at h2 ⊢
      omega
     have HT2 : Hid (t0 ++ flT Fm.cellT (t.cells.take (k + 1)) = (t0 ++ flT Fm.cellT (t.cells.take k)) ++ Fm.cellT c) := Lib.hid (by rw [flT_take hc, List.append_assoc])
     have HLN := Lib.hid hlen
     generalize t0 ++ flT Fm.cellT (t.cells.take k) = t1 at HLN HT2 ⊢
     have hb3 : Below wr.heap.size wr (wr.alloc (.cells #[.int .i64 c.joint, .int .i64 c.low, .int .i64 c.high, .int .i64 c.verd.kind, .slice on c.verd.normals.length cn, .int .i64 c.verd.pair, .slice ol c.verd.left.length cl, .slice orr c.verd.right.length crr] 85)) := (Below.refl _ _).alloc (Nat.le_refl _) _
     have HX8 := Lib.hid (Bx.new wr [.int .i64 c.joint, .int .i64 c.low, .int .i64 c.high, .int .i64 c.verd.kind, .slice on c.verd.normals.length cn, .int .i64 c.verd.pair, .slice ol c.verd.left.length cl, .slice orr c.verd.right.length crr] 85)
     have hsz3 : (wr.alloc (.cells #[.int .i64 c.joint, .int .i64 c.low, .int .i64 c.high, .int .i64 c.verd.kind, .slice on c.verd.normals.length cn, .int .i64 c.verd.pair, .slice ol c.verd.left.length cl, .slice orr c.verd.right.length crr] 85)).heap.size = wr.heap.size + 1 := by simp
     have HX3 := Lib.hid (hX.keep hb3)
     have HB3 := Lib.hid (below_call hB hb3)
     have HS := Lib.hid (show VerdAt _ c.verd on ol orr from ⟨hs1.keep hb3, hs2.keep hb3, hs3.keep hb3⟩)
     clear hlen hc hB hX hb3 hs1 hs2 hs3
     go_upto_region 14 with fail
     generalize wr.alloc (.cells #[.int .i64 c.joint, .int .i64 c.low, .int .i64 c.high, .int .i64 c.verd.kind, .slice on c.verd.normals.length cn, .int .i64 c.verd.pair, .slice ol c.verd.left.length cl, .slice orr c.verd.right.length crr] 85) = w3 at HX8 HX3 HB3 HS hsz3 ⊢
     obtain ⟨n8, hn8⟩ : ∃ n, wr.heap.size = n := ⟨_, rfl⟩
     rw [hn8] at HX8 hsz3 ⊢
     clear z0 z1 z2 z3 z4 z5 z6 z7 glt c1 lc
     have y0 := HX8.out.c 0 _ rfl
     have y1 := HX8.out.c 1 _ rfl
     have y2 := HX8.out.c 2 _ rfl
     have y3 := HX8.out.c 3 _ rfl
     have y4 := HX8.out.c 4 _ rfl
     have ly := HX8.out.lt
     cases hlf : Fm.leafB c with
     | false =>
      have hj := HMC.out.lf hlf
      have hjd : decide (0 ≤ c.joint) = true := decide_eq_true hj
      rw [cellT_split hlf] at HT2 HLN
      have h2b : Below w3.heap.size w3 (w3.alloc (.cells #[.int .i64 c.joint, .int .i64 c.low, .int .i64 c.high] 2)) := (Below.refl _ _).alloc (Nat.le_refl _) _
      have h2N := Sl.new w3 [c.joint, c.low, c.high] 2
      rw [hsz3] at h2N
      have hB4 := below_call HB3.out h2b
      have HCL := Lib.hid (line28 _ Fm.kwSplit _ 3 [c.joint, c.low, c.high] h2N (mk_split64 HMC.out) (by have := HLN.out; omega) (tab_size HT.out hB4))
      have hcat := cat HLN.out
      have HX4 := Lib.hid (HX3.out.keep h2b)
      have HB4 := Lib.hid hB4
      generalize Fm.lineT Fm.kwSplit [c.joint, c.low, c.high] = c1 at HCL hcat HT2
      clear h2b h2N hB4 HX3 HB3 HLN
      go_wp2_with fail
      refine HCL.out.mono ?_
      clear HCL
      rintro e W6 ⟨rfl, hb⟩
      have HB6 := Lib.hid (below_call HB4.out hb)
      have HX6 := Lib.hid (HX4.out.keep hb)
      clear hb HB4 HX4 y0 y1 y2 y3 y4 ly
      go_wp2_with fail
      go_roundw
      case rel => exact ⟨k + 1, by omega, by simp, by rw [HT2.out], HB6.out, HX6.out⟩
      case measure => simp [intOf]; omega
     | true =>
      have hnn : c.verd.normals.length ≤ 1048576 := by have := HMC.out.v.nn; omega
      have hj : c.joint = -1 := by have := of_decide_eq_true hlf; exact this.1
      have hjd : decide (0 ≤ c.joint) = false := decide_eq_false (by omega)
      have h2b : Below w3.heap.size w3 (w3.alloc (.cells #[.int .i64 c.verd.kind, .int .i64 (c.verd.normals.length : Nat)] 2)) := (Below.refl _ _).alloc (Nat.le_refl _) _
      have h2N := Sl.new w3 [c.verd.kind, ((c.verd.normals.length : Nat) : Int)] 2
      rw [hsz3] at h2N
      have hB4 := below_call HB3.out h2b
      have hpre : (Fm.lineT Fm.kwLeaf [c.verd.kind, ((c.verd.normals.length : Nat) : Int)]).length + (flT normT c.verd.normals).length ≤ (Fm.cellT c).length := by
       by_cases hk2 : c.verd.kind = 2
       ·rw [cellT_two hlf hk2]; simp only [List.length_append]; omega
       ·rw [cellT_one hlf hk2]; simp only [List.length_append]; omega
      have HPRE := Lib.hid hpre
      have HCL := Lib.hid (line28 _ Fm.kwLeaf _ 2 [c.verd.kind, ((c.verd.normals.length : Nat) : Int)] h2N (mk_leaf64 HMC.out) (by have := HLN.out; omega) (tab_size HT.out hB4))
      have hcat := cat (a := t1) (c := Fm.lineT Fm.kwLeaf [c.verd.kind, ((c.verd.normals.length : Nat) : Int)]) (by have := HLN.out; omega)
      have HX4 := Lib.hid (HX3.out.keep h2b)
      have HX84 := Lib.hid (HX8.out.keep h2b)
      have HB4 := Lib.hid hB4
      have HS4 := Lib.hid (show VerdAt _ c.verd on ol orr from ⟨HS.out.1.keep h2b, HS.out.2.1.keep h2b, HS.out.2.2.keep h2b⟩)
      generalize hc1 : Fm.lineT Fm.kwLeaf [c.verd.kind, ((c.verd.normals.length : Nat) : Int)] = c1 at HCL hcat HPRE
      have HC1 := Lib.hid hc1
      clear h2b h2N hB4 HX3 HB3 HX8 HS hpre hc1 hj
      go_wp2_with fail
      refine HCL.out.mono ?_
      clear HCL
      rintro e W6 ⟨rfl, hb⟩
      have HB6 := Lib.hid (below_call HB4.out hb)
      have HX6 := Lib.hid (HX4.out.keep hb)
      have HX86 := Lib.hid (HX84.out.keep hb)
      have HS6 := Lib.hid (show VerdAt _ c.verd on ol orr from ⟨HS4.out.1.keep hb, HS4.out.2.1.keep hb, HS4.out.2.2.keep hb⟩)
      clear hb HB4 HX4 HX84 HS4 y0 y1 y2 y3 y4 ly hjd
      go_wp2_with fail
      clear hcat
      obtain ⟨t2, ht2⟩ : ∃ t2, t2 = t1 ++ c1 := ⟨_, rfl⟩
      rw [← ht2]
      have HLN2 : Hid (t2.length + (flT normT c.verd.normals).length ≤ 1048576) := Lib.hid (by have := HLN.out; have := HPRE.out; rw [ht2, List.length_append]; omega)
      have HTE2 := Lib.hid ht2
      clear ht2
      go_loopw [4, 9] (fun s i W => ∃ j : Nat, j ≤ c.verd.normals.length ∧ i = .int .i64 (j : Nat) ∧ s = .string ⟨(t2 ++ flT normT (c.verd.normals.take j)).toArray⟩ ∧ Below W6.heap.size W6 W) (fun _ i _ => c.verd.normals.length - (intOf i).toNat)
      case atStart => exact ⟨0, Nat.zero_le _, rfl, by rw [List.take_zero, show flT normT [] = [] from rfl, List.append_nil], Below.refl _ _⟩
      case round =>
       obtain ⟨j, hj, rfl, rfl, hB7⟩ := hrel
       have hx8 := HX86.out.keep hB7
       have y4 := hx8.c 4 _ rfl
       have y3 := hx8.c 3 _ rfl
       have ly := hx8.lt
       by_cases hltj : j < c.verd.normals.length
       ·obtain ⟨v, hv⟩ : ∃ v, c.verd.normals[j]? = some v := ⟨_, List.getElem?_eq_getElem hltj⟩
        obtain ⟨g4, off4, hon4, glt4, x0, x1, x2⟩ := vec_get (HS6.out.1.keep hB7) hv
        subst hon4
        have hvr := HMC.out.v.rn v (List.mem_of_getElem? hv)
        have hlen : (t2 ++ flT normT (c.verd.normals.take j)).length + (normT v).length ≤ 1048576 := by
         have h1 := HLN2.out
         have h2 := flT_le normT c.verd.normals (j + 1)
         rw [flT_take hv] at h2
         simp only [List.length_append] at h2 ⊢
         omega
        have HT5 : Hid (t2 ++ flT normT (c.verd.normals.take (j + 1)) = (t2 ++ flT normT (c.verd.normals.take j)) ++ normT v) := Lib.hid (by rw [flT_take hv, List.append_assoc])
        have HCN := Lib.hid (normal43 wr v hvr (by omega) (tab_size HT.out (below_call HB6.out hB7)))
        have hcat := cat hlen
        generalize t2 ++ flT normT (c.verd.normals.take j) = t5 at hcat HT5 ⊢
        generalize normT v = c2 at hcat HT5 HCN
        have HB7 := Lib.hid hB7
        clear hlen hv hvr hB7 hx8
        go_wp2_with fail
        refine HCN.out.mono ?_
        clear HCN
        rintro e W7 ⟨rfl, hb⟩
        have HB8 := Lib.hid (below_call HB7.out hb)
        clear hb HB7 y4 y3 ly x0 x1 x2 glt4
        go_wp2_with fail
        go_roundw
        case rel => exact ⟨j + 1, by omega, by simp, by rw [HT5.out], HB8.out⟩
        case measure => simp [intOf]; omega
       ·have hke : j = c.verd.normals.length := by omega
        subst hke
        rw [List.take_length]
        have HB7 := Lib.hid (below_call HB6.out hB7)
        have HX87 := Lib.hid hx8
        have HX7 := Lib.hid (HX6.out.keep hB7)
        have HS7 := Lib.hid (show VerdAt _ c.verd on ol orr from ⟨HS6.out.1.keep hB7, HS6.out.2.1.keep hB7, HS6.out.2.2.keep hB7⟩)
        clear hB7 hx8 HB6 HX86 HX6 HS6
        by_cases hk2 : c.verd.kind = 2
        ·have hkd : (c.verd.kind == 2) = true := by rw [hk2]; rfl
         have hkd2 : decide (c.verd.kind = 2) = true := decide_eq_true hk2
         rw [cellT_two hlf hk2] at HT2 HLN
         have hkk := HX87.out.c 3 _ rfl
         have y5 := HX87.out.c 5 _ rfl
         have y6 := HX87.out.c 6 _ rfl
         have y7 := HX87.out.c 7 _ rfl
         obtain ⟨x, hx⟩ : ∃ x, c.verd.left = [x] := List.length_eq_one_iff.1 (HMC.out.v.kd hk2).1
         obtain ⟨y, hy⟩ : ∃ y, c.verd.right = [y] := List.length_eq_one_iff.1 (HMC.out.v.kd hk2).2
         have HLL := Lib.hid (HMC.out.v.kd hk2)
         have hsl := HS7.out.2.1
         have hsr := HS7.out.2.2
         rw [hx] at hsl
         rw [hy] at hsr
         obtain ⟨bl, offl, hol, hrl2⟩ := hsl (by simp [pvals])
         obtain ⟨br, offr, hor, hrr2⟩ := hsr (by simp [pvals])
         subst hol hor
         have HWL : Hid (Fm.witL c.verd = [c.verd.pair, 1, x, 1, y]) := Lib.hid (by unfold Fm.witL; rw [hx, hy]; rfl)
         have HRR := Lib.hid hrr2
         have hbl := hrl2.lt
         obtain ⟨i0, hi0, hz0, hz1, hz2⟩ := info_parts info2
         have hb10 : Below wr.heap.size wr (wr.alloc (.cells #[.int .i64 c.verd.pair, .slice (some ⟨bl, offl, none⟩) c.verd.left.length cl, .slice (some ⟨br, offr, none⟩) c.verd.right.length crr] 81)) := (Below.refl _ _).alloc (Nat.le_refl _) _
         have HX10 := Lib.hid (Bx.new wr [.int .i64 c.verd.pair, .slice (some ⟨bl, offl, none⟩) c.verd.left.length cl, .slice (some ⟨br, offr, none⟩) c.verd.right.length crr] 81)
         have HB10 := Lib.hid hb10
         have hsz10 : (wr.alloc (.cells #[.int .i64 c.verd.pair, .slice (some ⟨bl, offl, none⟩) c.verd.left.length cl, .slice (some ⟨br, offr, none⟩) c.verd.right.length crr] 81)).heap.size = wr.heap.size + 1 := by simp
         have HRL := Lib.hid (hrl2)
         clear hsl hsr hrl2 hrr2 hb10 hx hy
         go_upto_region 23 with fail
         obtain ⟨n10, hn10⟩ : ∃ n, n = wr.heap.size := ⟨_, rfl⟩
         rw [← hn10] at HX10 hsz10 ⊢
         generalize wr.alloc (.cells #[.int .i64 c.verd.pair, .slice (some ⟨bl, offl, none⟩) c.verd.left.length cl, .slice (some ⟨br, offr, none⟩) c.verd.right.length crr] 81) = w8 at HX10 HB10 hsz10 ⊢
         obtain ⟨B, hB⟩ : ∃ B, B = w8.heap.size := ⟨_, rfl⟩
         have hn10B : n10 < B := by omega
         have hblB : bl < B := by omega
         have hB1 : B ≤ w8.heap.size := by omega
         have HBB := Lib.hid hB
         clear hB
         have HN10 := Lib.hid hn10
         rw [HLL.out.1] at HX10
         rw [HLL.out.2] at HX10
         clear hsz10 hn10 hkk y3 y4 y5 y6 y7 ly
         have d0 := HX10.out.c 0 _ rfl
         have d1 := HX10.out.c 1 _ rfl
         have d2 := HX10.out.c 2 _ rfl
         have ld := HX10.out.lt
         have hown9 : (w8.alloc (.cells #[.int .i64 c.verd.pair, .int .i64 1] 2)).ownsRow B 2 1 (.slice (some ⟨w8.heap.size, 0, none⟩) 2 2) 2 (pflat [c.verd.pair, 1]) := own_built (heap_alloc_new w8 _) (by omega) rfl (by unfold maxLen; omega)
         have hb9 : Below B w8 (w8.alloc (.cells #[.int .i64 c.verd.pair, .int .i64 1] 2)) := (Below.refl _ _).alloc (by omega) _
         have hz9 := hb9.size
         have HAL := Lib.hid (ints_news (l := [x]) ((HRL.out.keep HB10.out).keep (show Below w8.heap.size w8 (w8.alloc (.cells #[.int .i64 c.verd.pair, .int .i64 1] 2)) by rw [← HBB.out]; exact hb9)))
         go_wp2_with (at_builtin; go_loud (refine wpList_append_lies _ rfl _ _ 68 rfl B 2 i0 (.int .i64 0) 1 8 under42 hi0 hz0 hz1 hz2 rfl (by decide) _ 2 (pflat [c.verd.pair, 1]) rfl hown9 ⟨bl, offl, none⟩ 1 cl (pflat [x]) rfl ?c1 ?c2 ?c3 ?c4 ?c5 ?c6 ?c7 _ rfl ?_))
         case c1 => rfl
         case c2 => exact HAL.out
         case c3 => exact pflat_cell [x]
         case c4 => decide
         case c5 => unfold maxLen; omega
         case c6 => omega
         case c7 => omega
         intro g1 c11 w10 hown10 hgrow hat1 hlt1
         clear hat1
         have HOA := Lib.hid (show w10.ownsRow B 2 1 (.slice (some ⟨g1, 0, none⟩) 3 c11) 3 (pflat [c.verd.pair, 1, x]) from hown10)
         have hbA := hb9.trans (grown_below hown9 hgrow (by omega))
         have HBA := Lib.hid hbA
         have hzA := hbA.size
         clear hown9 hb9 hz9 hown10 hgrow hlt1 d0 d1 d2 ld HAL
         have HXK : Hid (∀ X, Below B w8 X → X.cell? ⟨n10, 2, none⟩ = some (.slice (some ⟨br, offr, none⟩) 1 crr) ∧ n10 < X.heap.size ∧ RowsAt X br offr 1 (pvals [y])) := Lib.hid (fun X hX => by
          have hx := HX10.out.low hX hn10B
          have hr := (HRR.out.keep HB10.out).keep (show Below w8.heap.size w8 X by rw [← HBB.out]; exact hX)
          exact ⟨hx.c 2 _ rfl, hx.lt, hr⟩)
         go_upto_region 24 with fail
         obtain ⟨p, hp0⟩ : ∃ p, c.verd.pair = p := ⟨_, rfl⟩
         obtain ⟨k0, hk0⟩ : ∃ q, q = k := ⟨_, rfl⟩
         subst hk0
         rw [hp0] at HOA
         have HP0 := Lib.hid hp0
         clear hp0
         refine wp_region_inv2 (by kernel_rfl) (by kernel_rfl) (fun L a w => ∃ v118 v119 v120 v121 v122 v123 v124 v125 v126 v11 : Value, a = { tmps := #[((Value.agg #[Value.slice or t.root.length cr, Value.slice (some ⟨gc, off, none⟩) t.cells.length cc])), ((Value.pointer (some ⟨n1, 0, none⟩))), ((Value.string { data := #[] })), ((Value.int IntKind.i64 0)), ((Value.string { data := (t2 ++ flT normT c.verd.normals).toArray })), ((Value.slice oa rs.length cp)), ((Value.int IntKind.i64 ((t.root.length : Nat) : Int))), ((Value.int IntKind.i64 ((k0 : Nat) : Int))), ((Value.pointer (some ⟨n8, 0, none⟩))), ((Value.int IntKind.i64 ((c.verd.normals.length : Nat) : Int))), ((Value.pointer (some ⟨n10, 0, none⟩))), v11, ((Value.agg #[Value.slice or t.root.length cr, Value.slice (some ⟨gc, off, none⟩) t.cells.length cc])), ((Value.bool true)), ((Value.bool false)), ((Value.pointer (some ⟨n1, 0, none⟩))), ((Value.slice or t.root.length cr)), ((Value.int IntKind.i64 ((t.root.length : Nat) : Int))), ((Value.pointer (some ⟨n1, 1, none⟩))), ((Value.slice (some ⟨gc, off, none⟩) t.cells.length cc)), ((Value.int IntKind.i64 ((t.cells.length : Nat) : Int))), ((Value.slice (some ⟨W2.heap.size, 0, none⟩) 2 2)), ((Value.string { data := l1.toArray })), ((Value.int IntKind.i64 ((t.root.length : Nat) : Int))), ((Value.pointer (some ⟨n1, 0, none⟩))), ((Value.slice or t.root.length cr)), ((Value.int IntKind.i64 ((t.root.length : Nat) : Int))), ((Value.bool false)), u28, u29, u30, u31, u32, u33, u34, u35, u36, u37, u38, u39, u40, u41, u42, u43, u44, ((Value.string { data := l1.toArray })), ((Value.slice oa rs.length cp)), ((Value.string { data := l2.toArray })), ((Value.string { data := t0.toArray })), ((Value.int IntKind.i64 ((k0 : Nat) : Int))), ((Value.pointer (some ⟨n1, 1, none⟩))), ((Value.slice (some ⟨gc, off, none⟩) t.cells.length cc)), ((Value.int IntKind.i64 ((t.cells.length : Nat) : Int))), ((Value.bool true)), u54, u55, ((Value.pointer (some ⟨n1, 1, none⟩))), ((Value.slice (some ⟨gc, off, none⟩) t.cells.length cc)), ((Value.int IntKind.i64 ((k0 : Nat) : Int))), ((Value.pointer (some ⟨gc, off + k0 * 8, none⟩))), ((Value.agg #[Value.int IntKind.i64 c.joint, Value.int IntKind.i64 c.low, Value.int IntKind.i64 c.high, Value.int IntKind.i64 2, Value.slice on c.verd.normals.length cn, Value.int IntKind.i64 c.verd.pair, Value.slice (some ⟨bl, offl, none⟩) c.verd.left.length cl, Value.slice (some ⟨br, offr, none⟩) c.verd.right.length crr])), ((Value.pointer (some ⟨n8, 0, none⟩))), ((Value.int IntKind.i64 c.joint)), ((Value.bool false)), u64, u65, u66, u67, u68, u69, u70, u71, u72, u73, ((Value.string { data := t1.toArray })), ((Value.pointer (some ⟨n8, 3, none⟩))), ((Value.pointer (some ⟨n8, 3, none⟩))), ((Value.int IntKind.i64 2)), ((Value.pointer (some ⟨n8, 3, none⟩))), ((Value.pointer (some ⟨n8, 4, none⟩))), ((Value.slice on c.verd.normals.length cn)), ((Value.int IntKind.i64 ((c.verd.normals.length : Nat) : Int))), ((Value.slice (some ⟨n8 + 1, 0, none⟩) 2 2)), ((Value.string { data := c1.toArray })), ((Value.string { data := t2.toArray })), ((Value.int IntKind.i64 ((c.verd.normals.length : Nat) : Int))), ((Value.pointer (some ⟨n8, 3, none⟩))), ((Value.pointer (some ⟨n8, 4, none⟩))), ((Value.slice on c.verd.normals.length cn)), ((Value.int IntKind.i64 ((c.verd.normals.length : Nat) : Int))), ((Value.bool false)), u91, u92, u93, u94, u95, u96, u97, u98, u99, u100, u101, ((Value.pointer (some ⟨n8, 3, none⟩))), ((Value.pointer (some ⟨n8, 3, none⟩))), ((Value.int IntKind.i64 2)), ((Value.bool true)), ((Value.pointer (some ⟨n8, 3, none⟩))), ((Value.pointer (some ⟨n8, 5, none⟩))), ((Value.agg #[Value.int IntKind.i64 c.verd.pair, Value.slice (some ⟨bl, offl, none⟩) c.verd.left.length cl, Value.slice (some ⟨br, offr, none⟩) c.verd.right.length crr])), ((Value.pointer (some ⟨n10, 0, none⟩))), ((Value.int IntKind.i64 c.verd.pair)), ((Value.pointer (some ⟨n10, 1, none⟩))), ((Value.slice (some ⟨bl, offl, none⟩) 1 cl)), ((Value.int IntKind.i64 1)), ((Value.slice (some ⟨w8.heap.size, 0, none⟩) 2 2)), ((Value.pointer (some ⟨n10, 1, none⟩))), ((Value.slice (some ⟨bl, offl, none⟩) 1 cl)), ((Value.slice (some ⟨g1, 0, none⟩) 3 c11)), v118, v119, v120, v121, v122, v123, v124, v125, v126, u127, u128, u129, u130, undef, undef, undef, undef], defers := [] } ∧ Rf24K B n10 g1 c11 br offr crr p x y w8 L v118 v119 v120 v121 v122 v123 v124 v125 v126 v11 w) ?_ ?_ ?_
         ·exact ⟨_, _, _, _, _, _, _, _, _, _, rfl, ⟨⟨fun _ => rfl, HBA.out.drew, fun _ => own_keep HOA.out (Below.refl _ _).drew, by have := (HBA.out.drew).size; omega⟩, nofun, nofun, nofun, nofun, nofun, nofun, nofun, nofun, nofun, nofun⟩⟩
         ·intro iq oq ho L a w hL hd hJ
          obtain ⟨v118, v119, v120, v121, v122, v123, v124, v125, v126, v11, rfl, k⟩ := hJ
          have hiq : iq < 10 := by have := (Array.getElem?_eq_some_iff.1 ho).1; simpa using this
          match iq, hiq, ho, hL with
          | 0, _, ho, hL =>
           have ho2 := ho
           simp only [qz1, qz2, qz3, qz4] at ho
           subst ho
           refine wpOp_step ho2 (fun K hK => ?_)
           have h9 : L 9 = false := by
            cases h : L 9 with
            | false => rfl
            | true => exact absurd (hL.symm.trans (k.f9 h).1) (by decide)
           obtain rfl := k.wf.1 h9
           go_simp
           exact hK _ _ ⟨_, _, _, _, _, _, _, _, _, _, rfl, ⟨k.wf, fun _ => rfl, k.f1, k.f2, k.f3, k.f4, k.f5, k.f6, k.f7, k.f8, fun h => absurd (hL.symm.trans (k.f9 h).1) (by decide)⟩⟩
          | 1, _, ho, hL =>
           have ho2 := ho
           simp only [qz1, qz2, qz3, qz4] at ho
           subst ho
           refine wpOp_step ho2 (fun K hK => ?_)
           go_simp
           exact hK _ _ ⟨_, _, _, _, _, _, _, _, _, _, rfl, ⟨k.wf, k.f0, fun _ => rfl, k.f2, k.f3, k.f4, k.f5, k.f6, k.f7, k.f8, k.f9⟩⟩
          | 2, _, ho, hL =>
           have ho2 := ho
           simp only [qz1, qz2, qz3, qz4] at ho
           subst ho
           refine wpOp_step ho2 (fun K hK => ?_)
           obtain rfl := k.f1 (hd ⟨1, .data⟩ (by simp) rfl)
           have hx := HXK.out w k.wf.2.1
           have d2 := hx.1
           have ld := hx.2.1
           go_simp
           exact hK _ _ ⟨_, _, _, _, _, _, _, _, _, _, rfl, ⟨k.wf, k.f0, k.f1, fun _ => rfl, k.f3, k.f4, k.f5, k.f6, k.f7, k.f8, k.f9⟩⟩
          | 3, _, ho, hL =>
           have ho2 := ho
           simp only [qz1, qz2, qz3, qz4] at ho
           subst ho
           refine wpOp_step ho2 (fun K hK => ?_)
           obtain rfl := k.f2 (hd ⟨2, .data⟩ (by simp) rfl)
           go_simp
           exact hK _ _ ⟨_, _, _, _, _, _, _, _, _, _, rfl, ⟨k.wf, k.f0, k.f1, k.f2, fun _ => rfl, k.f4, k.f5, k.f6, k.f7, k.f8, k.f9⟩⟩
          | 4, _, ho, hL =>
           have ho2 := ho
           simp only [qz1, qz2, qz3, qz4] at ho
           subst ho
           refine wpOp_step ho2 (fun K hK => ?_)
           obtain rfl := k.f3 (hd ⟨3, .data⟩ (by simp) rfl)
           have hb : Below w.heap.size w (w.alloc (.cells #[.int .i64 1] 2)) := (Below.refl _ _).alloc (Nat.le_refl _) _
           have hbx := Bx.new w [.int .i64 1] 2
           have hz := k.wf.2.2.2
           go_simp
           exact hK _ _ ⟨_, _, _, _, _, _, _, _, _, _, rfl, ⟨⟨k.wf.1, k.wf.2.1.trans (hb.mono hz), fun h => own_keep (k.wf.2.2.1 h) hb, Nat.le_trans hz hb.size⟩, k.f0, k.f1, k.f2, k.f3, fun _ => ⟨w.heap.size, rfl, fun _ => hbx⟩, fun h => absurd (hL.symm.trans (k.f5 h).1) (by decide), k.f6, k.f7, fun h => absurd (hL.symm.trans (k.f5 (k.f8 h).1).1) (by decide), fun h => absurd (hL.symm.trans (k.f5 (k.f8 (k.f9 h).2.1).1).1) (by decide)⟩⟩
          | 5, _, ho, hL =>
           have ho2 := ho
           simp only [qz1, qz2, qz3, qz4] at ho
           subst ho
           refine wpOp_step ho2 (fun K hK => ?_)
           obtain rfl := k.f0 (hd ⟨0, .data⟩ (by simp) rfl)
           obtain ⟨q, rfl, hq⟩ := k.f4 (hd ⟨4, .data⟩ (by simp) rfl)
           have h4 := hd ⟨4, .data⟩ (by simp) rfl
           have hbx := hq hL
           have hz := k.wf.2.2.2
           have hown := k.wf.2.2.1 hL
           refine step_append_lies _ rfl (.tmp 118) (.tmp 122) 68 rfl B 2 i0 (.int .i64 0) 1 8 under42 hi0 hz0 hz1 hz2 rfl (by decide) _ 3 (pflat [p, 1, x]) (by simp [Act.eval]) hown ⟨q, 0, none⟩ 1 1 [.int .i64 1] (by simp [Act.eval]) rfl (World.news_of_block hbx.h) (by intro u hu; simp at hu; subst hu; rfl) (by decide) (by unfold maxLen; omega) (by omega) hz _ rfl ?_
           intro gN cN X hown2 hgrow hat hltN
           have hbX := grown_below hown hgrow hz
           exact hK _ _ ⟨_, _, _, _, _, _, _, _, _, _, rfl, ⟨⟨k.wf.1, k.wf.2.1.trans hbX, nofun, Nat.le_trans hz hgrow.size⟩, k.f0, k.f1, k.f2, k.f3, fun _ => ⟨q, rfl, nofun⟩, fun _ => ⟨h4, gN, cN, rfl, fun _ => hown2⟩, k.f6, k.f7, fun h => absurd (hL.symm.trans (k.f8 h).1) (by decide), fun h => absurd (hL.symm.trans (k.f8 (k.f9 h).2.1).1) (by decide)⟩⟩
          | 6, _, ho, hL =>
           have ho2 := ho
           simp only [qz1, qz2, qz3, qz4] at ho
           subst ho
           refine wpOp_step ho2 (fun K hK => ?_)
           go_simp
           exact hK _ _ ⟨_, _, _, _, _, _, _, _, _, _, rfl, ⟨k.wf, k.f0, k.f1, k.f2, k.f3, k.f4, k.f5, fun _ => rfl, k.f7, k.f8, k.f9⟩⟩
          | 7, _, ho, hL =>
           have ho2 := ho
           simp only [qz1, qz2, qz3, qz4] at ho
           subst ho
           refine wpOp_step ho2 (fun K hK => ?_)
           obtain rfl := k.f6 (hd ⟨6, .data⟩ (by simp) rfl)
           have hx := HXK.out w k.wf.2.1
           have d2 := hx.1
           have ld := hx.2.1
           go_simp
           exact hK _ _ ⟨_, _, _, _, _, _, _, _, _, _, rfl, ⟨k.wf, k.f0, k.f1, k.f2, k.f3, k.f4, k.f5, k.f6, fun _ => rfl, k.f8, k.f9⟩⟩
          | 8, _, ho, hL =>
           have ho2 := ho
           simp only [qz1, qz2, qz3, qz4] at ho
           subst ho
           refine wpOp_step ho2 (fun K hK => ?_)
           obtain ⟨h4, g5, c5, rfl, ho5⟩ := k.f5 (hd ⟨5, .data⟩ (by simp) rfl)
           obtain rfl := k.f7 (hd ⟨7, .data⟩ (by simp) rfl)
           have h5 := hd ⟨5, .data⟩ (by simp) rfl
           have hown := ho5 hL
           have hz := k.wf.2.2.2
           have hrr := (HXK.out w k.wf.2.1).2.2
           refine step_append_lies _ rfl (.tmp 123) (.tmp 125) 68 rfl B 2 i0 (.int .i64 0) 1 8 under42 hi0 hz0 hz1 hz2 rfl (by decide) _ 4 (pflat [p, 1, x, 1]) (by simp [Act.eval]) hown ⟨br, offr, none⟩ 1 crr (pflat [y]) (by simp [Act.eval]) rfl (ints_news hrr) (pflat_cell [y]) (by decide) (by unfold maxLen; omega) (by omega) hz _ rfl ?_
           intro gN cN X hown2 hgrow hat hltN
           have hbX := grown_below hown hgrow hz
           exact hK _ _ ⟨_, _, _, _, _, _, _, _, _, _, rfl, ⟨⟨k.wf.1, k.wf.2.1.trans hbX, fun h => absurd (h5.symm.trans h) (by decide), Nat.le_trans hz hgrow.size⟩, k.f0, k.f1, k.f2, k.f3, fun h => (k.f4 h).imp fun q h => ⟨h.1, fun e => absurd (h5.symm.trans e) (by decide)⟩, fun _ => ⟨h4, g5, c5, rfl, nofun⟩, k.f6, k.f7, fun _ => ⟨h5, gN, cN, rfl, hown2⟩, fun h => absurd (hL.symm.trans (k.f9 h).2.1) (by decide)⟩⟩
          | 9, _, ho, hL =>
           have ho2 := ho
           simp only [qz1, qz2, qz3, qz4] at ho
           subst ho
           refine wpOp_step ho2 (fun K hK => ?_)
           obtain ⟨h5, g8, c8, rfl, ho8⟩ := k.f8 (hd ⟨8, .data⟩ (by simp) rfl)
           have h0 := hd ⟨0, .phase⟩ (by simp) rfl
           have h8 := hd ⟨8, .data⟩ (by simp) rfl
           go_simp
           exact hK _ _ ⟨_, _, _, _, _, _, _, _, _, _, rfl, ⟨⟨nofun, k.wf.2⟩, k.f0, k.f1, k.f2, k.f3, k.f4, k.f5, k.f6, k.f7, k.f8, fun _ => ⟨h0, h8, rfl⟩⟩⟩
          | n + 10, h, _, _ => omega
         ·intro L a w hL hJ
          obtain ⟨v118, v119, v120, v121, v122, v123, v124, v125, v126, v11, rfl, k⟩ := hJ
          obtain rfl := k.f1 (hL 1 (by decide))
          obtain rfl := k.f2 (hL 2 (by decide))
          obtain rfl := k.f3 (hL 3 (by decide))
          obtain rfl := k.f6 (hL 6 (by decide))
          obtain rfl := k.f7 (hL 7 (by decide))
          obtain ⟨-, h8, rfl⟩ := k.f9 (hL 9 (by decide))
          obtain ⟨-, g8, c8, rfl, ho8⟩ := k.f8 h8
          obtain rfl := k.f0 (hL 0 (by decide))
          obtain ⟨q4, rfl, -⟩ := k.f4 (hL 4 (by decide))
          obtain ⟨-, q5, e5, rfl, -⟩ := k.f5 (hL 5 (by decide))
          have hwf := k.wf
          have HOW := Lib.hid ho8
          have hb8w : Below w8.heap.size w8 w := by rw [← HBB.out]; exact hwf.2.1
          have HBF := Lib.hid (below_call HB7.out (below_call HB10.out hb8w))
          have HXF := Lib.hid ((HX7.out.keep HB10.out).keep hb8w)
          rw [HP0.out] at HWL
          have h64 := mk_wit64 HMC.out.v
          rw [HWL.out] at h64 HT2 HLN
          have HCL := Lib.hid (line28_own (ns := [p, 1, x, 1, y]) Fm.kwWitness HT.out HBF.out HOW.out rfl h64 (by have := HLN.out; simp only [List.length_append] at this; omega))
          rw [HC1.out] at HT2 HLN
          have HT9 : Hid (t0 ++ flT Fm.cellT (List.take (k0 + 1) t.cells) = (t2 ++ flT normT c.verd.normals) ++ Fm.lineT Fm.kwWitness [p, 1, x, 1, y]) := Lib.hid (by rw [HT2.out, HTE2.out]; simp only [List.append_assoc])
          have hcat := cat (a := t2 ++ flT normT c.verd.normals) (c := Fm.lineT Fm.kwWitness [p, 1, x, 1, y]) (by have := HLN.out; rw [HTE2.out]; simp only [List.length_append] at this ⊢; omega)
          generalize t2 ++ flT normT c.verd.normals = t9 at hcat HT9 ⊢
          generalize Fm.lineT Fm.kwWitness [p, 1, x, 1, y] = l9 at hcat HT9 HCL
          clear k hL ho8 hwf hb8w h64
          go_wp2_with fail
          refine HCL.out.mono ?_
          clear HCL
          rintro e W12 ⟨rfl, hb⟩
          have HBG := Lib.hid (below_call HBF.out hb)
          have HXG := Lib.hid (HXF.out.keep hb)
          clear hb
          go_wp2_with fail
          go_roundw
          case rel => exact ⟨k0 + 1, by omega, by simp, by rw [HT9.out], HBG.out, HXG.out⟩
          case measure => simp [intOf]; omega
        ·have hkd : (c.verd.kind == 2) = false := by simpa using hk2
         have hkd2 : decide (c.verd.kind = 2) = false := decide_eq_false hk2
         rw [cellT_one hlf hk2, HC1.out, ← List.append_assoc, ← HTE2.out] at HT2
         go_wp2_with fail
         go_roundw
         case rel => exact ⟨k + 1, by omega, by simp, by rw [HT2.out], HB7.out, HX7.out⟩
         case measure => simp [intOf]; omega
    ·have hke : k = t.cells.length := by omega
     subst hke
     rw [List.take_length, ← HTT.out]
     have hd : decide ((t.cells.length : Int) < (t.cells.length : Int)) = false := by simp
     have hd2 : decide (t.cells.length < t.cells.length) = false := by simp
     have HB := Lib.hid hB
     clear hB hX
     go_wp2_with fail
     refine (HDW.out _).mono ?_
     rintro e W9 ⟨rfl, hw9⟩
     subst hw9
     unfold fmtV
     go_wp2
     go_ret2
     exact ⟨rfl, HB.out⟩
end Go.Proofs.Ng
