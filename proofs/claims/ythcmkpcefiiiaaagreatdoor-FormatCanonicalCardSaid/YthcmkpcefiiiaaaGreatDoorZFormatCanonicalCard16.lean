/-
  Texts put together: Tl Tm.
-/
import Derived.Test.YthcmkpcefiiiaaaGreatDoorZFormatCanonicalCard15
set_option linter.unusedVariables false
section
/-
 Walks: a leaf is split. Printed by gen_tl.py.
-/
namespace Go.Proofs.Ng
open Go.RowKit
structure Cr8K (w5 : World) (or : Option Addr) (n3 J cr gc oc N cc : Nat) (rows : List (List Value)) (L : Nat → Bool) (v64 v65 v66 v67 v68 v69 v14 : Value) (w : World) : Prop where
 wf : Below w5.heap.size w5 w
 f0 : L 0 = true → v64 = .pointer (some ⟨n3, 0, none⟩)
 f1 : L 1 = true → v65 = .slice or J cr
 f2 : L 2 = true → v66 = .pointer (some ⟨n3, 1, none⟩)
 f3 : L 3 = true → v67 = .slice (some ⟨gc, oc, none⟩) N cc
 f4 : L 4 = true → L 7 = false → ∃ g cap, v68 = .slice (some ⟨g, 0, none⟩) N cap ∧ w.ownsRow w5.heap.size 85 8 (.slice (some ⟨g, 0, none⟩) N cap) N rows.flatten
 f5 : L 5 = true → L 4 = true ∧ v69 = .agg #[.slice or J cr, v68]
 f6 : L 6 = true → L 7 = false → ∃ n, v14 = .pointer (some ⟨n, 0, none⟩) ∧ Bx w n [.slice none 0 0, .slice none 0 0] 36 ∧ w5.heap.size ≤ n
 f7 : L 7 = true → L 4 = true ∧ L 5 = true ∧ L 6 = true ∧ ∃ n g cap, v14 = .pointer (some ⟨n, 0, none⟩) ∧ v68 = .slice (some ⟨g, 0, none⟩) N cap ∧ Bx w n [.slice or J cr, .slice (some ⟨g, 0, none⟩) N cap] 36 ∧ w.ownsRow w5.heap.size 85 8 (.slice (some ⟨g, 0, none⟩) N cap) N rows.flatten ∧ w5.heap.size ≤ n
/-- The row of a node that has been split. -/
def nodeR (j : Int) (N : Nat) : List Value := [.int .i64 j, .int .i64 (N : Nat), .int .i64 ((N : Nat) + 1), .int .i64 0, .slice none 0 0, .int .i64 0, .slice none 0 0, .slice none 0 0]
theorem nodeR_at (X : World) (j : Int) (N : Nat) : CellAt X (nodeR j N) ⟨j, (N : Nat), (N : Nat) + 1, Fm.zeroV⟩ :=
 ⟨none, none, none, 0, 0, 0, rfl, fun h => absurd rfl h, fun h => absurd rfl h, fun h => absurd rfl h⟩
theorem wid_split {rows : List (List Value)} {i N : Nat} {j : Int} {r : List Value} (h : ∀ q ∈ rows, q.length = 8) (hr : rows[i]? = some r) : ∀ q ∈ rows.set i (nodeR j N) ++ [r, r], q.length = 8 := by
 intro q hq
 rw [List.mem_append] at hq
 rcases hq with hq | hq
 ·rcases List.mem_or_eq_of_mem_set hq with hq | rfl
  ·exact h q hq
  ·rfl
 ·have := h r (List.mem_of_getElem? hr)
  simp at hq
  rw [hq]; exact this
structure LenIs (t : Fm.TreeD) (J N : Nat) : Prop where
 a : t.root.length = J
 b : t.cells.length = N
theorem ft_split {E : List Nat} {w0 X : World} {t : Fm.TreeD} {rows : List (List Value)} {i J cr c' g B : Nat} {j : Int} {or : Option Addr} {v : Value} {c : Fm.CellD} {r : List Value} (h : FT E w0 v t rows) (hro : Fp (Sx E w0) w0 (fun X => Sl X or 2 (ivs t.root))) (hJ : t.root.length = J) (hc : t.cells[i]? = some c) (hr : rows[i]? = some r) (hb : Below w0.heap.size w0 X) (hE : ∀ k ∈ E, k < w0.heap.size) (hB : w0.heap.size ≤ B)
  (own : X.ownsRow B 85 8 (.slice (some ⟨g, 0, none⟩) (t.cells.length + 2) c') (t.cells.length + 2) (rows.set i (nodeR j t.cells.length) ++ [r, r]).flatten) : FT E X (.agg #[.slice or J cr, .slice (some ⟨g, 0, none⟩) (t.cells.length + 2) c']) (Fm.splitT t i j) (rows.set i (nodeR j t.cells.length) ++ [r, r]) := by
 have hs : Fm.splitT t i j = ⟨t.root, t.cells.set i ⟨j, (t.cells.length : Nat), (t.cells.length : Nat) + 1, Fm.zeroV⟩ ++ [c, c]⟩ := by unfold Fm.splitT; rw [hc]
 have hlen := h.len
 have hi := (List.getElem?_eq_some_iff.1 hc).1
 rw [hs]
 refine ⟨⟨or, cr, some ⟨g, 0, none⟩, c', by rw [← hJ]; simp, hro.sxb hb, (own_sl8 own (wid_split h.wid hr) (by simp [hlen]) hB).sx hE⟩, by simp [hlen], wid_split h.wid hr, fun k q u hq hu => ?_⟩
 rcases Nat.lt_or_ge k rows.length with hk | hk
 ·rw [List.getElem?_append_left (by simpa using hk)] at hq
  rw [List.getElem?_append_left (by simpa [← hlen] using hk)] at hu
  by_cases e : i = k
  ·subst e
   rw [List.getElem?_set_self hk] at hq
   rw [List.getElem?_set_self hi] at hu
   injection hq with hq
   injection hu with hu
   subst hq hu
   exact fun Y _ => nodeR_at Y j _
  ·rw [List.getElem?_set_ne e] at hq hu
   exact (h.cell k q u hq hu).sxb hb
 ·rw [List.getElem?_append_right (by simpa using hk)] at hq
  rw [List.getElem?_append_right (by simpa [← hlen] using hk)] at hu
  have hq1 : q = r := by
   have := List.mem_of_getElem? hq
   simp at this; exact this
  have hu1 : u = c := by
   have := List.mem_of_getElem? hu
   simp at this; exact this
  subst hq1 hu1
  exact (h.cell i _ _ hr hc).sxb hb
theorem oth_bx {W X : World} {n g : Nat} {cs : List Value} {ty : TypeId} (h : Bx W n cs ty) (ho : ∀ k, k ≠ g → X.heap[k]? = W.heap[k]?) (hne : n ≠ g) : Bx X n cs ty := ⟨(ho n hne).trans h.h⟩
set_option maxRecDepth 100000 in
set_option maxHeartbeats 16000000 in
theorem split64 (E : List Nat) (w0 : World) (v : Value) (t : Fm.TreeD) (rows : List (List Value)) (i j : Nat) (c : Fm.CellD) (h : FT E w0 v t rows) (hE : ∀ k ∈ E, k < w0.heap.size) (hv : Fm.validT t = true) (hc : t.cells[i]? = some c) (hl : Fm.leafB c = true) (hm : t.cells.length ≤ 1000) :
  Calls Tryz.prog 64 #[v, .int .i64 (i : Nat), .int .i64 (j : Nat)] w0 (fun e W => ∃ v' ok t' rows', e = .returned (.tuple #[v', .bool ok]) ∧ FT E W v' t' rows' ∧ (t' = t ∨ t' = Fm.splitT t i (j : Nat)) ∧ Fm.validT t' = true ∧ Below w0.heap.size w0 W) := by
 obtain ⟨hsz, out, hob, hkb⟩ := Fm.valid_un hv
 have hrl := (Fm.size_un hsz).1
 have hJ10 := (Fm.size_un hsz).2.1
 have hat := h.at
 have H60 := Lib.hid (fun X (hX : Below w0.heap.size w0 X) => boxes60 X v t out (hat.keep hX) hob)
 obtain ⟨or, cr, oc0, cc, rfl, hro, hrw⟩ := h.form
 have hlen := h.len
 have hiN : i < t.cells.length := (List.getElem?_eq_some_iff.1 hc).1
 obtain ⟨r, hr⟩ : ∃ r, rows[i]? = some r := ⟨_, List.getElem?_eq_getElem (by omega)⟩
 obtain ⟨on, ol, orr, cn, cl, crr, rfl, -⟩ := (h.cell i r c hr hc).now
 obtain ⟨gc, oc, rfl, hRA⟩ := hrw.now (by intro e; rw [e] at hlen; simp at hlen; omega)
 obtain ⟨bx, hbi⟩ := Fm.leaf_box hv hob hc
 have HE := Lib.hid hE
 have HFT := Lib.hid h
 have HRA := Lib.hid hRA
 have HR := Lib.hid hr
 have HCI := Lib.hid hc
 have HSP := Lib.hid (fun x y (hh : Fm.halve bx (j : Nat) = some (x, y)) => Fm.split_valid (j := (j : Nat)) hob (by omega) hc hl hbi hh)
 have HBI := Lib.hid hbi
 have HVT := Lib.hid hv
 have HFL : Hid (rows.flatten.length = t.cells.length * 8) := Lib.hid (by rw [flat_len8 h.wid, hlen])
 have HCK := Lib.hid (fun X (hX : Below w0.heap.size w0 X) => sl_addr8 h.wid (hRA.keep hX))
 have HON : Hid (∀ u ∈ rows.flatten, u.oneCell' = true) := Lib.hid (rows_one h.wid (fun k u hu => ⟨_, List.getElem?_eq_getElem (by have := (List.getElem?_eq_some_iff.1 hu).1; omega)⟩) (fun k r u hr hu => (h.cell k r u hr hu).now))
 have HRO := Lib.hid hro
 clear h hat hE hro hrw hRA hr hc hob hkb hbi hv hsz
 generalize hJ : t.root.length = J at *
 generalize hN : t.cells.length = N at *
 have HJ := Lib.hid hJ
 have HN := Lib.hid hN
 have HL : LenIs t J N := ⟨hJ, hN⟩
 have HLN := Lib.hid hlen
 clear hJ hN hlen
 go_enter Tryz.func64, Tryz.ntmps64
 go_wp2_with fail
 obtain ⟨n3, n6, e3, e6, hx3, hx6, hb1⟩ := news2 w0 [.slice or J cr, .slice (some ⟨gc, oc, none⟩) N cc] [.slice none 0 0, .slice none 0 0] 36 36
 rw [← e6, ← e3]
 generalize (w0.alloc (.cells [.slice or J cr, .slice (some ⟨gc, oc, none⟩) N cc].toArray 36)).alloc (.cells [.slice none 0 0, .slice none 0 0].toArray 36) = W1 at hx3 hx6 hb1 ⊢
 have hs3 : w0.heap.size ≤ n3 := by omega
 have hs6 : w0.heap.size ≤ n6 := by omega
 have hne36 : n3 ≠ n6 := by omega
 clear e3 e6
 refine (H60.out W1 hb1).mono ?_
 rintro e W2 ⟨gt, cs, rfl, hT, -, hw2⟩
 rw [HN.out, HJ.out] at *
 have hx3 := hx3.keep hw2
 have hx6 := hx6.keep hw2
 have hb2 := below_call hb1 hw2
 clear hb1 hw2
 obtain ⟨hbl, a, cx, hcx, hD⟩ := hT.yes i bx HBI.out
 have HX6 := Lib.hid hx6
 have HX3 := Lib.hid hx3
 have HB2 := Lib.hid hb2
 have HT := Lib.hid hT
 have HCX := Lib.hid hcx
 have HD := Lib.hid hD
 have hRA2 := HRA.out.keep hb2
 obtain ⟨z0, z1, z2, z3, z4, z5, z6, z7, gl⟩ := row8 hRA2 HR.out
 have y0 := hx3.c 0 _ rfl
 have y1 := hx3.c 1 _ rfl
 have ly := hx3.lt
 clear hx3 hx6 hb2 hT hcx hD hRA2
 have hii : decide ((i : Int) < 0) = false := decide_eq_false (by omega)
 have hiN1 : decide ((N : Int) ≤ (i : Int)) = false := decide_eq_false (by omega)
 have hiN2 : decide (N ≤ i) = false := decide_eq_false (by omega)
 have hN2 : decide ((2048 : Int) < (N : Int) + 2) = false := decide_eq_false (by omega)
 go_wp2_with fail
 refine (leaf90 c on ol orr cn cl crr _).mono ?_
 rintro e W3 ⟨rfl, hw3⟩
 rw [hl]
 replace HX6 := Lib.hid (HX6.out.keep hw3)
 replace HX3 := Lib.hid (HX3.out.keep hw3)
 have HB3 := Lib.hid (below_call HB2.out hw3)
 replace HT := Lib.hid (HT.out.keep hw3)
 clear z0 z1 z2 z3 z4 z5 z6 z7 gl y0 y1 ly HB2 HD hw3
 have d0 := HT.out.bx.c i _ HCX.out
 have dl := HT.out.bx.lt
 obtain ⟨-, a', cx', hcx', hD⟩ := HT.out.yes i bx HBI.out
 obtain ⟨rfl, hcc⟩ : a' = a ∧ cx' = cx := by
  rw [HCX.out] at hcx'
  injection hcx' with hcx'
  injection hcx' with e1 _ e3
  injection e1 with e1
  exact ⟨e1.symm, e3.symm⟩
 subst hcc
 have HHV : Hid (Calls Tryz.prog 93 #[.slice (some a') J cx', .int .i64 (j : Nat)] W3 (HalvP bx (j : Nat) W3)) := Lib.hid (by
  have := halve93 W3 (some a') cx' bx (j : Nat) hD.now (by omega)
  rw [hbl] at this
  exact this)
 clear hcx' hD
 go_wp2_with fail
 refine HHV.out.mono ?_
 rintro e w5 ⟨hh4, hw4⟩
 replace HX6 := Lib.hid (HX6.out.keep hw4)
 replace HX3 := Lib.hid (HX3.out.keep hw4)
 have HB4 := Lib.hid (below_call HB3.out hw4)
 clear d0 dl hw4 HHV HT HB3
 cases hh : Fm.halve bx (j : Nat) with
 | none =>
  rw [hh] at hh4
  simp only at hh4
  subst hh4
  have HTR := Lib.hid (HFT.out.keep HB4.out)
  have c0 := HX6.out.c 0 _ rfl
  have c1 := HX6.out.c 1 _ rfl
  have f0 := HX6.out.f 0
  have f1 := HX6.out.f 1
  have l6 := HX6.out.lt
  have y0 := HX3.out.c 0 _ rfl
  have y1 := HX3.out.c 1 _ rfl
  have ly := HX3.out.lt
  have hA := HX6.out.put1 (.slice or J cr)
  have c1A := hA.c 1 _ rfl
  have f1A := hA.f 1
  have HXF := Lib.hid (put_two HX6.out (.slice or J cr) (.slice (some ⟨gc, oc, none⟩) N cc))
  have HBF := Lib.hid ((HB4.out.setCell (p := ⟨n6, 0, none⟩) hs6 (.slice or J cr)).setCell (p := ⟨n6, 1, none⟩) hs6 (.slice (some ⟨gc, oc, none⟩) N cc))
  clear hA
  go_wp2
  generalize (w5.setCell ⟨n6, 0, none⟩ (.slice or J cr)).setCell ⟨n6, 1, none⟩ (.slice (some ⟨gc, oc, none⟩) N cc) = XF at HXF HBF ⊢
  have c0F := HXF.out.c 0 _ rfl
  have c1F := HXF.out.c 1 _ rfl
  refine bodyPost_ret (v := .tuple #[.agg #[.slice or J cr, .slice (some ⟨gc, oc, none⟩) N cc], .bool false]) (by simp [results, Tryz.results64, go_sem, c0F, c1F]) rfl ?_
  exact ⟨_, _, t, rows, rfl, HFT.out.keep HBF.out, .inl rfl, HVT.out, HBF.out⟩
 | some xy =>
  obtain ⟨x, y⟩ := xy
  rw [hh] at hh4
  simp only at hh4
  obtain ⟨ax, ay, c1', c2', rfl, -⟩ := hh4
  have HVS := Lib.hid (HSP.out x y hh)
  clear hh
  have hN1 : 0 < N := by omega
  obtain ⟨i0, hi0, hz0, hz1, hz2⟩ := info_parts info85
  have HX3K := Lib.hid (fun X (hX : Below w5.heap.size w5 X) => (show X.cell? ⟨n3, 0, none⟩ = some (.slice or J cr) ∧ X.cell? ⟨n3, 1, none⟩ = some (.slice (some ⟨gc, oc, none⟩) N cc) ∧ n3 < X.heap.size from ⟨(HX3.out.keep hX).c 0 _ rfl, (HX3.out.keep hX).c 1 _ rfl, (HX3.out.keep hX).lt⟩))
  replace HCK := Lib.hid (fun X (hX : Below w5.heap.size w5 X) => HCK.out X (below_call HB4.out hX))
  have hS0 : Below w5.heap.size w5 w5.drew := (Below.refl _ _).drew
  have hs05 := HB4.out.size
  go_upto_region 8 with fail
  refine wp_region_inv (by kernel_rfl) (by kernel_rfl) (fun L a w => ∃ v64 v65 v66 v67 v68 v69 v14 : Value, a = { tmps := #[((Value.agg #[Value.slice or J cr, Value.slice (some ⟨gc, oc, none⟩) N cc])), ((Value.int IntKind.i64 ((i : Nat) : Int))), ((Value.int IntKind.i64 ((j : Nat) : Int))), ((Value.pointer (some ⟨n3, 0, none⟩))), undef, undef, ((Value.pointer (some ⟨n6, 0, none⟩))), ((Value.bool false)), ((Value.slice (some ⟨gt, 0, none⟩) N N)), ((Value.bool true)), ((Value.slice (some ax) J c1')), ((Value.slice (some ay) J c2')), ((Value.bool true)), ((Value.int IntKind.i64 ((N : Nat) : Int))), v14, undef, ((Value.tuple #[Value.slice (some ⟨gt, 0, none⟩) N N, Value.bool true])), ((Value.agg #[Value.slice or J cr, Value.slice (some ⟨gc, oc, none⟩) N cc])), ((Value.tuple #[Value.slice (some ⟨gt, 0, none⟩) N N, Value.bool true])), ((Value.slice (some ⟨gt, 0, none⟩) N N)), ((Value.bool true)), ((Value.bool true)), ((Value.bool false)), ((Value.bool false)), ((Value.int IntKind.i64 ((i : Nat) : Int))), ((Value.bool false)), ((Value.bool false)), ((Value.bool false)), ((Value.int IntKind.i64 ((i : Nat) : Int))), ((Value.slice (some ⟨gt, 0, none⟩) N N)), ((Value.int IntKind.i64 ((N : Nat) : Int))), ((Value.bool false)), ((Value.bool false)), ((Value.bool false)), ((Value.pointer (some ⟨n3, 1, none⟩))), ((Value.slice (some ⟨gc, oc, none⟩) N cc)), ((Value.int IntKind.i64 ((i : Nat) : Int))), ((Value.pointer (some ⟨gc, oc + i * 8, none⟩))), ((Value.agg #[Value.int IntKind.i64 c.joint, Value.int IntKind.i64 c.low, Value.int IntKind.i64 c.high, Value.int IntKind.i64 c.verd.kind, Value.slice on c.verd.normals.length cn, Value.int IntKind.i64 c.verd.pair, Value.slice ol c.verd.left.length cl, Value.slice orr c.verd.right.length crr])), ((Value.bool true)), ((Value.bool false)), ((Value.bool false)), ((Value.bool false)), ((Value.slice (some ⟨gt, 0, none⟩) N N)), ((Value.int IntKind.i64 ((N : Nat) : Int))), ((Value.int IntKind.i64 (((N : Nat) : Int) + 2))), ((Value.bool false)), ((Value.bool false)), undef, ((Value.tuple #[Value.slice (some ax) J c1', Value.slice (some ay) J c2', Value.bool true])), ((Value.slice (some ⟨gt, 0, none⟩) N N)), ((Value.int IntKind.i64 ((i : Nat) : Int))), ((Value.pointer (some ⟨gt, i, none⟩))), ((Value.slice (some a') J cx')), ((Value.int IntKind.i64 ((j : Nat) : Int))), ((Value.tuple #[Value.slice (some ax) J c1', Value.slice (some ay) J c2', Value.bool true])), ((Value.slice (some ax) J c1')), ((Value.slice (some ay) J c2')), ((Value.bool true)), ((Value.bool true)), ((Value.bool false)), undef, ((Value.slice (some ⟨gt, 0, none⟩) N N)), ((Value.int IntKind.i64 ((N : Nat) : Int))), v64, v65, v66, v67, v68, v69, undef, undef, undef, undef, undef, undef, undef, undef, undef, undef, undef, undef, undef, undef, undef, undef, undef, undef, undef, undef, undef, undef], defers := [] } ∧ Cr8K w5 or n3 J cr gc oc N cc rows L v64 v65 v66 v67 v68 v69 v14 w) ?_ ?_ ?_
  ·exact ⟨_, _, _, _, _, _, _, rfl, ⟨hS0, nofun, nofun, nofun, nofun, nofun, nofun, nofun, nofun⟩⟩
  ·intro iq oq ho L a w hL hd hJ
   obtain ⟨v64, v65, v66, v67, v68, v69, v14, rfl, k⟩ := hJ
   have hiq : iq < 8 := by have := (Array.getElem?_eq_some_iff.1 ho).1; simpa using this
   match iq, hiq, ho, hL with
   | 0, _, ho, hL =>
    have ho2 := ho
    simp only [qz1, qz2, qz3, qz4] at ho
    subst ho
    refine wpOp_step ho2 (fun K hK => ?_)
    go_simp
    exact hK _ _ ⟨_, _, _, _, _, _, _, rfl, ⟨k.wf, fun _ => rfl, k.f1, k.f2, k.f3, k.f4, k.f5, k.f6, k.f7⟩⟩
   | 1, _, ho, hL =>
    have ho2 := ho
    simp only [qz1, qz2, qz3, qz4] at ho
    subst ho
    refine wpOp_step ho2 (fun K hK => ?_)
    obtain rfl := k.f0 (hd ⟨0, .data⟩ (by simp) rfl)
    obtain ⟨y0, y1, ly⟩ := HX3K.out w k.wf
    go_simp
    exact hK _ _ ⟨_, _, _, _, _, _, _, rfl, ⟨k.wf, k.f0, fun _ => rfl, k.f2, k.f3, k.f4, k.f5, k.f6, k.f7⟩⟩
   | 2, _, ho, hL =>
    have ho2 := ho
    simp only [qz1, qz2, qz3, qz4] at ho
    subst ho
    refine wpOp_step ho2 (fun K hK => ?_)
    go_simp
    exact hK _ _ ⟨_, _, _, _, _, _, _, rfl, ⟨k.wf, k.f0, k.f1, fun _ => rfl, k.f3, k.f4, k.f5, k.f6, k.f7⟩⟩
   | 3, _, ho, hL =>
    have ho2 := ho
    simp only [qz1, qz2, qz3, qz4] at ho
    subst ho
    refine wpOp_step ho2 (fun K hK => ?_)
    obtain rfl := k.f2 (hd ⟨2, .data⟩ (by simp) rfl)
    obtain ⟨y0, y1, ly⟩ := HX3K.out w k.wf
    go_simp
    exact hK _ _ ⟨_, _, _, _, _, _, _, rfl, ⟨k.wf, k.f0, k.f1, k.f2, fun _ => rfl, k.f4, k.f5, k.f6, k.f7⟩⟩
   | 4, _, ho, hL =>
    have ho2 := ho
    simp only [qz1, qz2, qz3, qz4] at ho
    subst ho
    refine wpOp_step ho2 (fun K hK => ?_)
    obtain rfl := k.f3 (hd ⟨3, .data⟩ (by simp) rfl)
    have hbw := k.wf
    have hzw := hbw.size
    refine step_append_lies _ rfl (.const (.slice none 0 0)) (.tmp 67) 34 rfl w5.heap.size 85 i0 (.agg #[.int .i64 0, .int .i64 0, .int .i64 0, .int .i64 0, .slice none 0 0, .int .i64 0, .slice none 0 0, .slice none 0 0]) 8 112 under34 hi0 hz0 hz1 hz2 rfl (by decide) (.slice none 0 0) 0 [] (by simp [Act.eval]) (World.ownsRow_nil _ _ _ _) ⟨gc, oc, none⟩ N cc rows.flatten (by simp [Act.eval]) HFL.out (HCK.out w hbw) HON.out hN1 (by unfold maxLen; omega) (by omega) hzw _ rfl ?_
    intro gN cN X hown hgrow hat hltN
    rw [Nat.zero_add] at hown
    simp only [Nat.zero_add]
    have hbX := nil_grow hgrow
    exact hK _ _ ⟨_, _, _, _, _, _, _, rfl, ⟨below_call hbw hbX, k.f0, k.f1, k.f2, k.f3, fun _ _ => ⟨gN, cN, rfl, hown⟩, fun h => absurd (hL.symm.trans (k.f5 h).1) (by decide), fun h e => (k.f6 h e).elim fun n h => ⟨n, h.1, h.2.1.keep hbX, h.2.2⟩, fun h => absurd (hL.symm.trans (k.f7 h).1) (by decide)⟩⟩
   | 5, _, ho, hL =>
    have ho2 := ho
    simp only [qz1, qz2, qz3, qz4] at ho
    subst ho
    refine wpOp_step ho2 (fun K hK => ?_)
    obtain rfl := k.f1 (hd ⟨1, .data⟩ (by simp) rfl)
    have h4 := hd ⟨4, .data⟩ (by simp) rfl
    have h7 : L 7 = false := by
     cases h : L 7 with
     | false => rfl
     | true => exact absurd (hL.symm.trans (k.f7 h).2.1) (by decide)
    obtain ⟨g, cap, rfl, ho⟩ := k.f4 h4 h7
    go_simp
    exact hK _ _ ⟨_, _, _, _, _, _, _, rfl, ⟨k.wf, k.f0, k.f1, k.f2, k.f3, fun _ _ => ⟨g, cap, rfl, ho⟩, fun _ => ⟨h4, rfl⟩, k.f6, fun h => absurd (h7.symm.trans h) (by decide)⟩⟩
   | 6, _, ho, hL =>
    have ho2 := ho
    simp only [qz1, qz2, qz3, qz4] at ho
    subst ho
    refine wpOp_step ho2 (fun K hK => ?_)
    have hb : Below w.heap.size w (w.alloc (.cells #[.slice none 0 0, .slice none 0 0] 36)) := (Below.refl _ _).alloc (Nat.le_refl _) _
    have hbx := Bx.new w [.slice none 0 0, .slice none 0 0] 36
    have hzw := k.wf.size
    have hbw := below_call k.wf hb
    go_simp
    exact hK _ _ ⟨_, _, _, _, _, _, _, rfl, ⟨hbw, k.f0, k.f1, k.f2, k.f3, fun h e => (k.f4 h e).elim fun g h => h.elim fun c h => ⟨g, c, h.1, own_keep h.2 hb⟩, k.f5, fun _ _ => ⟨w.heap.size, rfl, hbx, hzw⟩, fun h => absurd (hL.symm.trans (k.f7 h).2.2.1) (by decide)⟩⟩
   | 7, _, ho, hL =>
    have ho2 := ho
    simp only [qz1, qz2, qz3, qz4] at ho
    subst ho
    refine wpOp_step ho2 (fun K hK => ?_)
    have h5 := hd ⟨5, .data⟩ (by simp) rfl
    have h6 := hd ⟨6, .data⟩ (by simp) rfl
    obtain ⟨h4, rfl⟩ := k.f5 h5
    obtain ⟨g, cap, rfl, ho⟩ := k.f4 h4 hL
    obtain ⟨n, rfl, hbx, hn⟩ := k.f6 h6 hL
    have c0 := hbx.c 0 _ rfl
    have c1 := hbx.c 1 _ rfl
    have f0 := hbx.f 0
    have f1 := hbx.f 1
    have ln := hbx.lt
    have hA := hbx.put1 (.slice or J cr)
    have c1A := hA.c 1 _ rfl
    have f1A := hA.f 1
    have hp := put_two hbx (.slice or J cr) (.slice (some ⟨g, 0, none⟩) N cap)
    have hgn : g ≠ n := fun e => by
     obtain ⟨c, fz, h1⟩ := own_type ho g rfl
     rw [e, hbx.h] at h1
     injection h1 with h1
     injection h1 with _ h1 _
     exact absurd h1 (by decide)
    have ho2 := own_blk (W' := (w.setCell ⟨n, 0, none⟩ (.slice or J cr)).setCell ⟨n, 1, none⟩ (.slice (some ⟨g, 0, none⟩) N cap)) ho (fun k hk _ _ => by injection hk with hk; subst hk; rw [Below.heap_setCell _ ⟨n, 1, none⟩ _ _ hgn, Below.heap_setCell _ ⟨n, 0, none⟩ _ _ hgn])
    have hb2 := (k.wf.setCell (p := ⟨n, 0, none⟩) hn (.slice or J cr)).setCell (p := ⟨n, 1, none⟩) hn (.slice (some ⟨g, 0, none⟩) N cap)
    clear ho hA
    go_simp
    exact hK _ _ ⟨_, _, _, _, _, _, _, rfl, ⟨hb2, k.f0, k.f1, k.f2, k.f3, fun _ => nofun, k.f5, fun _ => nofun, fun _ => ⟨h4, h5, h6, n, g, cap, rfl, rfl, hp, ho2, hn⟩⟩⟩
   | n + 8, h, _, _ => omega
  ·intro L a w hL hJ
   obtain ⟨v64, v65, v66, v67, v68, v69, v14, rfl, k⟩ := hJ
   obtain rfl := k.f0 (hL 0 (by decide))
   obtain rfl := k.f1 (hL 1 (by decide))
   obtain rfl := k.f2 (hL 2 (by decide))
   obtain rfl := k.f3 (hL 3 (by decide))
   have hbw := k.wf
   obtain ⟨-, -, -, n14, g, cap, rfl, rfl, hx14, hown, hn14⟩ := k.f7 (hL 7 (by decide))
   obtain ⟨-, rfl⟩ := k.f5 (hL 5 (by decide))
   dsimp only
   clear k hL
   have hB5 := below_call HB4.out hbw
   have hs5 := hbw.size
   have hwid := HFT.out.wid
   have q0 := own_at hown _ _ (flat_get8 (j := 0) hwid HR.out rfl)
   have q1 := own_at hown _ _ (flat_get8 (j := 1) hwid HR.out rfl)
   have q2 := own_at hown _ _ (flat_get8 (j := 2) hwid HR.out rfl)
   have q3 := own_at hown _ _ (flat_get8 (j := 3) hwid HR.out rfl)
   have q4 := own_at hown _ _ (flat_get8 (j := 4) hwid HR.out rfl)
   have q5 := own_at hown _ _ (flat_get8 (j := 5) hwid HR.out rfl)
   have q6 := own_at hown _ _ (flat_get8 (j := 6) hwid HR.out rfl)
   have q7 := own_at hown _ _ (flat_get8 (j := 7) hwid HR.out rfl)
   have glt := (own_lt hown g rfl).1
   have hg5 := (own_lt hown g rfl).2
   have m0 := hx14.c 0 _ rfl
   have m1 := hx14.c 1 _ rfl
   have lm := hx14.lt
   have HX14 := Lib.hid hx14
   have HOW := Lib.hid hown
   have HX6b := Lib.hid (HX6.out.keep hbw)
   have HB5 := Lib.hid hB5
   rw [Nat.add_zero] at q0
   clear hx14 hown hwid hB5 hbw
   go_upto_region 10 with fail
   obtain ⟨n15, e15, hx15, hb15⟩ := news1 w [.int .i64 c.joint, .int .i64 c.low, .int .i64 c.high, .int .i64 c.verd.kind, .slice on c.verd.normals.length cn, .int .i64 c.verd.pair, .slice ol c.verd.left.length cl, .slice orr c.verd.right.length crr] 85
   rw [← e15]
   have hl15 : g < n15 ∧ n14 < n15 := by omega
   generalize w.alloc (.cells [.int .i64 c.joint, .int .i64 c.low, .int .i64 c.high, .int .i64 c.verd.kind, .slice on c.verd.normals.length cn, .int .i64 c.verd.pair, .slice ol c.verd.left.length cl, .slice orr c.verd.right.length crr].toArray 85) = W6 at hx15 hb15 ⊢
   clear e15 q0 q1 q2 q3 q4 q5 q6 q7 m0 m1
   replace HX14 := Lib.hid (HX14.out.keep hb15)
   replace HOW := Lib.hid (own_keep HOW.out hb15)
   replace HX6b := Lib.hid (HX6b.out.keep hb15)
   replace HB5 := Lib.hid (below_call HB5.out hb15)
   have hgn : g ≠ n14 := fun e => by
    obtain ⟨c, fz, h1⟩ := own_type HOW.out g rfl
    rw [e, HX14.out.h] at h1
    injection h1 with h1
    injection h1 with _ h1 _
    exact absurd h1 (by decide)
   have hg6 : g ≠ n6 := fun e => by
    obtain ⟨c, fz, h1⟩ := own_type HOW.out g rfl
    rw [e, HX6b.out.h] at h1
    injection h1 with h1
    injection h1 with _ h1 _
    exact absurd h1 (by decide)
   obtain ⟨p0, p1, p2, p3, p4, p5, p6, p7, r0, s0, r1, s1, r2, s2, r3, s3, r4, s4, r5, s5, r6, s6, r7, s7⟩ := factsN8 (o := i * 8) (own_Blk HOW.out hN1) (by rw [HFL.out]; omega) (.int .i64 (j : Nat)) (.int .i64 (N : Nat)) (.int .i64 ((N : Nat) + 1)) (.int .i64 0) (.slice none 0 0) (.int .i64 0) (.slice none 0 0)
   have hown7 := ownN8 (o := i * 8) HOW.out hN1 (.int .i64 (j : Nat)) (.int .i64 (N : Nat)) (.int .i64 ((N : Nat) + 1)) (.int .i64 0) (.slice none 0 0) (.int .i64 0) (.slice none 0 0) (.slice none 0 0)
   have hoth7 := othN8 W6 g (i * 8) (.int .i64 (j : Nat)) (.int .i64 (N : Nat)) (.int .i64 ((N : Nat) + 1)) (.int .i64 0) (.slice none 0 0) (.int .i64 0) (.slice none 0 0) (.slice none 0 0)
   have hbel7 := belN8 W6 g (i * 8) w0.heap.size (by omega) (.int .i64 (j : Nat)) (.int .i64 (N : Nat)) (.int .i64 ((N : Nat) + 1)) (.int .i64 0) (.slice none 0 0) (.int .i64 0) (.slice none 0 0) (.slice none 0 0)
   rw [← flat_put8 (.int .i64 (j : Nat)) (.int .i64 (N : Nat)) (.int .i64 ((N : Nat) + 1)) (.int .i64 0) (.slice none 0 0) (.int .i64 0) (.slice none 0 0) (.slice none 0 0) HFT.out.wid (by rw [HLN.out]; exact hiN)] at hown7
   have m0 := HX14.out.c 0 _ rfl
   have m1 := HX14.out.c 1 _ rfl
   have lm := HX14.out.lt
   have lg := (own_lt HOW.out g rfl).1
   have hX14 := oth_bx HX14.out hoth7 (fun e => hgn e.symm)
   have hX15 := oth_bx hx15 hoth7 (by omega)
   have hX6 := oth_bx HX6b.out hoth7 (fun e => hg6 e.symm)
   have hB7 := HB5.out.trans hbel7
   have hsz7 := szN8 W6 g (i * 8) (.int .i64 (j : Nat)) (.int .i64 (N : Nat)) (.int .i64 ((N : Nat) + 1)) (.int .i64 0) (.slice none 0 0) (.int .i64 0) (.slice none 0 0) (.slice none 0 0)
   unfold setN8 at hown7 hX14 hX15 hX6 hB7 hsz7
   have HOW7 := Lib.hid hown7
   clear hoth7 hbel7 hown7 hb15 hx15
   go_upto_region 11 with fail
   generalize (((((((W6.setCell ⟨g, i * 8, none⟩ (.int .i64 (j : Nat))).setCell ⟨g, i * 8 + 1, none⟩ (.int .i64 (N : Nat))).setCell ⟨g, i * 8 + 2, none⟩ (.int .i64 ((N : Nat) + 1))).setCell ⟨g, i * 8 + 3, none⟩ (.int .i64 0)).setCell ⟨g, i * 8 + 4, none⟩ (.slice none 0 0)).setCell ⟨g, i * 8 + 5, none⟩ (.int .i64 0)).setCell ⟨g, i * 8 + 6, none⟩ (.slice none 0 0)).setCell ⟨g, i * 8 + 7, none⟩ (.slice none 0 0) = W7 at HOW7 hX14 hX15 hX6 hB7 hsz7 ⊢
   clear r0 s0 r1 s1 r2 s2 r3 s3 r4 s4 r5 s5 r6 s6 r7 s7 m0 m1 lm lg
   have z0 := hX15.c 0 _ rfl
   have z1 := hX15.c 1 _ rfl
   have z2 := hX15.c 2 _ rfl
   have z3 := hX15.c 3 _ rfl
   have z4 := hX15.c 4 _ rfl
   have z5 := hX15.c 5 _ rfl
   have z6 := hX15.c 6 _ rfl
   have z7 := hX15.c 7 _ rfl
   have lz := hX15.lt
   have m0 := hX14.c 0 _ rfl
   have m1 := hX14.c 1 _ rfl
   have lm := hX14.lt
   have hb8 : Below W7.heap.size W7 (W7.alloc (.cells #[.int .i64 c.joint, .int .i64 c.low, .int .i64 c.high, .int .i64 c.verd.kind, .slice on c.verd.normals.length cn, .int .i64 c.verd.pair, .slice ol c.verd.left.length cl, .slice orr c.verd.right.length crr, .int .i64 c.joint, .int .i64 c.low, .int .i64 c.high, .int .i64 c.verd.kind, .slice on c.verd.normals.length cn, .int .i64 c.verd.pair, .slice ol c.verd.left.length cl, .slice orr c.verd.right.length crr] 85)) := (Below.refl _ _).alloc (Nat.le_refl _) _
   have HO8 := Lib.hid (own_keep HOW7.out hb8)
   have HX14 := Lib.hid (hX14.keep hb8)
   have HX6c := Lib.hid (hX6.keep hb8)
   have HB8 := Lib.hid (below_call hB7 hb8)
   have hs8 : w5.heap.size ≤ W7.heap.size := by omega
   have hs8b : g < W7.heap.size ∧ n14 < W7.heap.size := by omega
   clear hsz7
   clear hX14 hX15 hX6 hB7 hb8
   go_wp2_with (at_builtin; go_loud (refine wpList_append_own _ rfl _ _ 34 rfl w5.heap.size 85 i0 (.agg #[.int .i64 0, .int .i64 0, .int .i64 0, .int .i64 0, .slice none 0 0, .int .i64 0, .slice none 0 0, .slice none 0 0]) 8 112 under34 hi0 hz0 hz1 hz2 rfl (by decide) _ _ _ rfl HO8.out ⟨W7.heap.size, 0, none⟩ 2 2 [.int .i64 c.joint, .int .i64 c.low, .int .i64 c.high, .int .i64 c.verd.kind, .slice on c.verd.normals.length cn, .int .i64 c.verd.pair, .slice ol c.verd.left.length cl, .slice orr c.verd.right.length crr, .int .i64 c.joint, .int .i64 c.low, .int .i64 c.high, .int .i64 c.verd.kind, .slice on c.verd.normals.length cn, .int .i64 c.verd.pair, .slice ol c.verd.left.length cl, .slice orr c.verd.right.length crr] rfl rfl ?c1 ?c2 ?c3 ?c4 ?c5 ?_))
   case c1 => exact new_cells _ _ _
   case c2 =>
    intro u hu
    simp at hu
    repeat' (first | (subst hu; rfl) | (rcases hu with hu | hu))
   case c3 => unfold maxLen; omega
   case c4 => omega
   case c5 => simp; omega
   intro v' w' hown' hgrow _
   obtain ⟨g', c', rfl⟩ := own_some hown' (by omega)
   have hX9 := HX14.out.grown hgrow (fun e => hgn e.symm)
   have hX69 := HX6c.out.grown hgrow (fun e => hg6 e.symm)
   have hB9 : Below w0.heap.size w0 w' := HB8.out.trans ((grown_below HO8.out hgrow (by simp; omega)).mono (by omega))
   have hg9 : g' ≠ n14 := fun e => by
    obtain ⟨c, fz, h1⟩ := own_type hown' g' rfl
    rw [e, hX9.h] at h1
    injection h1 with h1
    injection h1 with _ h1 _
    exact absurd h1 (by decide)
   have hg96 : g' ≠ n6 := fun e => by
    obtain ⟨c, fz, h1⟩ := own_type hown' g' rfl
    rw [e, hX69.h] at h1
    injection h1 with h1
    injection h1 with _ h1 _
    exact absurd h1 (by decide)
   have HOF := Lib.hid hown'
   clear hown' hgrow HO8 HX14 HX6c HB8 z0 z1 z2 z3 z4 z5 z6 z7 lz m0 m1 lm
   have m0 := hX9.c 0 _ rfl
   have m1 := hX9.c 1 _ rfl
   have fm := hX9.f 1
   have lm := hX9.lt
   have hn146 : n14 ≠ n6 := by have := HX6.out.lt; omega
   have hY := hX9.put2 (.slice (some ⟨g', 0, none⟩) (N + 2) c')
   have y0 := hY.c 0 _ rfl
   have y1 := hY.c 1 _ rfl
   have hY6 := hX69.other (fun e => hn146 e.symm) 1 (.slice (some ⟨g', 0, none⟩) (N + 2) c')
   have c0 := hY6.c 0 _ rfl
   have c1 := hY6.c 1 _ rfl
   have f0 := hY6.f 0
   have f1 := hY6.f 1
   have l6 := hY6.lt
   have hA := hY6.put1 (.slice or J cr)
   have c1A := hA.c 1 _ rfl
   have f1A := hA.f 1
   have HXF := Lib.hid (put_two hY6 (.slice or J cr) (.slice (some ⟨g', 0, none⟩) (N + 2) c'))
   have HBF := Lib.hid (((hB9.setCell (p := ⟨n14, 1, none⟩) (by show w0.heap.size ≤ n14; omega) (.slice (some ⟨g', 0, none⟩) (N + 2) c')).setCell (p := ⟨n6, 0, none⟩) hs6 (.slice or J cr)).setCell (p := ⟨n6, 1, none⟩) hs6 (.slice (some ⟨g', 0, none⟩) (N + 2) c'))
   have HOX := Lib.hid (own_blk (W' := ((w'.setCell ⟨n14, 1, none⟩ (.slice (some ⟨g', 0, none⟩) (N + 2) c')).setCell ⟨n6, 0, none⟩ (.slice or J cr)).setCell ⟨n6, 1, none⟩ (.slice (some ⟨g', 0, none⟩) (N + 2) c')) HOF.out (fun k hk _ _ => by
    injection hk with hk
    subst hk
    rw [Below.heap_setCell _ ⟨n6, 1, none⟩ _ _ hg96, Below.heap_setCell _ ⟨n6, 0, none⟩ _ _ hg96, Below.heap_setCell _ ⟨n14, 1, none⟩ _ _ hg9]))
   clear hX9 hX69 hB9 hY hY6 hA HOF
   go_wp2
   generalize ((w'.setCell ⟨n14, 1, none⟩ (.slice (some ⟨g', 0, none⟩) (N + 2) c')).setCell ⟨n6, 0, none⟩ (.slice or J cr)).setCell ⟨n6, 1, none⟩ (.slice (some ⟨g', 0, none⟩) (N + 2) c') = XF at HXF HBF HOX ⊢
   have c0F := HXF.out.c 0 _ rfl
   have c1F := HXF.out.c 1 _ rfl
   have hfl : (rows.set i ([.int .i64 (j : Nat), .int .i64 (N : Nat), .int .i64 ((N : Nat) + 1), .int .i64 0, .slice none 0 0, .int .i64 0, .slice none 0 0, .slice none 0 0] : List Value)).flatten ++ ([.int .i64 c.joint, .int .i64 c.low, .int .i64 c.high, .int .i64 c.verd.kind, .slice on c.verd.normals.length cn, .int .i64 c.verd.pair, .slice ol c.verd.left.length cl, .slice orr c.verd.right.length crr, .int .i64 c.joint, .int .i64 c.low, .int .i64 c.high, .int .i64 c.verd.kind, .slice on c.verd.normals.length cn, .int .i64 c.verd.pair, .slice ol c.verd.left.length cl, .slice orr c.verd.right.length crr] : List Value) = (rows.set i (nodeR (j : Nat) N) ++ ([[.int .i64 c.joint, .int .i64 c.low, .int .i64 c.high, .int .i64 c.verd.kind, .slice on c.verd.normals.length cn, .int .i64 c.verd.pair, .slice ol c.verd.left.length cl, .slice orr c.verd.right.length crr], [.int .i64 c.joint, .int .i64 c.low, .int .i64 c.high, .int .i64 c.verd.kind, .slice on c.verd.normals.length cn, .int .i64 c.verd.pair, .slice ol c.verd.left.length cl, .slice orr c.verd.right.length crr]] : List (List Value))).flatten := by simp [nodeR]
   have hox := HOX.out
   rw [hfl] at hox
   have HFS := Lib.hid (ft_split (J := J) (cr := cr) (j := (j : Nat)) HFT.out HRO.out HL.a HCI.out HR.out HBF.out HE.out hs05 (by rw [HL.b]; exact hox))
   rw [HL.b] at HFS
   refine bodyPost_ret (v := .tuple #[.agg #[.slice or J cr, .slice (some ⟨g', 0, none⟩) (N + 2) c'], .bool true]) (by simp [results, Tryz.results64, go_sem, c0F, c1F]) rfl ?_
   exact ⟨_, _, _, _, rfl, HFS.out, .inr rfl, HVS.out, HBF.out⟩
end Go.Proofs.Ng
end

section
/-
 Walks: a leaf gets a verdict. Printed by gen_tm.py.
-/
namespace Go.Proofs.Ng
open Go.RowKit
structure Cr3K (w5 : World) (or : Option Addr) (n3 J cr gc oc N cc : Nat) (rows : List (List Value)) (L : Nat → Bool) (v48 v49 v50 v51 v52 v53 v8 : Value) (w : World) : Prop where
 wf : Below w5.heap.size w5 w
 f0 : L 0 = true → v48 = .pointer (some ⟨n3, 0, none⟩)
 f1 : L 1 = true → v49 = .slice or J cr
 f2 : L 2 = true → v50 = .pointer (some ⟨n3, 1, none⟩)
 f3 : L 3 = true → v51 = .slice (some ⟨gc, oc, none⟩) N cc
 f4 : L 4 = true → L 7 = false → ∃ g cap, v52 = .slice (some ⟨g, 0, none⟩) N cap ∧ w.ownsRow w5.heap.size 85 8 (.slice (some ⟨g, 0, none⟩) N cap) N rows.flatten
 f5 : L 5 = true → L 4 = true ∧ v53 = .agg #[.slice or J cr, v52]
 f6 : L 6 = true → L 7 = false → ∃ n, v8 = .pointer (some ⟨n, 0, none⟩) ∧ Bx w n [.slice none 0 0, .slice none 0 0] 36 ∧ w5.heap.size ≤ n
 f7 : L 7 = true → L 4 = true ∧ L 5 = true ∧ L 6 = true ∧ ∃ n g cap, v8 = .pointer (some ⟨n, 0, none⟩) ∧ v52 = .slice (some ⟨g, 0, none⟩) N cap ∧ Bx w n [.slice or J cr, .slice (some ⟨g, 0, none⟩) N cap] 36 ∧ w.ownsRow w5.heap.size 85 8 (.slice (some ⟨g, 0, none⟩) N cap) N rows.flatten ∧ w5.heap.size ≤ n
/-- The row of a leaf that has got a verdict. -/
def leafR (c : Fm.CellD) (u : Fm.VerdD) (on ol orr : Option Addr) (cn cl crr : Nat) : List Value := [.int .i64 c.joint, .int .i64 c.low, .int .i64 c.high, .int .i64 u.kind, .slice on u.normals.length cn, .int .i64 u.pair, .slice ol u.left.length cl, .slice orr u.right.length crr]
/-- A verdict's slices. -/
def VerdAt (X : World) (u : Fm.VerdD) (on ol orr : Option Addr) : Prop := Sl X on 3 (vecsV u.normals) ∧ Sl X ol 1 (pvals u.left) ∧ Sl X orr 1 (pvals u.right)
theorem flat_put5 : ∀ {rows : List (List Value)} {i : Nat} {r : List Value} (a0 a1 a2 a3 a4 a5 a6 a7 : Value), (∀ r ∈ rows, r.length = 8) → rows[i]? = some r → r[0]? = some a0 → r[1]? = some a1 → r[2]? = some a2 → (rows.set i [a0, a1, a2, a3, a4, a5, a6, a7]).flatten = ((((rows.flatten.set (i * 8 + 3) a3).set (i * 8 + 3 + 1) a4).set (i * 8 + 3 + 2) a5).set (i * 8 + 3 + 3) a6).set (i * 8 + 3 + 4) a7
 | [], i, _, _, _, _, _, _, _, _, _, _, h, _, _, _ => by simp at h
 | q :: rows, 0, r, a0, a1, a2, a3, a4, a5, a6, a7, hw, h, h0, h1, h2 => by
  have hr := hw q (by simp)
  simp at h
  subst h
  match q, hr with
  | [x0, x1, x2, x3, x4, x5, x6, x7], _ => simp at h0 h1 h2; subst h0 h1 h2; simp
 | q :: rows, i + 1, r, a0, a1, a2, a3, a4, a5, a6, a7, hw, h, h0, h1, h2 => by
  have hr := hw q (by simp)
  have ih := flat_put5 (rows := rows) (i := i) a0 a1 a2 a3 a4 a5 a6 a7 (fun q hq => hw q (by simp [hq])) (by simpa using h) h0 h1 h2
  match q, hr with
  | [x0, x1, x2, x3, x4, x5, x6, x7], _ =>
   rw [List.set_cons_succ, List.flatten_cons, ih, List.flatten_cons]
   rw [show (i + 1) * 8 = i * 8 + 8 by omega]
   rfl
theorem ft_settle {E : List Nat} {w0 X : World} {t : Fm.TreeD} {rows : List (List Value)} {i J cr c' g B : Nat} {or : Option Addr} {v : Value} {c : Fm.CellD} {u : Fm.VerdD} {on ol orr : Option Addr} {cn cl crr : Nat} (h : FT E w0 v t rows) (hro : Fp (Sx E w0) w0 (fun X => Sl X or 2 (ivs t.root))) (hJ : t.root.length = J) (hc : t.cells[i]? = some c) (hu : Fp (Sx E w0) w0 (fun X => VerdAt X u on ol orr)) (hb : Below w0.heap.size w0 X) (hE : ∀ k ∈ E, k < w0.heap.size) (hB : w0.heap.size ≤ B)
  (own : X.ownsRow B 85 8 (.slice (some ⟨g, 0, none⟩) t.cells.length c') t.cells.length (rows.set i (leafR c u on ol orr cn cl crr)).flatten) : FT E X (.agg #[.slice or J cr, .slice (some ⟨g, 0, none⟩) t.cells.length c']) (Fm.settleT t i u) (rows.set i (leafR c u on ol orr cn cl crr)) := by
 have hs : Fm.settleT t i u = ⟨t.root, t.cells.set i { c with verd := u }⟩ := by unfold Fm.settleT; rw [hc]
 have hlen := h.len
 have hi := (List.getElem?_eq_some_iff.1 hc).1
 have hwid : ∀ q ∈ rows.set i (leafR c u on ol orr cn cl crr), q.length = 8 := by
  intro q hq
  rcases List.mem_or_eq_of_mem_set hq with hq | rfl
  ·exact h.wid q hq
  ·rfl
 rw [hs]
 refine ⟨⟨or, cr, some ⟨g, 0, none⟩, c', by rw [← hJ]; simp, hro.sxb hb, (own_sl8 own hwid (by simp [hlen]) hB).sx hE⟩, by simp [hlen], hwid, fun k q x hq hx => ?_⟩
 by_cases e : i = k
 ·subst e
  rw [List.getElem?_set_self (by omega)] at hq
  rw [List.getElem?_set_self hi] at hx
  injection hq with hq
  injection hx with hx
  subst hq hx
  exact fun Y hY => ⟨on, ol, orr, cn, cl, crr, rfl, (hu.sxb hb Y hY).1, (hu.sxb hb Y hY).2.1, (hu.sxb hb Y hY).2.2⟩
 ·rw [List.getElem?_set_ne e] at hq hx
  exact (h.cell k q x hq hx).sxb hb
set_option maxRecDepth 100000 in
set_option maxHeartbeats 16000000 in
theorem settle65 (E : List Nat) (w0 : World) (v : Value) (t : Fm.TreeD) (rows : List (List Value)) (i : Nat) (c : Fm.CellD) (u : Fm.VerdD) (un ul ur : Option Addr) (un2 ul2 ur2 : Nat) (h : FT E w0 v t rows) (hE : ∀ k ∈ E, k < w0.heap.size) (hv : Fm.validT t = true) (hc : t.cells[i]? = some c) (hl : Fm.leafB c = true) (hf : Fm.formB u = true) (hu : Fp (Sx E w0) w0 (fun X => VerdAt X u un ul ur)) :
  Calls Tryz.prog 65 #[v, .int .i64 (i : Nat), .agg #[.int .i64 u.kind, .slice un u.normals.length un2, .int .i64 u.pair, .slice ul u.left.length ul2, .slice ur u.right.length ur2]] w0 (fun e W => ∃ v' ok t' rows', e = .returned (.tuple #[v', .bool ok]) ∧ FT E W v' t' rows' ∧ (t' = t ∨ t' = Fm.settleT t i u) ∧ Fm.validT t' = true ∧ Below w0.heap.size w0 W) := by
 have hn2 := (Fm.size_un (Fm.valid_un hv).1).2.2.2.1
 have hJ10 := (Fm.size_un (Fm.valid_un hv).1).2.1
 have hat := h.at
 have H32 := Lib.hid (fun X (hX : Below w0.heap.size w0 X) => validTree32 X v t (hat.keep hX) hv)
 obtain ⟨or, cr, oc0, cc, rfl, hro, hrw⟩ := h.form
 have hlen := h.len
 have hiN : i < t.cells.length := (List.getElem?_eq_some_iff.1 hc).1
 obtain ⟨r, hr⟩ : ∃ r, rows[i]? = some r := ⟨_, List.getElem?_eq_getElem (by omega)⟩
 obtain ⟨on, ol, orr, cn, cl, crr, rfl, -⟩ := (h.cell i r c hr hc).now
 obtain ⟨gc, oc, rfl, hRA⟩ := hrw.now (by intro e; rw [e] at hlen; simp at hlen; omega)
 have HE := Lib.hid hE
 have HFT := Lib.hid h
 have HRA := Lib.hid hRA
 have HR := Lib.hid hr
 have HCI := Lib.hid hc
 have HUU := Lib.hid hu
 have HSV := Lib.hid (Fm.settle_valid (v := u) hv hc hl hf)
 have HVT := Lib.hid hv
 have HFL : Hid (rows.flatten.length = t.cells.length * 8) := Lib.hid (by rw [flat_len8 h.wid, hlen])
 have HCK := Lib.hid (fun X (hX : Below w0.heap.size w0 X) => sl_addr8 h.wid (hRA.keep hX))
 have HON : Hid (∀ u ∈ rows.flatten, u.oneCell' = true) := Lib.hid (rows_one h.wid (fun k u hu => ⟨_, List.getElem?_eq_getElem (by have := (List.getElem?_eq_some_iff.1 hu).1; omega)⟩) (fun k r u hr hu => (h.cell k r u hr hu).now))
 have HRO := Lib.hid hro
 clear h hat hE hro hrw hRA hr hc hv hu
 generalize hJ : t.root.length = J at *
 generalize hN : t.cells.length = N at *
 have HL : LenIs t J N := ⟨hJ, hN⟩
 have HLN := Lib.hid hlen
 clear hJ hN hlen
 go_enter Tryz.func65, Tryz.ntmps65
 go_wp2_with fail
 obtain ⟨n3, n5, n6, e3, e5, e6, hx3, hx5, hx6, hb1⟩ := news3 w0 [.slice or J cr, .slice (some ⟨gc, oc, none⟩) N cc] [.int .i64 u.kind, .slice un u.normals.length un2, .int .i64 u.pair, .slice ul u.left.length ul2, .slice ur u.right.length ur2] [.slice none 0 0, .slice none 0 0] 36 83 36
 rw [← e6, ← e5, ← e3]
 generalize ((w0.alloc (.cells [.slice or J cr, .slice (some ⟨gc, oc, none⟩) N cc].toArray 36)).alloc (.cells [.int .i64 u.kind, .slice un u.normals.length un2, .int .i64 u.pair, .slice ul u.left.length ul2, .slice ur u.right.length ur2].toArray 83)).alloc (.cells [.slice none 0 0, .slice none 0 0].toArray 36) = W1 at hx3 hx5 hx6 hb1 ⊢
 have hs3 : w0.heap.size ≤ n3 := by omega
 have hs6 : w0.heap.size ≤ n6 := by omega
 have hne36 : n3 ≠ n6 := by omega
 clear e3 e5 e6
 go_wp2_with fail
 refine (H32.out W1 hb1).mono ?_
 rintro e W2 ⟨rfl, hw2⟩
 have hx3 := hx3.keep hw2
 have hx5 := hx5.keep hw2
 have hx6 := hx6.keep hw2
 have hb2 := below_call hb1 hw2
 clear hb1 hw2
 have HX6 := Lib.hid hx6
 have HX5 := Lib.hid hx5
 have HX3 := Lib.hid hx3
 have HB2 := Lib.hid hb2
 have hRA2 := HRA.out.keep hb2
 obtain ⟨z0, z1, z2, z3, z4, z5, z6, z7, gl⟩ := row8 hRA2 HR.out
 have y0 := hx3.c 0 _ rfl
 have y1 := hx3.c 1 _ rfl
 have ly := hx3.lt
 clear hx3 hx5 hx6 hb2 hRA2
 have hii : decide ((i : Int) < 0) = false := decide_eq_false (by omega)
 have hiN1 : decide ((N : Int) ≤ (i : Int)) = false := decide_eq_false (by omega)
 have hiN2 : decide (N ≤ i) = false := decide_eq_false (by omega)
 go_wp2_with fail
 refine (leaf90 c on ol orr cn cl crr _).mono ?_
 rintro e W3 ⟨rfl, hw3⟩
 rw [hl]
 replace HX6 := Lib.hid (HX6.out.keep hw3)
 replace HX5 := Lib.hid (HX5.out.keep hw3)
 replace HX3 := Lib.hid (HX3.out.keep hw3)
 have HB3 := Lib.hid (below_call HB2.out hw3)
 clear z0 z1 z2 z3 z4 z5 z6 z7 gl y0 y1 ly hw3 HB2
 have hRA3 := HRA.out.keep HB3.out
 have z3 := (row8 hRA3 HR.out).2.2.2.1
 have gl := (row8 hRA3 HR.out).2.2.2.2.2.2.2.2
 have y0 := HX3.out.c 0 _ rfl
 have y1 := HX3.out.c 1 _ rfl
 have ly := HX3.out.lt
 have u0 := HX5.out.c 0 _ rfl
 have u1 := HX5.out.c 1 _ rfl
 have u2 := HX5.out.c 2 _ rfl
 have u3 := HX5.out.c 3 _ rfl
 have u4 := HX5.out.c 4 _ rfl
 have lu := HX5.out.lt
 clear hRA3
 by_cases hk0 : c.verd.kind = 0
 ·rw [hk0] at z3
  go_wp2_with fail
  refine (form91 u un ul ur un2 ul2 ur2 _).mono ?_
  rintro e w5 ⟨rfl, hw4⟩
  rw [hf]
  replace HX6 := Lib.hid (HX6.out.keep hw4)
  replace HX5 := Lib.hid (HX5.out.keep hw4)
  replace HX3 := Lib.hid (HX3.out.keep hw4)
  have HB4 := Lib.hid (below_call HB3.out hw4)
  clear z3 gl y0 y1 ly u0 u1 u2 u3 u4 lu hw4 HB3
  have hN1 : 0 < N := by omega
  have hN2 : N ≤ 100000 := by omega
  obtain ⟨i0, hi0, hz0, hz1, hz2⟩ := info_parts info85
  have HX3K := Lib.hid (fun X (hX : Below w5.heap.size w5 X) => (show X.cell? ⟨n3, 0, none⟩ = some (.slice or J cr) ∧ X.cell? ⟨n3, 1, none⟩ = some (.slice (some ⟨gc, oc, none⟩) N cc) ∧ n3 < X.heap.size from ⟨(HX3.out.keep hX).c 0 _ rfl, (HX3.out.keep hX).c 1 _ rfl, (HX3.out.keep hX).lt⟩))
  replace HCK := Lib.hid (fun X (hX : Below w5.heap.size w5 X) => HCK.out X (below_call HB4.out hX))
  have hS0 : Below w5.heap.size w5 w5.drew := (Below.refl _ _).drew
  have hs05 := HB4.out.size
  go_upto_region 3 with fail
  refine wp_region_inv (by kernel_rfl) (by kernel_rfl) (fun L a w => ∃ v48 v49 v50 v51 v52 v53 v8 : Value, a = { tmps := #[((Value.agg #[Value.slice or J cr, Value.slice (some ⟨gc, oc, none⟩) N cc])), ((Value.int IntKind.i64 ((i : Nat) : Int))), ((Value.agg #[Value.int IntKind.i64 u.kind, Value.slice un u.normals.length un2, Value.int IntKind.i64 u.pair, Value.slice ul u.left.length ul2, Value.slice ur u.right.length ur2])), ((Value.pointer (some ⟨n3, 0, none⟩))), undef, ((Value.pointer (some ⟨n5, 0, none⟩))), ((Value.pointer (some ⟨n6, 0, none⟩))), ((Value.bool false)), v8, ((Value.agg #[Value.slice or J cr, Value.slice (some ⟨gc, oc, none⟩) N cc])), ((Value.bool true)), ((Value.bool false)), ((Value.bool false)), ((Value.int IntKind.i64 ((i : Nat) : Int))), ((Value.bool false)), ((Value.bool false)), ((Value.bool false)), ((Value.int IntKind.i64 ((i : Nat) : Int))), ((Value.pointer (some ⟨n3, 1, none⟩))), ((Value.slice (some ⟨gc, oc, none⟩) N cc)), ((Value.int IntKind.i64 ((N : Nat) : Int))), ((Value.bool false)), ((Value.bool false)), ((Value.bool false)), ((Value.pointer (some ⟨n3, 1, none⟩))), ((Value.slice (some ⟨gc, oc, none⟩) N cc)), ((Value.int IntKind.i64 ((i : Nat) : Int))), ((Value.pointer (some ⟨gc, oc + i * 8, none⟩))), ((Value.agg #[Value.int IntKind.i64 c.joint, Value.int IntKind.i64 c.low, Value.int IntKind.i64 c.high, Value.int IntKind.i64 0, Value.slice on c.verd.normals.length cn, Value.int IntKind.i64 c.verd.pair, Value.slice ol c.verd.left.length cl, Value.slice orr c.verd.right.length crr])), ((Value.bool true)), ((Value.bool false)), ((Value.bool false)), ((Value.bool false)), ((Value.pointer (some ⟨n3, 1, none⟩))), ((Value.slice (some ⟨gc, oc, none⟩) N cc)), ((Value.int IntKind.i64 ((i : Nat) : Int))), ((Value.pointer (some ⟨gc, oc + i * 8, none⟩))), ((Value.pointer (some ⟨gc, oc + i * 8 + 3, none⟩))), ((Value.pointer (some ⟨gc, oc + i * 8 + 3, none⟩))), ((Value.int IntKind.i64 0)), ((Value.bool false)), ((Value.bool false)), ((Value.bool false)), ((Value.agg #[Value.int IntKind.i64 u.kind, Value.slice un u.normals.length un2, Value.int IntKind.i64 u.pair, Value.slice ul u.left.length ul2, Value.slice ur u.right.length ur2])), ((Value.bool true)), ((Value.bool false)), ((Value.bool false)), undef, v48, v49, v50, v51, v52, v53, undef, undef, undef, undef, undef, undef, undef], defers := [] } ∧ Cr3K w5 or n3 J cr gc oc N cc rows L v48 v49 v50 v51 v52 v53 v8 w) ?_ ?_ ?_
  ·exact ⟨_, _, _, _, _, _, _, rfl, ⟨hS0, nofun, nofun, nofun, nofun, nofun, nofun, nofun, nofun⟩⟩
  ·intro iq oq ho L a w hL hd hJ
   obtain ⟨v48, v49, v50, v51, v52, v53, v8, rfl, k⟩ := hJ
   have hiq : iq < 8 := by have := (Array.getElem?_eq_some_iff.1 ho).1; simpa using this
   match iq, hiq, ho, hL with
   | 0, _, ho, hL =>
    have ho2 := ho
    simp only [qz1, qz2, qz3, qz4] at ho
    subst ho
    refine wpOp_step ho2 (fun K hK => ?_)
    go_simp
    exact hK _ _ ⟨_, _, _, _, _, _, _, rfl, ⟨k.wf, fun _ => rfl, k.f1, k.f2, k.f3, k.f4, k.f5, k.f6, k.f7⟩⟩
   | 1, _, ho, hL =>
    have ho2 := ho
    simp only [qz1, qz2, qz3, qz4] at ho
    subst ho
    refine wpOp_step ho2 (fun K hK => ?_)
    obtain rfl := k.f0 (hd ⟨0, .data⟩ (by simp) rfl)
    obtain ⟨y0, y1, ly⟩ := HX3K.out w k.wf
    go_simp
    exact hK _ _ ⟨_, _, _, _, _, _, _, rfl, ⟨k.wf, k.f0, fun _ => rfl, k.f2, k.f3, k.f4, k.f5, k.f6, k.f7⟩⟩
   | 2, _, ho, hL =>
    have ho2 := ho
    simp only [qz1, qz2, qz3, qz4] at ho
    subst ho
    refine wpOp_step ho2 (fun K hK => ?_)
    go_simp
    exact hK _ _ ⟨_, _, _, _, _, _, _, rfl, ⟨k.wf, k.f0, k.f1, fun _ => rfl, k.f3, k.f4, k.f5, k.f6, k.f7⟩⟩
   | 3, _, ho, hL =>
    have ho2 := ho
    simp only [qz1, qz2, qz3, qz4] at ho
    subst ho
    refine wpOp_step ho2 (fun K hK => ?_)
    obtain rfl := k.f2 (hd ⟨2, .data⟩ (by simp) rfl)
    obtain ⟨y0, y1, ly⟩ := HX3K.out w k.wf
    go_simp
    exact hK _ _ ⟨_, _, _, _, _, _, _, rfl, ⟨k.wf, k.f0, k.f1, k.f2, fun _ => rfl, k.f4, k.f5, k.f6, k.f7⟩⟩
   | 4, _, ho, hL =>
    have ho2 := ho
    simp only [qz1, qz2, qz3, qz4] at ho
    subst ho
    refine wpOp_step ho2 (fun K hK => ?_)
    obtain rfl := k.f3 (hd ⟨3, .data⟩ (by simp) rfl)
    have hbw := k.wf
    have hzw := hbw.size
    refine step_append_lies _ rfl (.const (.slice none 0 0)) (.tmp 51) 34 rfl w5.heap.size 85 i0 (.agg #[.int .i64 0, .int .i64 0, .int .i64 0, .int .i64 0, .slice none 0 0, .int .i64 0, .slice none 0 0, .slice none 0 0]) 8 112 under34 hi0 hz0 hz1 hz2 rfl (by decide) (.slice none 0 0) 0 [] (by simp [Act.eval]) (World.ownsRow_nil _ _ _ _) ⟨gc, oc, none⟩ N cc rows.flatten (by simp [Act.eval]) HFL.out (HCK.out w hbw) HON.out hN1 (by unfold maxLen; omega) (by omega) hzw _ rfl ?_
    intro gN cN X hown hgrow hat hltN
    rw [Nat.zero_add] at hown
    simp only [Nat.zero_add]
    have hbX := nil_grow hgrow
    exact hK _ _ ⟨_, _, _, _, _, _, _, rfl, ⟨below_call hbw hbX, k.f0, k.f1, k.f2, k.f3, fun _ _ => ⟨gN, cN, rfl, hown⟩, fun h => absurd (hL.symm.trans (k.f5 h).1) (by decide), fun h e => (k.f6 h e).elim fun n h => ⟨n, h.1, h.2.1.keep hbX, h.2.2⟩, fun h => absurd (hL.symm.trans (k.f7 h).1) (by decide)⟩⟩
   | 5, _, ho, hL =>
    have ho2 := ho
    simp only [qz1, qz2, qz3, qz4] at ho
    subst ho
    refine wpOp_step ho2 (fun K hK => ?_)
    obtain rfl := k.f1 (hd ⟨1, .data⟩ (by simp) rfl)
    have h4 := hd ⟨4, .data⟩ (by simp) rfl
    have h7 : L 7 = false := by
     cases h : L 7 with
     | false => rfl
     | true => exact absurd (hL.symm.trans (k.f7 h).2.1) (by decide)
    obtain ⟨g, cap, rfl, ho⟩ := k.f4 h4 h7
    go_simp
    exact hK _ _ ⟨_, _, _, _, _, _, _, rfl, ⟨k.wf, k.f0, k.f1, k.f2, k.f3, fun _ _ => ⟨g, cap, rfl, ho⟩, fun _ => ⟨h4, rfl⟩, k.f6, fun h => absurd (h7.symm.trans h) (by decide)⟩⟩
   | 6, _, ho, hL =>
    have ho2 := ho
    simp only [qz1, qz2, qz3, qz4] at ho
    subst ho
    refine wpOp_step ho2 (fun K hK => ?_)
    have hb : Below w.heap.size w (w.alloc (.cells #[.slice none 0 0, .slice none 0 0] 36)) := (Below.refl _ _).alloc (Nat.le_refl _) _
    have hbx := Bx.new w [.slice none 0 0, .slice none 0 0] 36
    have hzw := k.wf.size
    have hbw := below_call k.wf hb
    go_simp
    exact hK _ _ ⟨_, _, _, _, _, _, _, rfl, ⟨hbw, k.f0, k.f1, k.f2, k.f3, fun h e => (k.f4 h e).elim fun g h => h.elim fun c h => ⟨g, c, h.1, own_keep h.2 hb⟩, k.f5, fun _ _ => ⟨w.heap.size, rfl, hbx, hzw⟩, fun h => absurd (hL.symm.trans (k.f7 h).2.2.1) (by decide)⟩⟩
   | 7, _, ho, hL =>
    have ho2 := ho
    simp only [qz1, qz2, qz3, qz4] at ho
    subst ho
    refine wpOp_step ho2 (fun K hK => ?_)
    have h5 := hd ⟨5, .data⟩ (by simp) rfl
    have h6 := hd ⟨6, .data⟩ (by simp) rfl
    obtain ⟨h4, rfl⟩ := k.f5 h5
    obtain ⟨g, cap, rfl, ho⟩ := k.f4 h4 hL
    obtain ⟨n, rfl, hbx, hn⟩ := k.f6 h6 hL
    have c0 := hbx.c 0 _ rfl
    have c1 := hbx.c 1 _ rfl
    have f0 := hbx.f 0
    have f1 := hbx.f 1
    have ln := hbx.lt
    have hA := hbx.put1 (.slice or J cr)
    have c1A := hA.c 1 _ rfl
    have f1A := hA.f 1
    have hp := put_two hbx (.slice or J cr) (.slice (some ⟨g, 0, none⟩) N cap)
    have hgn : g ≠ n := fun e => by
     obtain ⟨c, fz, h1⟩ := own_type ho g rfl
     rw [e, hbx.h] at h1
     injection h1 with h1
     injection h1 with _ h1 _
     exact absurd h1 (by decide)
    have ho2 := own_blk (W' := (w.setCell ⟨n, 0, none⟩ (.slice or J cr)).setCell ⟨n, 1, none⟩ (.slice (some ⟨g, 0, none⟩) N cap)) ho (fun k hk _ _ => by injection hk with hk; subst hk; rw [Below.heap_setCell _ ⟨n, 1, none⟩ _ _ hgn, Below.heap_setCell _ ⟨n, 0, none⟩ _ _ hgn])
    have hb2 := (k.wf.setCell (p := ⟨n, 0, none⟩) hn (.slice or J cr)).setCell (p := ⟨n, 1, none⟩) hn (.slice (some ⟨g, 0, none⟩) N cap)
    clear ho hA
    go_simp
    exact hK _ _ ⟨_, _, _, _, _, _, _, rfl, ⟨hb2, k.f0, k.f1, k.f2, k.f3, fun _ => nofun, k.f5, fun _ => nofun, fun _ => ⟨h4, h5, h6, n, g, cap, rfl, rfl, hp, ho2, hn⟩⟩⟩
   | n + 8, h, _, _ => omega
  ·intro L a w hL hJ
   obtain ⟨v48, v49, v50, v51, v52, v53, v8, rfl, k⟩ := hJ
   obtain rfl := k.f0 (hL 0 (by decide))
   obtain rfl := k.f1 (hL 1 (by decide))
   obtain rfl := k.f2 (hL 2 (by decide))
   obtain rfl := k.f3 (hL 3 (by decide))
   have hbw := k.wf
   obtain ⟨-, -, -, n14, g, cap, rfl, rfl, hx14, hown, hn14⟩ := k.f7 (hL 7 (by decide))
   obtain ⟨-, rfl⟩ := k.f5 (hL 5 (by decide))
   dsimp only
   clear k hL
   have hB5 := below_call HB4.out hbw
   have hs5 := hbw.size
   have hwid := HFT.out.wid
   have m0 := hx14.c 0 _ rfl
   have m1 := hx14.c 1 _ rfl
   have lm := hx14.lt
   have glt := (own_lt hown g rfl).1
   have hg5 := (own_lt hown g rfl).2
   have HX6b := Lib.hid (HX6.out.keep hbw)
   have HX5b := Lib.hid (HX5.out.keep hbw)
   have u0 := HX5b.out.c 0 _ rfl
   have u1 := HX5b.out.c 1 _ rfl
   have u2 := HX5b.out.c 2 _ rfl
   have u3 := HX5b.out.c 3 _ rfl
   have u4 := HX5b.out.c 4 _ rfl
   have lu := HX5b.out.lt
   have HX14 := Lib.hid hx14
   have HOW := Lib.hid hown
   have HB5 := Lib.hid hB5
   have hgn : g ≠ n14 := fun e => by
    obtain ⟨c, fz, h1⟩ := own_type HOW.out g rfl
    rw [e, HX14.out.h] at h1
    injection h1 with h1
    injection h1 with _ h1 _
    exact absurd h1 (by decide)
   have hg6 : g ≠ n6 := fun e => by
    obtain ⟨c, fz, h1⟩ := own_type HOW.out g rfl
    rw [e, HX6b.out.h] at h1
    injection h1 with h1
    injection h1 with _ h1 _
    exact absurd h1 (by decide)
   clear hx14 hown hB5 hbw
   obtain ⟨p0, p1, p2, p3, p4, r0, s0, r1, s1, r2, s2, r3, s3, r4, s4⟩ := factsN5 (o := i * 8 + 3) (own_Blk HOW.out hN1) (by rw [HFL.out]; omega) (.int .i64 u.kind) (.slice un u.normals.length un2) (.int .i64 u.pair) (.slice ul u.left.length ul2)
   have hown7 := ownN5 (o := i * 8 + 3) HOW.out hN1 (.int .i64 u.kind) (.slice un u.normals.length un2) (.int .i64 u.pair) (.slice ul u.left.length ul2) (.slice ur u.right.length ur2)
   have hoth7 := othN5 w g (i * 8 + 3) (.int .i64 u.kind) (.slice un u.normals.length un2) (.int .i64 u.pair) (.slice ul u.left.length ul2) (.slice ur u.right.length ur2)
   have hbel7 := belN5 w g (i * 8 + 3) w0.heap.size (by omega) (.int .i64 u.kind) (.slice un u.normals.length un2) (.int .i64 u.pair) (.slice ul u.left.length ul2) (.slice ur u.right.length ur2)
   have hX14 := oth_bx HX14.out hoth7 (fun e => hgn e.symm)
   have hX6 := oth_bx HX6b.out hoth7 (fun e => hg6 e.symm)
   have hB7 := HB5.out.trans hbel7
   rw [← flat_put5 (.int .i64 c.joint) (.int .i64 c.low) (.int .i64 c.high) (.int .i64 u.kind) (.slice un u.normals.length un2) (.int .i64 u.pair) (.slice ul u.left.length ul2) (.slice ur u.right.length ur2) HFT.out.wid HR.out rfl rfl rfl] at hown7
   unfold setN5 at hown7 hX14 hX6 hB7
   have HOW7 := Lib.hid hown7
   clear hoth7 hbel7 hown7
   go_upto_region 5 with fail
   generalize ((((w.setCell ⟨g, i * 8 + 3, none⟩ (.int .i64 u.kind)).setCell ⟨g, i * 8 + 3 + 1, none⟩ (.slice un u.normals.length un2)).setCell ⟨g, i * 8 + 3 + 2, none⟩ (.int .i64 u.pair)).setCell ⟨g, i * 8 + 3 + 3, none⟩ (.slice ul u.left.length ul2)).setCell ⟨g, i * 8 + 3 + 4, none⟩ (.slice ur u.right.length ur2) = W7 at hX14 hX6 hB7 HOW7 ⊢
   clear r0 s0 r1 s1 r2 s2 r3 s3 r4 s4 m0 m1 lm u0 u1 u2 u3 u4 lu glt
   have m0 := hX14.c 0 _ rfl
   have m1 := hX14.c 1 _ rfl
   have lm := hX14.lt
   have c0 := hX6.c 0 _ rfl
   have c1 := hX6.c 1 _ rfl
   have f0 := hX6.f 0
   have f1 := hX6.f 1
   have l6 := hX6.lt
   have hA := hX6.put1 (.slice or J cr)
   have c1A := hA.c 1 _ rfl
   have f1A := hA.f 1
   have HXF := Lib.hid (put_two hX6 (.slice or J cr) (.slice (some ⟨g, 0, none⟩) N cap))
   have HBF := Lib.hid ((hB7.setCell (p := ⟨n6, 0, none⟩) hs6 (.slice or J cr)).setCell (p := ⟨n6, 1, none⟩) hs6 (.slice (some ⟨g, 0, none⟩) N cap))
   have HOX := Lib.hid (own_blk (W' := (W7.setCell ⟨n6, 0, none⟩ (.slice or J cr)).setCell ⟨n6, 1, none⟩ (.slice (some ⟨g, 0, none⟩) N cap)) HOW7.out (fun k hk _ _ => by
    injection hk with hk
    subst hk
    rw [Below.heap_setCell _ ⟨n6, 1, none⟩ _ _ hg6, Below.heap_setCell _ ⟨n6, 0, none⟩ _ _ hg6]))
   clear hA hX14 hX6 hB7
   go_wp2
   generalize (W7.setCell ⟨n6, 0, none⟩ (.slice or J cr)).setCell ⟨n6, 1, none⟩ (.slice (some ⟨g, 0, none⟩) N cap) = XF at HXF HBF HOX ⊢
   have c0F := HXF.out.c 0 _ rfl
   have c1F := HXF.out.c 1 _ rfl
   have HFS := Lib.hid (ft_settle (J := J) (cr := cr) (cn := un2) (cl := ul2) (crr := ur2) HFT.out HRO.out HL.a HCI.out HUU.out HBF.out HE.out hs05 (by rw [HL.b]; exact HOX.out))
   rw [HL.b] at HFS
   refine bodyPost_ret (v := .tuple #[.agg #[.slice or J cr, .slice (some ⟨g, 0, none⟩) N cap], .bool true]) (by simp [results, Tryz.results65, go_sem, c0F, c1F]) rfl ?_
   exact ⟨_, _, _, _, rfl, HFS.out, .inr rfl, HSV.out, HBF.out⟩
 ·have hkk : (c.verd.kind == 0) = false := by simpa using hk0
  have hkd : decide (c.verd.kind = 0) = false := decide_eq_false hk0
  have c0 := HX6.out.c 0 _ rfl
  have c1 := HX6.out.c 1 _ rfl
  have f0 := HX6.out.f 0
  have f1 := HX6.out.f 1
  have l6 := HX6.out.lt
  have hA := HX6.out.put1 (.slice or J cr)
  have c1A := hA.c 1 _ rfl
  have f1A := hA.f 1
  have HXF := Lib.hid (put_two HX6.out (.slice or J cr) (.slice (some ⟨gc, oc, none⟩) N cc))
  have HBF := Lib.hid ((HB3.out.setCell (p := ⟨n6, 0, none⟩) hs6 (.slice or J cr)).setCell (p := ⟨n6, 1, none⟩) hs6 (.slice (some ⟨gc, oc, none⟩) N cc))
  clear hA
  go_wp2
  generalize (W3.setCell ⟨n6, 0, none⟩ (.slice or J cr)).setCell ⟨n6, 1, none⟩ (.slice (some ⟨gc, oc, none⟩) N cc) = XF at HXF HBF ⊢
  have c0F := HXF.out.c 0 _ rfl
  have c1F := HXF.out.c 1 _ rfl
  refine bodyPost_ret (v := .tuple #[.agg #[.slice or J cr, .slice (some ⟨gc, oc, none⟩) N cc], .bool false]) (by simp [results, Tryz.results65, go_sem, c0F, c1F]) rfl ?_
  exact ⟨_, _, t, rows, rfl, HFT.out.keep HBF.out, .inl rfl, HVT.out, HBF.out⟩
end Go.Proofs.Ng
end

