/-
  Texts put together: Ae Af Ag Ah Ca.
-/
import Derived.Test.YthcmkpcefiiiaaaGreatDoorZFormatCanonicalCard3
import Derived.Laws.BytesArg
import Derived.Test.YthcmkpcefiiiaaaGreatDoorZFormatCanonicalCard1
set_option linter.unusedVariables false
section
/-
 Walks: the writer's path.
-/
namespace Go.Proofs.Ng
open Go.RowKit
theorem edgeT_eq (e : Fm.EdgeD) : Fm.edgeT e = Fm.lineT Fm.kwEdge [(e.table.length : Nat), (e.uses.length : Nat)] ++ flT normT e.table ++ flT Fm.useT e.uses := rfl
theorem pathT_eq (p : Fm.PathD) : Fm.pathT p = Fm.lineT Fm.kwPath [(p.pts.length : Nat)] ++ flT (Fm.lineT Fm.kwPoint) p.pts ++ flT Fm.edgeT p.edges := rfl
theorem useT_eq (u : Fm.UseD) : Fm.useT u = Fm.kwUse ++ numsT [u.depth] ++ numsT [u.index] ++ numsT u.nums ++ [10] := by
 unfold Fm.useT
 rw [lineT_eq, show u.depth :: u.index :: u.nums = [u.depth] ++ ([u.index] ++ u.nums) from rfl, numsT_app, numsT_app]
 simp only [List.append_assoc]
theorem edgeT_pos (e : Fm.EdgeD) : 1 ≤ (Fm.edgeT e).length := by
 rw [edgeT_eq, List.length_append, List.length_append]
 have := lineT_pos Fm.kwEdge [(e.table.length : Nat), (e.uses.length : Nat)]
 omega
theorem line_nn (a c : Nat) (ha : a ≤ 1048576) (hc : c ≤ 1048576) : ∀ n ∈ [((a : Nat) : Int), ((c : Nat) : Int)], Fm.inR64 n := by
 intro n hn
 simp only [List.mem_cons, List.not_mem_nil, or_false] at hn
 rcases hn with rfl | rfl
 ·exact Fm.sz_in ha
 ·exact Fm.sz_in hc
set_option maxRecDepth 100000 in
set_option maxHeartbeats 8000000 in
theorem path35 (w0 w : World) (b : Nat) (t : List UInt8) (pv : Value) (p : Fm.PathD) (hb0 : Below w0.heap.size w0 w) (hP : PathAt w0 pv p) (h : ∃ v, WrS w w0.heap.size b t v) (hr : Fm.PathOk p) (hl : t.length + (Fm.pathT p).length ≤ 1048576) (htab : TabW w0.heap.size w0) :
  Calls Tryz.prog 51 #[.pointer (some ⟨b, 0, none⟩), pv] w (WrP w0.heap.size b (t ++ Fm.pathT p) w) := by
 obtain ⟨op, np, oe, ne, rfl, hPt, hEd⟩ := hP
 have hp1 : p.pts.length ≤ 1048576 := hr.np
 have hp2 : p.edges.length ≤ 1048576 := by
  have := flT_ge edgeT_pos p.edges
  rw [pathT_eq, List.length_append, List.length_append] at hl
  omega
 have hb1 : Below w.heap.size w (w.alloc (.cells #[.slice op p.pts.length np, .slice oe p.edges.length ne] 29)) := (Below.refl _ _).alloc (Nat.le_refl _) _
 have hbx := Bx.new w [.slice op p.pts.length np, .slice oe p.edges.length ne] 29
 obtain ⟨v, hW⟩ := h
 have hF1 := Fr.of (b := b) hW.sz hb1
 have hne : w.heap.size ≠ b := by have := hW.lt; omega
 have HW := Lib.hid (hW.keep hb1)
 have HFA := Lib.hid hF1
 have HB := Lib.hid (hb0.trans hF1.bel)
 have HP := Lib.hid hPt
 have HE := Lib.hid hEd
 have HR := Lib.hid hr
 have HL := Lib.hid hl
 have HT := Lib.hid htab
 have HX := Lib.hid hbx
 clear hb0 hPt hEd hr hl htab hbx hb1 hF1 hW
 go_enter Tryz.func51, Tryz.ntmps51
 go_wp2_with fail
 have hsz : (w.alloc (.cells #[.slice op p.pts.length np, .slice oe p.edges.length ne] 29)).heap.size = w.heap.size + 1 := by simp
 generalize w.alloc (.cells #[.slice op p.pts.length np, .slice oe p.edges.length ne] 29) = w1 at HW HFA HB HX hsz ⊢
 generalize w.heap.size = n at HX hsz hne ⊢
 rw [pathT_eq, List.length_append, List.length_append] at HL
 have h2b : Below w1.heap.size w1 (w1.alloc (.cells #[.int .i64 (p.pts.length : Nat)] 3)) := (Below.refl _ _).alloc (Nat.le_refl _) _
 have h2N := Ns.new w1 w0.heap.size b [((p.pts.length : Nat) : Int)] 3 (by decide) HW.out.lt
 rw [hsz] at h2N
 have h2F := Fr.of (b := b) HW.out.sz h2b
 have HF2 := Lib.hid h2F
 have HC := Lib.hid (line56 _ w0.heap.size b t ⟨#[112, 97, 116, 104]⟩ _ 1 [((p.pts.length : Nat) : Int)] ⟨v, HW.out.keep h2b⟩ h2N (by intro m hm; rw [List.mem_singleton] at hm; subst hm; exact Fm.sz_in hp1) (by have h1 := HL.out; simp only [Fm.kwPath] at h1; show t.length + (Fm.lineT [112, 97, 116, 104] [((p.pts.length : Nat) : Int)]).length ≤ 1048576; omega) (HT.out.on (HB.out.trans h2F.bel)))
 clear h2b h2N h2F
 refine HC.out.mono ?_
 clear HC
 rintro e W2 ⟨rfl, v2, hW2, hF2⟩
 have HW2 := Lib.hid hW2
 have HF3 := Lib.hid (HF2.out.trans hF2)
 clear hW2 hF2 HF2
 have hx2 := HX.out.fr HF3.out hne (by decide)
 have c20 := hx2.c 0 _ rfl
 have c21 := hx2.lt
 clear hx2
 go_wp2_with fail
 clear c20 c21
 generalize ht1 : t ++ Fm.lineT (⟨#[112, 97, 116, 104]⟩ : ByteArray).data.toList [((p.pts.length : Nat) : Int)] = t1 at HW2
 have HL1 : Hid (t1.length + (flT (Fm.lineT Fm.kwPoint) p.pts).length + (flT Fm.edgeT p.edges).length ≤ 1048576) := Lib.hid (by
  have := HL.out
  rw [← ht1, List.length_append]
  simp only [Fm.kwPath] at this
  simp only []
  omega)
 go_loopw [19] (fun i W => ∃ k : Nat, k ≤ p.pts.length ∧ i = .int .i64 (k : Nat) ∧ (∃ v, WrS W w0.heap.size b (t1 ++ flT (Fm.lineT Fm.kwPoint) (p.pts.take k)) v) ∧ Fr w0.heap.size b w1 W) (fun i _ => p.pts.length - (intOf i).toNat)
 case atStart => exact ⟨0, Nat.zero_le _, rfl, ⟨_, by rw [List.take_zero, show flT (Fm.lineT Fm.kwPoint) [] = [] from rfl, List.append_nil]; exact HW2.out⟩, HF3.out⟩
 case round =>
  obtain ⟨k, hk, rfl, ⟨v1, hW⟩, hF⟩ := hrel
  clear HW2 HF3
  by_cases hlt : k < p.pts.length
  ·obtain ⟨x, hx⟩ : ∃ x, p.pts[k]? = some x := ⟨_, List.getElem?_eq_getElem hlt⟩
   have hxr := HR.out.pts x (List.mem_of_getElem? hx)
   have hbw := HB.out.trans hF.bel
   obtain ⟨g, off, ox, cx, hon, x0', glt', hsx⟩ := HP.out.get hx
   subst hon
   have x0 : wr.cell? ⟨g, off + k, none⟩ = some (.slice ox x.length cx) := (hbw.cell (p := ⟨g, off + k, none⟩) glt').trans x0'
   have glt : g < wr.heap.size := Nat.lt_of_lt_of_le glt' hbw.size
   have hlen : (t1 ++ flT (Fm.lineT Fm.kwPoint) (p.pts.take k)).length + (Fm.lineT Fm.kwPoint x).length ≤ 1048576 := by
    have h1 := HL1.out
    have h2 := flT_le (Fm.lineT Fm.kwPoint) p.pts (k + 1)
    rw [flT_take hx] at h2
    simp only [List.length_append] at h2 ⊢
    omega
   have H57 := Lib.hid (line57 wr w0.heap.size b _ ⟨#[112, 111, 105, 110, 116]⟩ ox cx x ⟨v1, hW⟩ (Ns.old hsx hbw b) hxr hlen (HT.out.on hbw))
   have HF := Lib.hid hF
   have HT2 := Lib.hid (flT_take (f := Fm.lineT Fm.kwPoint) hx)
   clear hlen hW hF hx hxr hbw hsx x0' glt'
   go_wp2_with fail
   refine H57.out.mono ?_
   rintro e W3 ⟨rfl, v3, hW3, hF3⟩
   have HW3 : Hid (WrS W3 w0.heap.size b (t1 ++ flT (Fm.lineT Fm.kwPoint) (p.pts.take (k + 1))) v3) := Lib.hid (by rw [HT2.out, ← List.append_assoc]; exact hW3)
   have HF3 := Lib.hid (HF.out.trans hF3)
   clear hW3 hF3 HF H57 x0
   go_wp2_with fail
   go_roundw
   case rel => exact ⟨k + 1, by omega, by simp, ⟨_, HW3.out⟩, HF3.out⟩
   case measure => simp [intOf]; omega
  ·have hke : k = p.pts.length := by omega
   subst hke
   rw [List.take_length] at hW
   have HW := Lib.hid hW
   have HF := Lib.hid hF
   have hx2 := HX.out.fr hF hne (by decide)
   have c20 := hx2.c 1 _ rfl
   have c21 := hx2.lt
   clear hW hF hx2
   go_wp2_with fail
   clear c20 c21
   generalize ht2 : t1 ++ flT (Fm.lineT Fm.kwPoint) p.pts = t2 at HW
   have HL2 : Hid (t2.length + (flT Fm.edgeT p.edges).length ≤ 1048576) := Lib.hid (by
    have h1 := HL1.out
    rw [← ht2, List.length_append]
    omega)
   have HT12 := Lib.hid ht2
   clear ht2
   go_loopw [30] (fun i W => ∃ k : Nat, k ≤ p.edges.length ∧ i = .int .i64 (k : Nat) ∧ (∃ v, WrS W w0.heap.size b (t2 ++ flT Fm.edgeT (p.edges.take k)) v) ∧ Fr w0.heap.size b w1 W) (fun i _ => p.edges.length - (intOf i).toNat)
   case atStart => exact ⟨0, Nat.zero_le _, rfl, ⟨_, by rw [List.take_zero, show flT Fm.edgeT [] = [] from rfl, List.append_nil]; exact HW.out⟩, HF.out⟩
   case round =>
    obtain ⟨k, hk, rfl, ⟨v1, hW⟩, hF⟩ := hrel
    clear HW HF
    by_cases hlt : k < p.edges.length
    ·obtain ⟨x, hx⟩ : ∃ x, p.edges[k]? = some x := ⟨_, List.getElem?_eq_getElem hlt⟩
     obtain ⟨hx1, hx2, hx3, hx4⟩ := HR.out.tb x (List.mem_of_getElem? hx)
     have hbw := HB.out.trans hF.bel
     obtain ⟨g, off, ot, nt, ou, nu, hon, glt', x0', x1', hst, hsu⟩ := HE.out.get hx
     subst hon
     have x0 : wr.cell? ⟨g, off + k * 2, none⟩ = some (.slice ot x.table.length nt) := (hbw.cell (p := ⟨g, off + k * 2, none⟩) glt').trans x0'
     have x1 : wr.cell? ⟨g, off + k * 2 + 1, none⟩ = some (.slice ou x.uses.length nu) := (hbw.cell (p := ⟨g, off + k * 2 + 1, none⟩) glt').trans x1'
     have glt : g < wr.heap.size := Nat.lt_of_lt_of_le glt' hbw.size
     have hlen : (t2 ++ flT Fm.edgeT (p.edges.take k)).length + (Fm.edgeT x).length ≤ 1048576 := by
      have h1 := HL2.out
      have h2 := flT_le Fm.edgeT p.edges (k + 1)
      rw [flT_take hx] at h2
      simp only [List.length_append] at h2 ⊢
      omega
     have HT3 := Lib.hid (flT_take (f := Fm.edgeT) hx)
     generalize ht3 : t2 ++ flT Fm.edgeT (p.edges.take k) = t3 at hW hlen
     have HT4 : Hid (t2 ++ flT Fm.edgeT (p.edges.take (k + 1)) = t3 ++ Fm.edgeT x) := Lib.hid (by rw [HT3.out, ← ht3, List.append_assoc])
     clear ht3 HT3
     rw [edgeT_eq, List.length_append, List.length_append] at hlen
     have hb3 : Below wr.heap.size wr (wr.alloc (.cells #[.slice ot x.table.length nt, .slice ou x.uses.length nu] 73)) := (Below.refl _ _).alloc (Nat.le_refl _) _
     have hbx := Bx.new wr [.slice ot x.table.length nt, .slice ou x.uses.length nu] 73
     have hf3 := Fr.of (b := b) hW.sz hb3
     have hne3 : wr.heap.size ≠ b := by have := hW.lt; omega
     have HW3 := Lib.hid (hW.keep hb3)
     have HF3 := Lib.hid (hF.trans hf3)
     have HB3 := Lib.hid (hbw.trans hf3.bel)
     have HX3 := Lib.hid hbx
     have HST := Lib.hid hst
     have HSU := Lib.hid hsu
     have HL3 := Lib.hid hlen
     have HX34 := Lib.hid (And.intro hx3 hx4)
     clear hlen hW hF hx hbw hst hsu x0' x1' glt' hb3 hbx hf3 hx3 hx4
     go_wp2_with fail
     have hsz3 : (wr.alloc (.cells #[.slice ot x.table.length nt, .slice ou x.uses.length nu] 73)).heap.size = wr.heap.size + 1 := by simp
     generalize wr.alloc (.cells #[.slice ot x.table.length nt, .slice ou x.uses.length nu] 73) = w3 at HW3 HF3 HB3 HX3 hsz3 ⊢
     clear x0 x1 glt
     generalize wr.heap.size = n3 at HX3 hsz3 hne3 ⊢
     have h2b : Below w3.heap.size w3 (w3.alloc (.cells #[.int .i64 (x.table.length : Nat), .int .i64 (x.uses.length : Nat)] 3)) := (Below.refl _ _).alloc (Nat.le_refl _) _
     have h2N := Ns.new w3 w0.heap.size b [((x.table.length : Nat) : Int), ((x.uses.length : Nat) : Int)] 3 (by decide) HW3.out.lt
     rw [hsz3] at h2N
     have h2F := Fr.of (b := b) HW3.out.sz h2b
     have HF4 := Lib.hid h2F
     have HC := Lib.hid (line56 _ w0.heap.size b t3 ⟨#[101, 100, 103, 101]⟩ _ 2 [((x.table.length : Nat) : Int), ((x.uses.length : Nat) : Int)] ⟨_, HW3.out.keep h2b⟩ h2N (line_nn _ _ hx1 hx2) (by have h1 := HL3.out; show t3.length + (Fm.lineT [101, 100, 103, 101] [((x.table.length : Nat) : Int), ((x.uses.length : Nat) : Int)]).length ≤ 1048576; simp only [Fm.kwEdge] at h1; omega) (HT.out.on (HB3.out.trans h2F.bel)))
     clear h2b h2N h2F
     refine HC.out.mono ?_
     clear HC HW3
     rintro e W4 ⟨rfl, v4, hW4, hF4⟩
     have HW4 : Hid (WrS W4 w0.heap.size b (t3 ++ Fm.lineT Fm.kwEdge [((x.table.length : Nat) : Int), ((x.uses.length : Nat) : Int)]) v4) := Lib.hid hW4
     -- all since w3
     have HF5 := Lib.hid (HF4.out.trans hF4)
     clear hW4 hF4 HF4
     have hx3 := HX3.out.fr HF5.out hne3 (by decide)
     have c30 := hx3.c 0 _ rfl
     have c31 := hx3.lt
     clear hx3
     have HC := Lib.hid (normals58 w0 W4 b _ ot nt x.table (HB3.out.trans HF5.out.bel) HST.out ⟨_, HW4.out⟩ HX34.out.1 (by have h1 := HL3.out; rw [List.length_append]; omega) HT.out)
     go_wp2_with fail
     refine HC.out.mono ?_
     clear HC HW4
     rintro e W5 ⟨rfl, v5, hW5, hF5⟩
     have HW5 := Lib.hid hW5
     have HF6 := Lib.hid (HF5.out.trans hF5)
     clear hW5 hF5 HF5 c30 c31
     have hx3 := HX3.out.fr HF6.out hne3 (by decide)
     have c31 := hx3.c 1 _ rfl
     have c32 := hx3.lt
     clear hx3
     go_wp2_with fail
     clear c31 c32
     have HL5 : Hid ((t3 ++ Fm.lineT Fm.kwEdge [((x.table.length : Nat) : Int), ((x.uses.length : Nat) : Int)] ++ flT normT x.table).length + (flT Fm.useT x.uses).length ≤ 1048576) := Lib.hid (by
      have h1 := HL3.out
      simp only [List.length_append] at h1 ⊢
      omega)
     have HT5 : Hid (t3 ++ Fm.edgeT x = (t3 ++ Fm.lineT Fm.kwEdge [((x.table.length : Nat) : Int), ((x.uses.length : Nat) : Int)] ++ flT normT x.table) ++ flT Fm.useT x.uses) := Lib.hid (by rw [edgeT_eq]; simp only [List.append_assoc])
     generalize t3 ++ Fm.lineT Fm.kwEdge [((x.table.length : Nat) : Int), ((x.uses.length : Nat) : Int)] ++ flT normT x.table = t5 at HL5 HT5 HW5
     clear HL3 HST
     go_loopw [50] (fun i W => ∃ k : Nat, k ≤ x.uses.length ∧ i = .int .i64 (k : Nat) ∧ (∃ v, WrS W w0.heap.size b (t5 ++ flT Fm.useT (x.uses.take k)) v) ∧ Fr w0.heap.size b w3 W) (fun i _ => x.uses.length - (intOf i).toNat)
     case atStart => exact ⟨0, Nat.zero_le _, rfl, ⟨_, by rw [List.take_zero, show flT Fm.useT [] = [] from rfl, List.append_nil]; exact HW5.out⟩, HF6.out⟩
     case round =>
      obtain ⟨j, hj, rfl, ⟨v6, hW⟩, hF⟩ := hrel
      clear HW5 HF6
      by_cases hltj : j < x.uses.length
      ·obtain ⟨y, hy⟩ : ∃ y, x.uses[j]? = some y := ⟨_, List.getElem?_eq_getElem hltj⟩
       have hyr := HX34.out.2 y (List.mem_of_getElem? hy)
       have hbw := HB3.out.trans hF.bel
       obtain ⟨g5, off5, oy, cy, hon5, glt', x0', x1', x2', hsy⟩ := HSU.out.get hy
       subst hon5
       have x0 : wr.cell? ⟨g5, off5 + j * 3, none⟩ = some (.int .i64 y.depth) := (hbw.cell (p := ⟨g5, off5 + j * 3, none⟩) glt').trans x0'
       have x1 : wr.cell? ⟨g5, off5 + j * 3 + 1, none⟩ = some (.int .i64 y.index) := (hbw.cell (p := ⟨g5, off5 + j * 3 + 1, none⟩) glt').trans x1'
       have x2 : wr.cell? ⟨g5, off5 + j * 3 + 2, none⟩ = some (.slice oy y.nums.length cy) := (hbw.cell (p := ⟨g5, off5 + j * 3 + 2, none⟩) glt').trans x2'
       have glt : g5 < wr.heap.size := Nat.lt_of_lt_of_le glt' hbw.size
       have hlen : (t5 ++ flT Fm.useT (x.uses.take j)).length + (Fm.useT y).length ≤ 1048576 := by
        have h1 := HL5.out
        have h2 := flT_le Fm.useT x.uses (j + 1)
        rw [flT_take hy] at h2
        simp only [List.length_append] at h2 ⊢
        omega
       have HT6 := Lib.hid (flT_take (f := Fm.useT) hy)
       generalize ht6 : t5 ++ flT Fm.useT (x.uses.take j) = t6 at hW hlen
       have HT7 : Hid (t5 ++ flT Fm.useT (x.uses.take (j + 1)) = t6 ++ Fm.useT y) := Lib.hid (by rw [HT6.out, ← ht6, List.append_assoc])
       clear ht6 HT6
       rw [useT_eq] at hlen HT7
       simp only [List.length_append, List.length_cons, List.length_nil] at hlen
       have hb3 : Below wr.heap.size wr (wr.alloc (.cells #[.int .i64 y.depth, .int .i64 y.index, .slice oy y.nums.length cy] 75)) := (Below.refl _ _).alloc (Nat.le_refl _) _
       have hbx := Bx.new wr [.int .i64 y.depth, .int .i64 y.index, .slice oy y.nums.length cy] 75
       have hf3 := Fr.of (b := b) hW.sz hb3
       have hne9 : wr.heap.size ≠ b := by have := hW.lt; omega
       have HW7 := Lib.hid (hW.keep hb3)
       have HF7 := Lib.hid (hF.trans hf3)
       have HB7 := Lib.hid (hbw.trans hf3.bel)
       have HX7 := Lib.hid hbx
       have HSY := Lib.hid hsy
       have HYR := Lib.hid hyr
       have HL7 := Lib.hid hlen
       clear hlen hW hF hy hbw hsy x0' x1' x2' glt' hb3 hbx hf3 hyr
       have H59 := Lib.hid (full59 _ w0.heap.size b t6 v6 HW7.out (by have := HL7.out; omega))
       go_wp2_with fail
       refine H59.out.mono ?_
       rintro e w7 ⟨rfl, hw7⟩
       rw [← hw7] at HW7 HF7 HB7 HX7
       clear hw7 H59 x0 x1 x2 glt
       generalize wr.heap.size = n9 at HX7 hne9 ⊢
       have H60 := Lib.hid (open60 w7 w0.heap.size b t6 v6 ⟨#[117, 115, 101]⟩ HW7.out (by have h1 := HL7.out; simp only [Fm.kwUse, List.length_cons, List.length_nil] at h1; show t6.length + 3 ≤ 1048576; omega))
       go_wp2_with fail
       refine H60.out.mono ?_
       clear H60 HW7
       rintro e w8 ⟨rfl, v8, hW8, hF8⟩
       have HW8 : Hid (WrS w8 w0.heap.size b (t6 ++ Fm.kwUse) v8) := Lib.hid hW8
       have HF8 := Lib.hid hF8
       clear hW8 hF8
       have hx9 := HX7.out.fr HF8.out hne9 (by decide)
       have c90 := hx9.c 0 _ rfl
       have c91 := hx9.lt
       clear hx9
       have h2b : Below w8.heap.size w8 (w8.alloc (.cells #[.int .i64 y.depth] 3)) := (Below.refl _ _).alloc (Nat.le_refl _) _
       have h2F := Fr.of (b := b) HW8.out.sz h2b
       have H61 := Lib.hid (add61 _ w0.heap.size b (t6 ++ Fm.kwUse) v8 _ 1 [y.depth] (HW8.out.keep h2b) (Ns.new w8 w0.heap.size b [y.depth] 3 (by decide) HW8.out.lt) (by intro m hm; rw [List.mem_singleton] at hm; subst hm; exact HYR.out _ (by simp)) (by have h1 := HL7.out; rw [List.length_append]; omega) (HT.out.on (HB7.out.trans (HF8.out.trans h2F).bel)))
       have HF9 := Lib.hid (HF8.out.trans h2F)
       clear h2b h2F HW8 HF8
       go_wp2_with fail
       refine H61.out.mono ?_
       clear H61 c90 c91
       rintro e w9 ⟨rfl, v9, hW9, hF9⟩
       have HW9 : Hid (WrS w9 w0.heap.size b (t6 ++ Fm.kwUse ++ numsT [y.depth]) v9) := Lib.hid hW9
       have HF10 := Lib.hid (HF9.out.trans hF9)
       clear hW9 hF9 HF9
       have hx9 := HX7.out.fr HF10.out hne9 (by decide)
       have c90 := hx9.c 1 _ rfl
       have c91 := hx9.lt
       clear hx9
       have h2b : Below w9.heap.size w9 (w9.alloc (.cells #[.int .i64 y.index] 2)) := (Below.refl _ _).alloc (Nat.le_refl _) _
       have h2F := Fr.of (b := b) HW9.out.sz h2b
       have H62 := Lib.hid (add62 _ w0.heap.size b _ v9 _ 1 [y.index] (HW9.out.keep h2b) (Ns.new w9 w0.heap.size b [y.index] 2 (by decide) HW9.out.lt) (by intro m hm; rw [List.mem_singleton] at hm; subst hm; exact HYR.out _ (by simp)) (by have h1 := HL7.out; rw [List.length_append, List.length_append]; omega) (HT.out.on (HB7.out.trans (HF10.out.trans h2F).bel)))
       have HF11 := Lib.hid (HF10.out.trans h2F)
       clear h2b h2F HW9 HF10
       go_wp2_with fail
       refine H62.out.mono ?_
       clear H62 c90 c91
       rintro e w10 ⟨rfl, v10, hW10, hF10⟩
       have HW10 := Lib.hid hW10
       have HF12 := Lib.hid (HF11.out.trans hF10)
       clear hW10 hF10 HF11
       have hx9 := HX7.out.fr HF12.out hne9 (by decide)
       have c90 := hx9.c 2 _ rfl
       have c91 := hx9.lt
       clear hx9
       have hbB := HB7.out.trans HF12.out.bel
       have H61 := Lib.hid (add61 w10 w0.heap.size b _ v10 oy cy y.nums HW10.out (Ns.old HSY.out hbB b) (fun m hm => HYR.out m (by simp [hm])) (by have h1 := HL7.out; rw [List.length_append, List.length_append, List.length_append]; omega) (HT.out.on hbB))
       clear hbB HW10
       go_wp2_with fail
       refine H61.out.mono ?_
       clear H61 c90 c91
       rintro e w11 ⟨rfl, v11, hW11, hF11⟩
       have HF13 := Lib.hid (HF12.out.trans hF11)
       have H63 := Lib.hid (end63 w11 w0.heap.size b _ v11 hW11 (by have h1 := HL7.out; rw [List.length_append, List.length_append, List.length_append, List.length_append]; omega))
       clear hW11 hF11 HF12
       go_wp2_with fail
       refine H63.out.mono ?_
       clear H63
       rintro e w12 ⟨rfl, v12, hW12, hF12⟩
       have HW12 : Hid (WrS w12 w0.heap.size b (t5 ++ flT Fm.useT (x.uses.take (j + 1))) v12) := Lib.hid (by rw [HT7.out]; simpa only [List.append_assoc] using hW12)
       have HF14 := Lib.hid (HF7.out.trans (HF13.out.trans hF12))
       clear hW12 hF12 HF13
       go_wp2_with fail
       go_roundw
       case rel => exact ⟨j + 1, by omega, by simp, ⟨_, HW12.out⟩, HF14.out⟩
       case measure => simp [intOf]; omega
      ·have hke : j = x.uses.length := by omega
       subst hke
       rw [List.take_length] at hW
       have HW6 : Hid (WrS wr w0.heap.size b (t2 ++ flT Fm.edgeT (p.edges.take (k + 1))) v6) := Lib.hid (by rw [HT4.out, HT5.out]; exact hW)
       have HF7 := Lib.hid (HF3.out.trans hF)
       clear hW hF
       go_wp2_with fail
       go_roundw
       case rel => exact ⟨k + 1, by omega, by simp, ⟨_, HW6.out⟩, HF7.out⟩
       case measure => simp [intOf]; omega
    ·have hke : k = p.edges.length := by omega
     subst hke
     rw [List.take_length] at hW
     have HE : Hid (WrP w0.heap.size b (t ++ (Fm.lineT Fm.kwPath [((p.pts.length : Nat) : Int)] ++ flT (Fm.lineT Fm.kwPoint) p.pts ++ flT Fm.edgeT p.edges)) w (.returned (.tuple #[])) wr) := Lib.hid ⟨rfl, _, by
      have e : t ++ (Fm.lineT Fm.kwPath [((p.pts.length : Nat) : Int)] ++ flT (Fm.lineT Fm.kwPoint) p.pts ++ flT Fm.edgeT p.edges) = t2 ++ flT Fm.edgeT p.edges := by
       rw [← HT12.out, ← ht1]
       simp only [List.append_assoc]
       rfl
      rw [e]; exact hW, HFA.out.trans hF⟩
     clear hW hF
     go_wp2
     refine bodyPost_end (v := .tuple #[]) (by simp [results, Tryz.results51, go_sem]) rfl ?_
     rw [pathT_eq]
     exact HE.out
end Go.Proofs.Ng
end

section
/-
 Walks: the form of a path; document; FormatPath.
-/
namespace Go.Proofs.Ng
open Go.RowKit
theorem conv_own {W : World} {base : Nat} {t : List UInt8} {v : Value} (h : W.ownsRow base 5 1 v t.length (Lib.byteCells t)) : (convert 102 9 v).run Tryz.prog W = .ok (.string ⟨t.toArray⟩) W := by
 rcases h.2 with ⟨rfl, h0⟩ | ⟨g, cap, cur, rfl, hbg, hg, rest⟩
 ·have e := run_convert_bytes_nil (P := Tryz.prog) W 102 5 Tryz.underlying102 Tryz.underlying5 0 0 9 Tryz.underlying9
  obtain rfl : t = [] := List.length_eq_zero_iff.1 h0
  exact e
 ·have e := run_convert_bytes_arg (P := Tryz.prog) W 102 5 Tryz.underlying102 Tryz.underlying5 g 0 t.length cap (t.map fun c => (c.toNat : Int)) (by simp) (fun i hi => by
   rw [Nat.zero_add]
   have hx : (Lib.byteCells t)[i]? = some (.int .u8 (t[i].toNat : Int)) := by simp [Lib.byteCells, hi]
   rw [own_at h i _ hx]
   simp [hi]) 9 Tryz.underlying9
  rw [e]
  have : strOfNums (t.map fun c => (c.toNat : Int)) = ⟨t.toArray⟩ := by
   have e2 : ((fun n : Int => UInt8.ofNat n.toNat) ∘ fun c : UInt8 => (c.toNat : Int)) = id := by funext c; simp
   unfold strOfNums
   rw [List.map_map, e2, List.map_id]
  rw [this]
def fmtV : Option (List UInt8) → Value
 | some s => .tuple #[.string ⟨s.toArray⟩, .int .i64 0]
 | none => .tuple #[.string ⟨#[]⟩, .int .i64 4301]
set_option maxRecDepth 100000 in
set_option maxHeartbeats 4000000 in
theorem document36 (w : World) (base b : Nat) (t : List UInt8) (h : ∃ v, WrS w base b t v) (hl : (t ++ Fm.lineT Fm.kwEnd []).length ≤ 1048576) (htab : TabW base w) :
  Calls Tryz.prog 52 #[.pointer (some ⟨b, 0, none⟩)] w (fun e W' => e = .returned (fmtV (some (t ++ Fm.lineT Fm.kwEnd []))) ∧ Below base w W') := by
 have hl' := hl
 rw [List.length_append] at hl'
 have H56 := Lib.hid (line56 w base b t ⟨#[101, 110, 100]⟩ none 0 [] h (fun h => absurd rfl h) (fun n hn => by cases hn) hl' htab)
 clear h htab hl'
 go_enter Tryz.func52, Tryz.ntmps52
 go_wp2_with fail
 refine H56.out.mono ?_
 rintro e W1 ⟨rfl, v1, hW1, hF1⟩
 have HW : Hid (WrS W1 base b (t ++ Fm.lineT Fm.kwEnd []) v1) := Lib.hid hW1
 have HF := Lib.hid hF1
 clear hW1 hF1 H56
 generalize ht1 : t ++ Fm.lineT Fm.kwEnd [] = t1 at HW hl
 have H59 := Lib.hid (full59 W1 base b t1 v1 HW.out hl)
 go_wp2_with fail
 refine H59.out.mono ?_
 rintro e W2 ⟨rfl, hw2⟩
 subst hw2
 have hc := HW.out.c
 have hlt := HW.out.lt
 have hcv := conv_own HW.out.own
 obtain ⟨oa, cap, rfl⟩ := own_sl HW.out.own
 go_wp2
 go_ret2
 exact ⟨by rw [ht1]; rfl, HF.out.bel⟩
/-- All points as long as the first. -/
theorem rightP_no1 {p : Fm.PathD} (h : ¬ (2 ≤ p.pts.length ∧ p.pts.length ≤ 256 ∧ p.edges.length = p.pts.length - 1)) : Fm.rightP p = false := by
 unfold Fm.rightP
 rw [Bool.and_eq_false_iff]
 left
 rw [decide_eq_false_iff_not]
 rintro ⟨h1, h2, h3, _⟩
 exact h ⟨h1, h2, h3⟩
theorem rightP_no2 {p : Fm.PathD} {x q : List Int} {k : Nat} (hx : p.pts[0]? = some x) (hq : p.pts[k]? = some q) (h : q.length ≠ x.length) : Fm.rightP p = false := by
 unfold Fm.rightP
 rw [Bool.and_eq_false_iff]
 right
 rw [Bool.eq_false_iff]
 intro ha
 rw [List.all_eq_true] at ha
 have := of_decide_eq_true (ha q (List.mem_of_getElem? hq))
 rw [List.head?_eq_getElem?, hx] at this
 exact h this
theorem rightP_at {p : Fm.PathD} {x : List Int} (hx : p.pts[0]? = some x) (h : 2 ≤ p.pts.length ∧ p.pts.length ≤ 256 ∧ p.edges.length = p.pts.length - 1) (ha : ∀ q ∈ p.pts, q.length = x.length) : Fm.rightP p = (decide (1 ≤ x.length) && decide (x.length ≤ 10)) := by
 unfold Fm.rightP
 rw [List.head?_eq_getElem?, hx]
 have e : (p.pts.all fun q => decide (q.length = ((some x).getD []).length)) = true := by
  rw [List.all_eq_true]
  exact fun q hq => decide_eq_true (ha q hq)
 rw [e, Bool.and_true]
 simp [h.1, h.2.1, h.2.2]
set_option maxRecDepth 100000 in
set_option maxHeartbeats 4000000 in
theorem rightForm34 (w : World) (pv : Value) (p : Fm.PathD) (hP : PathAt w pv p) (hm : p.pts.length ≤ 1000000000) (hm2 : p.edges.length ≤ 1000000000) :
  Calls Tryz.prog 50 #[pv] w (BoolP (Fm.rightP p) w) := by
 obtain ⟨op, np, oe, ne, rfl, hPt, hEd⟩ := hP
 by_cases h1 : p.pts.length < 2
 ·have hr := rightP_no1 (p := p) (by omega)
  go_enter Tryz.func50, Tryz.ntmps50
  go_wp2
  go_ret
  exact (by first | exact boolP_mk hr ((Below.refl _ _).alloc (Nat.le_refl _) _) | exact boolP_mk rfl ((Below.refl _ _).alloc (Nat.le_refl _) _))
 ·by_cases h2 : 256 < p.pts.length
  ·have hr := rightP_no1 (p := p) (by omega)
   go_enter Tryz.func50, Tryz.ntmps50
   go_wp2
   go_ret
   exact (by first | exact boolP_mk hr ((Below.refl _ _).alloc (Nat.le_refl _) _) | exact boolP_mk rfl ((Below.refl _ _).alloc (Nat.le_refl _) _))
  ·by_cases h3 : p.edges.length = p.pts.length - 1
   ·obtain ⟨x, hx⟩ : ∃ x, p.pts[0]? = some x := ⟨_, List.getElem?_eq_getElem (by omega)⟩
    have h3' : ((p.edges.length : Int) != (p.pts.length : Int) - 1) = false := by simp; omega
    obtain ⟨g, off, ox, cx, hon, x0, glt, hsx⟩ := hPt.get hx
    subst hon
    rw [Nat.add_zero] at x0
    have HP := Lib.hid hPt
    have HX := Lib.hid hx
    have HH := Lib.hid (show 2 ≤ p.pts.length ∧ p.pts.length ≤ 256 ∧ p.edges.length = p.pts.length - 1 from ⟨by omega, by omega, h3⟩)
    clear hPt hsx hx h3
    go_enter Tryz.func50, Tryz.ntmps50
    go_wp2_with fail
    have hb1 : Below w.heap.size w (w.alloc (.cells #[.slice (some ⟨g, off, none⟩) p.pts.length np, .slice oe p.edges.length ne] 29)) := (Below.refl _ _).alloc (Nat.le_refl _) _
    clear x0 h3' glt
    go_loopw [34] (fun i W => ∃ k : Nat, k ≤ p.pts.length ∧ i = .int .i64 (k : Nat) ∧ (∀ j q, j < k → p.pts[j]? = some q → q.length = x.length) ∧ Below w.heap.size w W) (fun i _ => p.pts.length - (intOf i).toNat)
    case atStart => exact ⟨0, Nat.zero_le _, rfl, fun j q hj => by omega, hb1⟩
    case round =>
     clear hb1
     obtain ⟨k, hk, rfl, hA, hB⟩ := hrel
     by_cases hlt : k < p.pts.length
     ·obtain ⟨q, hq⟩ : ∃ q, p.pts[k]? = some q := ⟨_, List.getElem?_eq_getElem hlt⟩
      obtain ⟨g', off', ox', cx', hon', x0, glt, hsx⟩ := (HP.out.keep hB).get hq
      injection hon' with hon'
      injection hon' with h8 h9 _
      subst h8 h9
      by_cases hql : q.length = x.length
      ·have hqb : ((q.length : Int) != (x.length : Int)) = false := by simp; omega
       go_wp2_with fail
       go_roundw
       case rel =>
        refine ⟨k + 1, by omega, by simp, fun j r hj hr => ?_, hB⟩
        rcases Nat.lt_or_ge j k with h | h
        ·exact hA j r h hr
        ·have : j = k := by omega
         subst this
         rw [hq] at hr
         injection hr with hr
         rw [← hr]; exact hql
       case measure => simp [intOf]; omega
      ·have hqb : ((q.length : Int) != (x.length : Int)) = true := by simp; omega
       have hr := rightP_no2 HX.out hq hql
       go_wp2
       go_ret
       exact (by first | exact boolP_mk hr hB | exact boolP_mk rfl hB | exact boolP_mk (hr.trans (by simp <;> omega)) hB)
     ·have hke : k = p.pts.length := by omega
      subst hke
      have hr := rightP_at HX.out HH.out (fun q hq => by
       obtain ⟨j, hj⟩ := List.getElem?_of_mem hq
       exact hA j q (List.getElem?_eq_some_iff.1 hj).1 hj)
      by_cases h5 : 1 ≤ x.length
      ·by_cases h6 : x.length ≤ 10
       ·rw [decide_eq_true h5, decide_eq_true h6] at hr
        go_wp2
        go_ret
        exact (by first | exact boolP_mk hr hB | exact boolP_mk rfl hB | exact boolP_mk (hr.trans (by simp <;> omega)) hB)
       ·rw [decide_eq_true h5, decide_eq_false h6] at hr
        go_wp2
        go_ret
        exact (by first | exact boolP_mk hr hB | exact boolP_mk rfl hB | exact boolP_mk (hr.trans (by simp <;> omega)) hB)
      ·rw [decide_eq_false h5] at hr
       go_wp2
       go_ret
       exact (by first | exact boolP_mk hr hB | exact boolP_mk rfl hB | exact boolP_mk (hr.trans (by simp <;> omega)) hB)
   ·have hr := rightP_no1 (p := p) (by omega)
    have h3' : ((p.edges.length : Int) != (p.pts.length : Int) - 1) = true := by simp; omega
    go_enter Tryz.func50, Tryz.ntmps50
    go_wp2
    go_ret
    exact (by first | exact boolP_mk hr ((Below.refl _ _).alloc (Nat.le_refl _) _) | exact boolP_mk rfl ((Below.refl _ _).alloc (Nat.le_refl _) _))
theorem formatP_yes {p : Fm.PathD} (h : Fm.rightP p = true) (hl : (Fm.docT p).length ≤ 1048576) : Fm.formatP p = some (Fm.docT p) := by
 unfold Fm.formatP; rw [if_pos ⟨h, hl⟩]
theorem formatP_no {p : Fm.PathD} (h : Fm.rightP p = false) : Fm.formatP p = none := by
 unfold Fm.formatP; rw [if_neg (fun e => by rw [h] at e; cases e.1)]
set_option maxRecDepth 100000 in
set_option maxHeartbeats 4000000 in
theorem formatPath16 (w : World) (pv : Value) (p : Fm.PathD) (hP : PathAt w pv p) (hr : Fm.PathOk p) (hl : (Fm.docT p).length ≤ 1048576) (htab : TabW w.heap.size w) :
  Calls Tryz.prog 18 #[pv] w (fun e W' => e = .returned (fmtV (Fm.formatP p)) ∧ Below w.heap.size w W') := by
 have hlp : (Fm.pathT p).length ≤ 1048576 := by unfold Fm.docT at hl; rw [List.length_append] at hl; omega
 have hm1 : p.pts.length ≤ 1000000000 := by have := hr.np; omega
 have hm2 : p.edges.length ≤ 1000000000 := by
  have := flT_ge edgeT_pos p.edges
  rw [pathT_eq, List.length_append, List.length_append] at hlp
  omega
 have hP0 := hP
 obtain ⟨op, np, oe, ne, rfl, -, -⟩ := hP
 have hb1 : Below w.heap.size w (w.alloc (.cells #[.slice op p.pts.length np, .slice oe p.edges.length ne] 29)) := (Below.refl _ _).alloc (Nat.le_refl _) _
 have hbx := Bx.new w [.slice op p.pts.length np, .slice oe p.edges.length ne] 29
 have H34 := Lib.hid (rightForm34 _ _ p (hP0.keep hb1) hm1 hm2)
 have HP := Lib.hid hP0
 have HX := Lib.hid hbx
 have HB := Lib.hid hb1
 have HT := Lib.hid htab
 have HR := Lib.hid hr
 clear hP0 hb1 hbx htab hr
 cases hf : Fm.rightP p with
 | false =>
  have hF := formatP_no hf
  rw [hf] at H34
  go_enter Tryz.func18, Tryz.ntmps18
  go_wp2_with fail
  refine H34.out.mono ?_
  rintro e W1 ⟨rfl, hb2⟩
  have HB2 := Lib.hid (HB.out.trans (hb2.mono HB.out.size))
  clear hb2 H34
  go_wp2
  go_ret2
  exact ⟨by rw [hF]; rfl, HB2.out⟩
 | true =>
  have hF := formatP_yes hf hl
  rw [hf] at H34
  have HFF := Lib.hid hF
  have HHF := Lib.hid hf
  clear hF hf
  go_enter Tryz.func18, Tryz.ntmps18
  go_wp2_with fail
  refine H34.out.mono ?_
  clear H34
  rintro e W1 ⟨rfl, hb2⟩
  have hX1 := HX.out.keep hb2
  have hB2 := HB.out.trans (hb2.mono HB.out.size)
  generalize w.alloc (.cells #[.slice op p.pts.length np, .slice oe p.edges.length ne] 29) = wx at HX HB
  clear hb2 HX HB
  have c0 := hX1.c 0 _ rfl
  have c1 := hX1.c 1 _ rfl
  have clt := hX1.lt
  have hb3 : Below W1.heap.size W1 (W1.alloc (.cells #[.slice none 0 0] 104)) := (Below.refl _ _).alloc (Nat.le_refl _) _
  have hW : WrS (W1.alloc (.cells #[.slice none 0 0] 104)) w.heap.size W1.heap.size [] (.slice none 0 0) := ⟨(Bx.new W1 [.slice none 0 0] 104).h, World.ownsRow_nil _ _ _ _, hB2.size⟩
  have hB3 := hB2.trans (hb3.mono hB2.size)
  have HB3 := Lib.hid hB3
  have H35 := Lib.hid (path35 w _ W1.heap.size [] _ p hB3 HP.out ⟨_, hW⟩ HR.out (by rw [List.length_nil]; omega) HT.out)
  clear hb3 hW hB3 hX1
  go_wp2_with fail
  refine H35.out.mono ?_
  clear H35 c0 c1 clt
  rintro e W2 ⟨rfl, v2, hW2, hF2⟩
  have HB4 := Lib.hid (HB3.out.trans hF2.bel)
  have H36 := Lib.hid (document36 W2 w.heap.size W1.heap.size _ ⟨_, hW2⟩ (by rw [List.nil_append]; exact hl) (HT.out.on HB4.out))
  clear hW2 hF2
  go_wp2_with fail
  refine H36.out.mono ?_
  clear H36
  rintro e W3 ⟨rfl, hb5⟩
  have HB5 := Lib.hid (HB4.out.trans hb5)
  clear hb5
  rw [List.nil_append]
  unfold fmtV
  go_wp2
  go_ret2
  exact ⟨by rw [HFF.out]; rfl, HB5.out⟩
end Go.Proofs.Ng
end

section
/-
 Walks: the reference's right, line, wide, normal.
-/
namespace Go.Proofs.Ng
open Go.RowKit
set_option maxRecDepth 100000 in
set_option maxHeartbeats 4000000 in
theorem right22 (w : World) (pv : Value) (p : Fm.PathD) (hP : PathAt w pv p) (hm : p.pts.length ≤ 1000000000) (hm2 : p.edges.length ≤ 1000000000) :
  Calls Tryz.prog 26 #[pv] w (BoolP (Fm.rightP p) w) := by
 obtain ⟨op, np, oe, ne, rfl, hPt, hEd⟩ := hP
 have hbB : Below w.heap.size w (w.alloc (.cells #[.slice op p.pts.length np, .slice oe p.edges.length ne] 29)) := (Below.refl _ _).alloc (Nat.le_refl _) _
 by_cases h1 : p.pts.length < 2
 ·have hr := rightP_no1 (p := p) (by omega)
  go_enter Tryz.func26, Tryz.ntmps26
  go_wp2
  go_ret
  exact (by first | exact boolP_mk hr hbB | exact boolP_mk rfl hbB)
 ·by_cases h2 : 256 < p.pts.length
  ·have hr := rightP_no1 (p := p) (by omega)
   go_enter Tryz.func26, Tryz.ntmps26
   go_wp2
   go_ret
   exact (by first | exact boolP_mk hr hbB | exact boolP_mk rfl hbB)
  ·by_cases h3 : p.edges.length = p.pts.length - 1
   ·obtain ⟨x, hx⟩ : ∃ x, p.pts[0]? = some x := ⟨_, List.getElem?_eq_getElem (by omega)⟩
    have h3' : ((p.edges.length : Int) != (p.pts.length : Int) - 1) = false := by simp; omega
    obtain ⟨g, off, ox, cx, hon, x0, glt, hsx⟩ := hPt.get hx
    subst hon
    rw [Nat.add_zero] at x0
    have HP := Lib.hid hPt
    have HX := Lib.hid hx
    have HH := Lib.hid (show 2 ≤ p.pts.length ∧ p.pts.length ≤ 256 ∧ p.edges.length = p.pts.length - 1 from ⟨by omega, by omega, h3⟩)
    have HBX := Lib.hid (Bx.new w [.slice (some ⟨g, off, none⟩) p.pts.length np, .slice oe p.edges.length ne] 29)
    have HB1 := Lib.hid hbB
    clear hPt hsx hx h3 hbB
    by_cases h5 : x.length < 1
    ·have hr : Fm.rightP p = false := by
      rw [Bool.eq_false_iff]
      intro h
      unfold Fm.rightP at h
      rw [Bool.and_eq_true, decide_eq_true_eq, List.head?_eq_getElem?, HX.out] at h
      have := h.1.2.2.2.1
      simp at this
      omega
     have hB := HB1.out
     go_enter Tryz.func26, Tryz.ntmps26
     go_wp2
     go_ret
     exact (by first | exact boolP_mk hr hB | exact boolP_mk rfl hB)
    ·by_cases h6 : 10 < x.length
     ·have hr : Fm.rightP p = false := by
       rw [Bool.eq_false_iff]
       intro h
       unfold Fm.rightP at h
       rw [Bool.and_eq_true, decide_eq_true_eq, List.head?_eq_getElem?, HX.out] at h
       have := h.1.2.2.2.2
       simp at this
       omega
      have hB := HB1.out
      go_enter Tryz.func26, Tryz.ntmps26
      go_wp2
      go_ret
      exact (by first | exact boolP_mk hr hB | exact boolP_mk rfl hB)
     ·go_enter Tryz.func26, Tryz.ntmps26
      go_wp2_with fail
      go_loopw [3] (fun i W => ∃ k : Nat, k ≤ p.pts.length ∧ i = .int .i64 (k : Nat) ∧ (∀ j q, j < k → p.pts[j]? = some q → q.length = x.length) ∧ Below w.heap.size w W ∧ Bx W w.heap.size [.slice (some ⟨g, off, none⟩) p.pts.length np, .slice oe p.edges.length ne] 29) (fun i _ => p.pts.length - (intOf i).toNat)
      case atStart => exact ⟨0, Nat.zero_le _, rfl, fun j q hj => by omega, HB1.out, HBX.out⟩
      case round =>
       clear HB1 HBX x0 h3' glt
       obtain ⟨k, hk, rfl, hA, hB, hBX⟩ := hrel
       have c0 := hBX.c 0 _ rfl
       have clt := hBX.lt
       by_cases hlt : k < p.pts.length
       ·obtain ⟨q, hq⟩ : ∃ q, p.pts[k]? = some q := ⟨_, List.getElem?_eq_getElem hlt⟩
        obtain ⟨g', off', ox', cx', hon', x0, glt, hsx⟩ := (HP.out.keep hB).get hq
        injection hon' with hon'
        injection hon' with h8 h9 _
        subst h8 h9
        obtain ⟨g', off', ox2, cx2, hon', x1, glt2, hsx2⟩ := (HP.out.keep hB).get HX.out
        injection hon' with hon'
        injection hon' with h8 h9 _
        subst h8 h9
        rw [Nat.add_zero] at x1
        clear hsx hsx2
        by_cases hql : q.length = x.length
        ·have hqb : ((q.length : Int) != (x.length : Int)) = false := by simp; omega
         go_wp2_with fail
         go_quiet (fail)
         have hbq := below_drew wr nq
         have HB2 := Lib.hid (below_call hB hbq)
         have HBX2 := Lib.hid (hBX.keep hbq)
         clear hB hBX c0 clt x0 x1 glt glt2
         go_wp2_with fail
         go_roundw
         case rel =>
          refine ⟨k + 1, by omega, by simp, fun j r hj hr => ?_, HB2.out, HBX2.out⟩
          rcases Nat.lt_or_ge j k with h | h
          ·exact hA j r h hr
          ·have : j = k := by omega
           subst this
           rw [hq] at hr
           injection hr with hr
           rw [← hr]; exact hql
         case measure => simp [intOf]; omega
        ·have hqb : ((q.length : Int) != (x.length : Int)) = true := by simp; omega
         have hr := rightP_no2 HX.out hq hql
         go_wp2_with fail
         go_quiet (fail)
         have hB2 := below_call hB (below_drew wr nq)
         go_wp2
         go_ret
         exact (by first | exact boolP_mk hr hB2 | exact boolP_mk rfl hB2)
       ·have hke : k = p.pts.length := by omega
        subst hke
        have hr := rightP_at HX.out HH.out (fun q hq => by
         obtain ⟨j, hj⟩ := List.getElem?_of_mem hq
         exact hA j q (List.getElem?_eq_some_iff.1 hj).1 hj)
        rw [decide_eq_true (by omega), decide_eq_true (by omega)] at hr
        go_wp2
        go_ret
        exact (by first | exact boolP_mk hr hB | exact boolP_mk rfl hB)
   ·have hr := rightP_no1 (p := p) (by omega)
    have h3' : ((p.edges.length : Int) != (p.pts.length : Int) - 1) = true := by simp; omega
    go_enter Tryz.func26, Tryz.ntmps26
    go_wp2
    go_ret
    exact (by first | exact boolP_mk hr hbB | exact boolP_mk rfl hbB)
theorem fmt48 (n : Int) (h : Fm.inR64 n) (w : World) (ht : TabW w.heap.size w) : Calls Tryz.prog 61 #[.int .i64 n, .int .i64 10] w (fun e w' => e = .returned (.string ⟨(Lib.itoa n).toArray⟩) ∧ Below w.heap.size w w') := by
 have hc : Calls Tryz.prog 61 #[.int .i64 n, .int .i64 10] w _ := Any.strconv_FormatInt_10 Tryz.fmtL n h.1 h.2 w ht.here
 refine hc.mono ?_
 rintro e w' ⟨rfl, k, os, rfl⟩
 exact ⟨rfl, Lib.below_grow _ w (Nat.le_refl _) k os⟩
theorem tab_size {w w' : World} (h : TabW w.heap.size w) (hb : Below w.heap.size w w') : TabW w'.heap.size w' := fun w2 h2 => h w2 (hb.trans (h2.mono hb.size))
/-- Strings one behind another. -/
theorem str_app (a c : List UInt8) : (⟨a.toArray⟩ : ByteArray) ++ ⟨c.toArray⟩ = ⟨(a ++ c).toArray⟩ := by
 apply ByteArray.ext
 simp
set_option maxRecDepth 100000 in
set_option maxHeartbeats 4000000 in
theorem line28 (w : World) (kw : List UInt8) (on : Option Addr) (nc : Nat) (ns : List Int) (hN : Sl w on 1 (pvals ns)) (hr : ∀ n ∈ ns, Fm.inR64 n) (hl : (Fm.lineT kw ns).length ≤ 1048576) (htab : TabW w.heap.size w) :
  Calls Tryz.prog 33 #[.string ⟨kw.toArray⟩, .slice on ns.length nc] w (fun e W' => e = .returned (.string ⟨(Fm.lineT kw ns).toArray⟩) ∧ Below w.heap.size w W') := by
 rw [lineT_eq, List.length_append, List.length_append, List.length_cons, List.length_nil] at hl
 have hm : ns.length ≤ 1048576 := by have := numsT_ge ns; omega
 have HN := Lib.hid hN
 have HR := Lib.hid hr
 have HT := Lib.hid htab
 have HL := Lib.hid hl
 clear hN hr htab hl
 go_enter Tryz.func33, Tryz.ntmps33
 go_wp2_with fail
 go_loopw [0, 5] (fun s i W => ∃ k : Nat, k ≤ ns.length ∧ i = .int .i64 (k : Nat) ∧ s = .string ⟨(kw ++ numsT (ns.take k)).toArray⟩ ∧ Below w.heap.size w W) (fun _ i _ => ns.length - (intOf i).toNat)
 case atStart => exact ⟨0, Nat.zero_le _, rfl, by rw [List.take_zero, show numsT [] = [] from rfl, List.append_nil], Below.refl _ _⟩
 case round =>
  obtain ⟨k, hk, rfl, rfl, hB⟩ := hrel
  by_cases hlt : k < ns.length
  ·obtain ⟨x, hx⟩ : ∃ x, ns[k]? = some x := ⟨_, List.getElem?_eq_getElem hlt⟩
   have hxr := HR.out x (List.mem_of_getElem? hx)
   obtain ⟨g, off, hon, x0, glt⟩ := pv_get (HN.out.keep hB) hx
   subst hon
   have HC := Lib.hid (fmt48 x hxr wr (tab_size HT.out hB))
   have htk := numsT_take hx
   have HTK : Hid ((⟨(kw ++ numsT (ns.take k)).toArray⟩ : ByteArray) ++ ⟨#[32]⟩ ++ ⟨(Lib.itoa x).toArray⟩ = ⟨(kw ++ numsT (ns.take (k + 1))).toArray⟩) := Lib.hid (by
    rw [show (⟨#[32]⟩ : ByteArray) = ⟨[32].toArray⟩ from rfl, str_app, str_app, htk]
    simp only [List.append_assoc])
   have HB := Lib.hid hB
   have hle := numsT_le ns (k + 1)
   have hs1 : (⟨(kw ++ numsT (ns.take k)).toArray⟩ : ByteArray).size ≤ 1048576 := by
    have := HL.out
    rw [htk, List.length_append, List.length_append] at hle
    show (kw ++ numsT (ns.take k)).toArray.size ≤ _
    rw [List.size_toArray, List.length_append]
    omega
   have hs2 : (⟨(Lib.itoa x).toArray⟩ : ByteArray).size ≤ 1048576 := by
    have := itoa_le hxr
    show (Lib.itoa x).toArray.size ≤ _
    rw [List.size_toArray]
    omega
   have hs3 : (⟨#[32]⟩ : ByteArray).size = 1 := rfl
   generalize (⟨(kw ++ numsT (ns.take k)).toArray⟩ : ByteArray) = S at hs1 HTK ⊢
   generalize (⟨(Lib.itoa x).toArray⟩ : ByteArray) = S2 at hs2 HTK HC
   generalize hS3 : (⟨#[32]⟩ : ByteArray) = S3 at hs3 HTK
   clear hB hx htk hle
   go_wp2_with fail
   refine HC.out.mono ?_
   clear HC
   rintro e W2 ⟨rfl, hb2⟩
   have HB2 := Lib.hid (below_call HB.out hb2)
   clear hb2 HB
   go_wp2_with fail
   go_roundw
   case rel => exact ⟨k + 1, by omega, by simp, by rw [← HTK.out], HB2.out⟩
   case measure => simp [intOf]; omega
  ·have hke : k = ns.length := by omega
   subst hke
   rw [List.take_length]
   have HB := Lib.hid hB
   have HE : Hid ((⟨(kw ++ numsT ns).toArray⟩ : ByteArray) ++ ⟨#[10]⟩ = ⟨(Fm.lineT kw ns).toArray⟩) := Lib.hid (by
    rw [show (⟨#[10]⟩ : ByteArray) = ⟨[10].toArray⟩ from rfl, str_app]
    rfl)
   have hs1 : (⟨(kw ++ numsT ns).toArray⟩ : ByteArray).size ≤ 1048576 := by
    have := HL.out
    show (kw ++ numsT ns).toArray.size ≤ _
    rw [List.size_toArray, List.length_append]
    omega
   have hs3 : (⟨#[10]⟩ : ByteArray).size = 1 := rfl
   generalize (⟨(kw ++ numsT ns).toArray⟩ : ByteArray) = S at hs1 HE ⊢
   clear hB
   go_wp2
   go_ret
   exact ⟨by rw [← HE.out]; rfl, HB.out⟩
end Go.Proofs.Ng
end

section
/-
 Walks: the reference's wide, normal, document.
-/
namespace Go.Proofs.Ng
open Go.RowKit
theorem info2 : (Tryz.prog.info? 2).map (fun i => (i.zero, i.size, i.bytes)) = some (some (.int .i64 0), 1, 8) := by kernel_rfl
theorem under42 : Tryz.prog.underlying 68 = some (.slice 2) := by kernel_rfl
/-- A new slice of numbers. -/
def NumsP (ns : List Int) (W : World) (e : Ending) (W' : World) : Prop := ∃ oa cap, e = .returned (.slice oa ns.length cap) ∧ (ns = [] → oa = none ∧ cap = 0) ∧ Sl W' oa 1 (pvals ns) ∧ Below W.heap.size W W' ∧ ∀ a, oa = some a → W.heap.size ≤ a.block
theorem pvals_one (ns : List Int) : ∀ r ∈ pvals ns, r.length = 1 := by intro r hr; simp [pvals] at hr; obtain ⟨j, _, rfl⟩ := hr; rfl
theorem own_nums {W : World} {base : Nat} {ty : TypeId} {v : Value} {ns : List Int} (h : W.ownsRow base ty 1 v ns.length (pflat ns)) : ∃ oa cap, v = .slice oa ns.length cap ∧ Sl W oa 1 (pvals ns) := by
 rw [← pvals_flat, ← pvals_len] at h
 obtain ⟨oa, cap, e, hs⟩ := own_rows (pvals_one ns) h
 rw [pvals_len] at e
 exact ⟨oa, cap, e, hs⟩
theorem pflat_take {ns : List Int} {k : Nat} {x : Int} (h : ns[k]? = some x) : pflat (ns.take (k + 1)) = pflat (ns.take k) ++ [.int .i64 x] := by
 rw [List.take_add_one, h]; simp [pflat]
theorem pflat_app (a c : List Int) : pflat (a ++ c) = pflat a ++ pflat c := by simp [pflat]
set_option maxRecDepth 100000 in
set_option maxHeartbeats 4000000 in
theorem wide29 (w : World) (on : Option Addr) (nc : Nat) (ns : List Int) (hN : Sl w on 1 (pvals ns)) (hm : ns.length ≤ 1048576) :
  Calls Tryz.prog 38 #[.slice on ns.length nc] w (NumsP ns w) := by
 have HN := Lib.hid hN
 clear hN
 go_enter Tryz.func38, Tryz.ntmps38
 go_wp2_with fail
 go_loopw [3, 4] (fun v i W => ∃ k : Nat, k ≤ ns.length ∧ i = .int .i64 (k : Nat) ∧ W.ownsRow w.heap.size 2 1 v k (pflat (ns.take k)) ∧ Below w.heap.size w W ∧ (k = 0 → v = .slice none 0 0)) (fun _ i _ => ns.length - (intOf i).toNat)
 case atStart => exact ⟨0, Nat.zero_le _, rfl, World.ownsRow_nil _ _ _ _, Below.refl _ _, fun _ => rfl⟩
 case round =>
  obtain ⟨k, hk, rfl, hO, hB, hK0⟩ := hrel
  by_cases hlt : k < ns.length
  ·obtain ⟨x, hx⟩ : ∃ x, ns[k]? = some x := ⟨_, List.getElem?_eq_getElem hlt⟩
   obtain ⟨g, off, hon, x0, glt⟩ := pv_get (HN.out.keep hB) hx
   subst hon
   obtain ⟨i0, hi, hz0, hz1, hz2⟩ := info_parts info2
   have hb2 : Below wr.heap.size wr (wr.alloc (.cells #[.int .i64 x] 2)) := (Below.refl _ _).alloc (Nat.le_refl _) _
   have HO2 := Lib.hid (own_keep hO hb2)
   have HBC := Lib.hid (below_call hB hb2)
   have HTK := Lib.hid (pflat_take hx)
   clear hO hB hb2 hx hK0
   go_wp2_with (at_builtin; refine wpList_append_own _ rfl _ _ 68 rfl w.heap.size 2 i0 (.int .i64 0) 1 8 under42 hi hz0 hz1 hz2 rfl (by decide) _ _ _ rfl HO2.out ⟨wr.heap.size, 0, none⟩ 1 1 [.int .i64 x] rfl rfl ?c1 ?c2 ?c3 ?c4 ?c5 ?_)
   case c1 => exact new_cells _ _ _
   case c2 => intro u hu; simp at hu; subst hu; rfl
   case c3 => unfold maxLen; omega
   case c4 => omega
   case c5 => exact HBC.out.size
   intro v' w' hown' hgrow _
   have HO : Hid (w'.ownsRow w.heap.size 2 1 v' (k + 1) (pflat (ns.take (k + 1)))) := Lib.hid (by rw [HTK.out]; exact hown')
   have HB := Lib.hid (HBC.out.trans (grown_below HO2.out hgrow HBC.out.size))
   clear hown' hgrow HO2 HBC hi hz0 hz1 hz2 x0 glt
   go_wp2_with fail
   go_roundw
   case rel => exact ⟨k + 1, by omega, by simp, HO.out, HB.out, fun h => absurd h (by omega)⟩
   case measure => simp [intOf]; omega
  ·have hke : k = ns.length := by omega
   subst hke
   rw [List.take_length] at hO
   obtain ⟨oa, cap, rfl, hS⟩ := own_nums hO
   have HK : Hid (ns = [] → oa = none ∧ cap = 0) := Lib.hid (fun h => by
    have h2 := hK0 (by rw [h]; rfl)
    injection h2 with h2 h3 h4
    exact ⟨h2, h4⟩)
   have HFR := Lib.hid (own_fresh hO)
   clear hK0
   go_wp2
   go_ret
   exact ⟨oa, cap, rfl, HK.out, hS, hB, HFR.out⟩
set_option maxRecDepth 100000 in
set_option maxHeartbeats 4000000 in
theorem normal43 (w : World) (v : Int × Int × Int) (hr : ∀ n ∈ Fm.vecL v, Fm.inR64 n) (hl : (normT v).length ≤ 1048576) (htab : TabW w.heap.size w) :
  Calls Tryz.prog 34 #[.agg #[.int .i64 v.1, .int .i64 v.2.1, .int .i64 v.2.2]] w (fun e W' => e = .returned (.string ⟨(normT v).toArray⟩) ∧ Below w.heap.size w W') := by
 have hb1 : Below w.heap.size w (w.alloc (.cells #[.int .i64 v.1, .int .i64 v.2.1, .int .i64 v.2.2] 40)) := (Below.refl _ _).alloc (Nat.le_refl _) _
 have hb2 := below_call hb1 ((Below.refl _ (w.alloc (.cells #[.int .i64 v.1, .int .i64 v.2.1, .int .i64 v.2.2] 40))).alloc (Nat.le_refl _) (.cells #[.int .i64 v.1, .int .i64 v.2.1, .int .i64 v.2.2] 2))
 have hS : Sl ((w.alloc (.cells #[.int .i64 v.1, .int .i64 v.2.1, .int .i64 v.2.2] 40)).alloc (.cells #[.int .i64 v.1, .int .i64 v.2.1, .int .i64 v.2.2] 2)) (some ⟨w.heap.size + 1, 0, none⟩) 1 (pvals (Fm.vecL v)) := by
  have h := Ns.new (w.alloc (.cells #[.int .i64 v.1, .int .i64 v.2.1, .int .i64 v.2.2] 40)) w.heap.size w.heap.size (Fm.vecL v) 2 (by decide) (by simp)
  intro hne
  obtain ⟨g, off, e, hr, -⟩ := h (by intro e; cases e)
  have hsz : (w.alloc (.cells #[.int .i64 v.1, .int .i64 v.2.1, .int .i64 v.2.2] 40)).heap.size = w.heap.size + 1 := by simp
  rw [hsz] at e
  exact ⟨g, off, e, hr⟩
 have H := Lib.hid (line28 _ Fm.kwNormal _ 3 (Fm.vecL v) hS hr hl (tab_size htab hb2))
 have HB := Lib.hid hb2
 clear hb1 hb2 hS htab
 go_enter Tryz.func34, Tryz.ntmps34
 go_wp2_with fail
 refine H.out.mono ?_
 rintro e W ⟨rfl, hb⟩
 have HB2 := Lib.hid (below_call HB.out hb)
 clear hb
 go_wp2
 go_ret
 exact ⟨rfl, HB2.out⟩
set_option maxRecDepth 100000 in
set_option maxHeartbeats 4000000 in
theorem document23 (w : World) (t : List UInt8) (hl : (t ++ Fm.lineT Fm.kwEnd []).length ≤ 1048576) :
  Calls Tryz.prog 27 #[.string ⟨t.toArray⟩] w (fun e W' => e = .returned (fmtV (some (t ++ Fm.lineT Fm.kwEnd []))) ∧ W' = w) := by
 have hl4 : (Fm.lineT Fm.kwEnd []).length = 4 := rfl
 rw [List.length_append, hl4] at hl
 have hcat : ∀ W, (Op.stringOp .add ⟨t.toArray⟩ ⟨#[101, 110, 100, 10]⟩).run Tryz.prog W = .ok (.string ⟨(t ++ Fm.lineT Fm.kwEnd []).toArray⟩) W := fun W => by
  rw [show (⟨#[101, 110, 100, 10]⟩ : ByteArray) = ⟨(Fm.lineT Fm.kwEnd []).toArray⟩ from rfl]
  exact run_string_add_lists W t (Fm.lineT Fm.kwEnd []) (by omega) (by omega)
 have hs : (⟨(t ++ Fm.lineT Fm.kwEnd []).toArray⟩ : ByteArray).size ≤ 1048576 := by
  show (t ++ Fm.lineT Fm.kwEnd []).toArray.size ≤ _
  rw [List.size_toArray, List.length_append, hl4]
  exact hl
 generalize hT : (⟨(t ++ Fm.lineT Fm.kwEnd []).toArray⟩ : ByteArray) = T at hcat hs
 generalize (⟨t.toArray⟩ : ByteArray) = S at hcat ⊢
 clear hl hl4
 go_enter Tryz.func27, Tryz.ntmps27
 go_wp2
 go_ret2
 exact ⟨by unfold fmtV; simp only [hT]; rfl, rfl⟩
end Go.Proofs.Ng
end

section
/-
 Rows that are being made, and what their elements point at.
-/
namespace Go.Proofs.Ng
open Go.RowKit
/-- All blocks from lo on are as they were. -/
structure AgI (lo : Nat) (W W' : World) : Prop where
 size : W.heap.size ≤ W'.heap.size
 block : ∀ k, lo ≤ k → k < W.heap.size → W'.heap[k]? = W.heap[k]?
theorem AgI.refl (lo : Nat) (W : World) : AgI lo W W := ⟨Nat.le_refl _, fun _ _ _ => rfl⟩
theorem AgI.trans {lo : Nat} {a b c : World} (h : AgI lo a b) (k : AgI lo b c) : AgI lo a c :=
 ⟨Nat.le_trans h.size k.size, fun i h1 h2 => (k.block i h1 (Nat.lt_of_lt_of_le h2 h.size)).trans (h.block i h1 h2)⟩
theorem AgI.of {lo : Nat} {W W' : World} (h : Below W.heap.size W W') : AgI lo W W' := ⟨h.size, fun k _ hk => h.block k hk⟩
theorem AgI.mono {lo lo' : Nat} {W W' : World} (h : AgI lo W W') (hl : lo ≤ lo') : AgI lo' W W' := ⟨h.size, fun k h1 h2 => h.block k (Nat.le_trans hl h1) h2⟩
theorem AgI.set {lo : Nat} (W : World) {n i : Nat} (v : Value) (hn : n < lo) : AgI lo W (W.setCell ⟨n, i, none⟩ v) :=
 ⟨by simp [World.setCell], fun k h1 _ => Below.heap_setCell W ⟨n, i, none⟩ v k (by show k ≠ n; omega)⟩
/-- Holds in all worlds with these blocks. -/
def Fp (S : Nat → Prop) (W : World) (Q : World → Prop) : Prop := ∀ W', (∀ k, S k → W'.heap[k]? = W.heap[k]?) → Q W'
theorem Fp.now {S : Nat → Prop} {W : World} {Q : World → Prop} (h : Fp S W Q) : Q W := h W fun _ _ => rfl
theorem Fp.mono {S S' : Nat → Prop} {W : World} {Q : World → Prop} (h : Fp S W Q) (hs : ∀ k, S k → S' k) : Fp S' W Q := fun W' h' => h W' fun k hk => h' k (hs k hk)
theorem Fp.keep {S : Nat → Prop} {W W1 : World} {Q : World → Prop} (h : Fp S W Q) (hs : ∀ k, S k → W1.heap[k]? = W.heap[k]?) : Fp S W1 Q := fun W' h' => h W' fun k hk => (h' k hk).trans (hs k hk)
/-- The blocks that were made since. -/
def Iv (lo hi : Nat) : Nat → Prop := fun k => lo ≤ k ∧ k < hi
/-- Made since lo. -/
abbrev New (lo : Nat) (W : World) (Q : World → Prop) : Prop := Fp (Iv lo W.heap.size) W Q
theorem New.keep {lo : Nat} {W W' : World} {Q : World → Prop} (h : New lo W Q) (ha : AgI lo W W') : New lo W' Q :=
 fun W2 h2 => h W2 fun k hk => (h2 k ⟨hk.1, Nat.lt_of_lt_of_le hk.2 ha.size⟩).trans (ha.block k hk.1 hk.2)
abbrev Dat (A : Type) := World → List Value → A → Prop
/-- Rows in memory, and their data. -/
structure Rws {A : Type} (D : Dat A) (n : Nat) (W : World) (oa : Option Addr) (l : List A) : Prop where
 ex : ∃ rows : List (List Value), rows.length = l.length ∧ Sl W oa n rows ∧ ∀ (k : Nat) (r : List Value) (x : A), rows[k]? = some r → l[k]? = some x → D W r x
/-- A row that is being made: its rows of cells, the blocks of what they point at. -/
structure RowV {A : Type} (D : Dat A) (ty : TypeId) (n lo : Nat) (W : World) (v : Value) (l : List A) (rows : List (List Value)) : Prop where
 len : rows.length = l.length
 wid : ∀ r ∈ rows, r.length = n
 own : W.ownsRow lo ty n v rows.length rows.flatten
 ex : ∃ S : Nat → Prop, (∀ k, S k → lo ≤ k ∧ k < W.heap.size ∧ v.ownBlock ≠ some k) ∧ ∀ (k : Nat) (r : List Value) (x : A), rows[k]? = some r → l[k]? = some x → Fp S W fun W' => D W' r x
structure RowO {A : Type} (D : Dat A) (ty : TypeId) (n lo : Nat) (W : World) (v : Value) (l : List A) : Prop where
 ex : ∃ rows, RowV D ty n lo W v l rows
section
variable {A : Type} {D : Dat A} {ty : TypeId} {n lo : Nat} {W W1 W' : World} {v v' : Value} {l : List A} {rows : List (List Value)}
theorem RowO.nil (D : Dat A) (ty : TypeId) (n lo : Nat) (W : World) : RowO D ty n lo W (.slice none 0 0) [] :=
 ⟨[], rfl, fun r h => (by cases h), World.ownsRow_nil _ _ _ _, fun _ => False, fun _ h => h.elim, fun k r x h => by simp at h⟩
theorem RowV.keep (h : RowV D ty n lo W v l rows) (ha : AgI lo W W') : RowV D ty n lo W' v l rows := by
 obtain ⟨S, h1, h2⟩ := h.ex
 exact ⟨h.len, h.wid, own_blk h.own fun g _ hl hb => ha.block g hb hl, S, fun k hk => ⟨(h1 k hk).1, Nat.lt_of_lt_of_le (h1 k hk).2.1 ha.size, (h1 k hk).2.2⟩,
  fun k r x hr hx => (h2 k r x hr hx).keep fun i hi => ha.block i (h1 i hi).1 (h1 i hi).2.1⟩
theorem RowO.keep (h : RowO D ty n lo W v l) (ha : AgI lo W W') : RowO D ty n lo W' v l := by
 obtain ⟨rows, hv⟩ := h.ex
 exact ⟨rows, hv.keep ha⟩
theorem RowV.blk (h : RowV D ty n lo W v l rows) (g : Nat) (hg : v.ownBlock = some g) : g < W.heap.size ∧ lo ≤ g := own_lt h.own g hg
/-- One element more: what it points at was made since W1, when the row stood already. -/
theorem RowV.app {W2 W3 : World} {r : List Value} {x : A} (h : RowV D ty n lo W1 v l rows) (ha : AgI lo W1 W2) (hD : New W1.heap.size W2 fun W => D W r x) (hr : r.length = n)
  (h23 : Below W2.heap.size W2 W3) (ho : W'.ownsRow lo ty n v' (rows.length + 1) (rows.flatten ++ r)) (hg : W3.grownBy W' v.ownBlock) (hv : v'.ownBlock = v.ownBlock ∨ v'.ownBlock = some W3.heap.size) (hlo : lo ≤ W1.heap.size) :
  RowO D ty n lo W' v' (l ++ [x]) := by
 obtain ⟨S, h1, h2⟩ := h.ex
 have sz1 := ha.size
 have sz2 := h23.size
 have sz3 := hg.size
 have ne : ∀ k, k < W2.heap.size → v.ownBlock ≠ some k → W'.heap[k]? = W2.heap[k]? := fun k hk hn =>
  (hg.block k (Nat.lt_of_lt_of_le hk sz2) (fun e => hn e.symm)).trans (h23.block k hk)
 have hnv : ∀ k, Iv W1.heap.size W2.heap.size k → v.ownBlock ≠ some k := fun k hk e => by
  have := (h.blk k e).1
  have := hk.1
  omega
 have hnv' : ∀ k, k < W2.heap.size → v.ownBlock ≠ some k → v'.ownBlock ≠ some k := fun k hk hn => by
  rcases hv with e | e
  ·rw [e]; exact hn
  ·rw [e]; intro e2; injection e2 with e2; omega
 refine ⟨rows ++ [r], by simp [h.len], fun q hq => ?_, by simpa using ho, fun k => S k ∨ Iv W1.heap.size W2.heap.size k, fun k hk => ?_, fun k q y hq hy => ?_⟩
 ·rw [List.mem_append, List.mem_singleton] at hq
  rcases hq with hq | rfl
  ·exact h.wid q hq
  ·exact hr
 ·rcases hk with hk | hk
  ·obtain ⟨a1, a2, a3⟩ := h1 k hk
   exact ⟨a1, by omega, hnv' k (by omega) a3⟩
  ·have := hk.1; have := hk.2
   exact ⟨by omega, by omega, hnv' k hk.2 (hnv k hk)⟩
 ·rcases Nat.lt_or_ge k rows.length with hlt | hge
  ·rw [List.getElem?_append_left hlt] at hq
   rw [List.getElem?_append_left (by rw [← h.len]; exact hlt)] at hy
   exact ((h2 k q y hq hy).keep fun i hi => by
    obtain ⟨a1, a2, a3⟩ := h1 i hi
    rw [ne i (by omega) a3, ha.block i a1 a2]).mono fun i hi => .inl hi
  ·have hk : k = rows.length := by
    rcases Nat.eq_or_lt_of_le hge with e | e
    ·exact e.symm
    ·rw [List.getElem?_append_right hge, List.getElem?_eq_none (by simp; omega)] at hq
     cases hq
   subst hk
   rw [List.getElem?_append_right (Nat.le_refl _), Nat.sub_self] at hq
   rw [List.getElem?_append_right (by rw [h.len]; exact Nat.le_refl _), h.len, Nat.sub_self] at hy
   simp at hq hy
   subst hq hy
   exact (Fp.keep (S := Iv W1.heap.size W2.heap.size) hD fun i hi => ne i hi.2 (hnv i hi)).mono fun i hi => .inr hi
/-- A row that is made. -/
theorem RowO.done (h : RowO D ty n lo W v l) : ∃ oa cap, v = .slice oa l.length cap ∧ New lo W (fun W' => Rws D n W' oa l) ∧ (l ≠ [] → ∃ a, oa = some a) ∧ l.length ≤ cap := by
 obtain ⟨rows, hV⟩ := h.ex
 obtain ⟨oa, cap, rfl, hs⟩ := own_rows hV.wid hV.own
 have hcap := own_cap hV.own
 rw [hV.len] at hcap
 have hl := hV.len
 refine ⟨oa, cap, by rw [hl], fun W' hW' => ?_, fun hne => ?_, hcap.1⟩
 ·obtain ⟨S, h1, h2⟩ := hV.ex
  refine ⟨rows, hV.len, ?_, fun k r x hr hx => h2 k r x hr hx W' fun i hi => hW' i ⟨(h1 i hi).1, (h1 i hi).2.1⟩⟩
  have hO : W'.ownsRow lo ty n (.slice oa rows.length cap) rows.length rows.flatten := own_blk hV.own fun g _ hl hb => hW' g ⟨hb, hl⟩
  obtain ⟨oa', cap', e, hs'⟩ := own_rows hV.wid hO
  injection e with e _ _
  rw [e]
  exact hs'
 ·cases oa with
  | some a => exact ⟨a, rfl⟩
  | none =>
   exfalso
   have h3 := hcap.2 rfl
   rw [h3] at hcap
   exact hne (List.length_eq_zero_iff.1 (Nat.le_zero.1 hcap.1))
end
end Go.Proofs.Ng
end

