/-
  Texts put together: Ef Eg Eh Ei.
-/
import Derived.Test.YtemchlakoalhcaaZJointMoves17
import Derived.Test.YtemchlakoalhcaaZJointMoves18
import Derived.StillTailTactics
set_option linter.unusedVariables false
section
/-
  Walks: the function that tick hands to expand.
-/
namespace Go.Proofs.Jn
open Go.RowKit Go.Shelf

def bvals (l : List (S4 × S4)) : List (S4 × Value) := l.map fun e => (e.1, e.2.v)
theorem put_bvals (l : List (S4 × S4)) (a f : S4) : putL (bvals l) a f.v = bvals (putB l a f) := by
  induction l with
  | nil => rfl
  | cons x r ih =>
    obtain ⟨b, k⟩ := x
    simp only [bvals, List.map_cons, putL, putB]
    split
    · rfl
    · simp only [List.map_cons]; congr 1
/-- What the search knows, where it lies. -/
structure SrAt (W : World) (s : Ex) (nl gs gb : Nat) (v : Value) : Prop where
  sm : MapIs W gs S4.v (cvals s.seen)
  bm : MapIs W gb S4.v (bvals s.bef)
  box : Blk W nl [v]
  own : W.ownsRow (nl + 1) 84 4 v s.next.length (s.next.flatMap S4.l)
theorem SrAt.keep {W W' : World} {s : Ex} {nl gs gb : Nat} {v : Value} (h : SrAt W s nl gs gb v) (hb : Below W.heap.size W W') : SrAt W' s nl gs gb v := ⟨h.sm.keep hb, h.bm.keep hb, h.box.keep hb, own_keep h.own hb⟩
def srUses (nl gs gb : Nat) (v : Value) (b : Nat) : Prop := b = gs ∨ b = gb ∨ b = nl ∨ v.ownBlock = some b
theorem SrAt.keepQ {W W' : World} {s : Ex} {nl gs gb : Nat} {v : Value} (h : SrAt W s nl gs gb v) (hs : W.heap.size ≤ W'.heap.size) (hb : ∀ b, srUses nl gs gb v b → W'.heap[b]? = W.heap[b]?) : SrAt W' s nl gs gb v :=
  ⟨h.sm.keepN (hb gs (.inl rfl)), h.bm.keepN (hb gb (.inr (.inl rfl))), h.box.keepN (hb nl (.inr (.inr (.inl rfl)))) hs, own_blk h.own fun g hg _ _ => hb g (.inr (.inr (.inr hg)))⟩
theorem SrAt.lt {W : World} {s : Ex} {nl gs gb : Nat} {v : Value} (h : SrAt W s nl gs gb v) {b : Nat} (hb : srUses nl gs gb v b) : b < W.heap.size := by
  rcases hb with rfl | rfl | rfl | hb
  · exact h.sm.lt
  · exact h.bm.lt
  · exact h.box.lt
  · exact (own_lt h.own b hb).1
theorem SrAt.uniq {W : World} {s s' : Ex} {nl gs gb : Nat} {v v' : Value} (h : SrAt W s nl gs gb v) (k : SrAt W s' nl gs gb v') : v' = v := by
  have h1 := h.box.c 0 _ rfl
  have h2 := k.box.c 0 _ rfl
  rw [h1] at h2
  injection h2 with h2
  exact h2.symm
/-- Only some blocks may have changed. -/
structure Tch (Cb : Nat → Prop) (W W' : World) : Prop where
  os : W'.os = W.os
  tape : W'.tape = W.tape
  output : W'.output = W.output
  size : W.heap.size ≤ W'.heap.size
  block : ∀ b, b < W.heap.size → ¬ Cb b → W'.heap[b]? = W.heap[b]?
theorem Tch.of_below {Cb : Nat → Prop} {W W' : World} (h : Below W.heap.size W W') : Tch Cb W W' := ⟨h.os, h.tape, h.output, h.size, fun b hb _ => h.block b hb⟩
theorem Tch.of_grown {Cb : Nat → Prop} {W W' : World} {o : Option Nat} (h : W.grownBy W' o) (hc : ∀ b, o = some b → Cb b) : Tch Cb W W' := ⟨h.os, h.tape, h.output, h.size, fun b hb hn => h.block b hb fun e => hn (hc b e.symm)⟩
theorem Tch.trans {Cb : Nat → Prop} {W W' W'' : World} (h : Tch Cb W W') (k : Tch Cb W' W'') : Tch Cb W W'' :=
  ⟨k.os.trans h.os, k.tape.trans h.tape, k.output.trans h.output, Nat.le_trans h.size k.size, fun b hb hn => by rw [k.block b (Nat.lt_of_lt_of_le hb h.size) hn, h.block b hb hn]⟩
theorem Tch.blk {Cb : Nat → Prop} {W W' : World} {n : Nat} {l : List Value} (h : Tch Cb W W') (r : Blk W n l) (hn : ¬ Cb n) : Blk W' n l := r.keepN (h.block n r.lt hn) h.size
theorem under89 : Try.prog.underlying 89 = some (.slice 84) := by kernel_rfl
theorem s4_snoc (l : List S4) (t : S4) : (l ++ [t]).flatMap S4.l = l.flatMap S4.l ++ t.l := by simp
theorem Tch.set {Cb : Nat → Prop} {W W' : World} (h : Tch Cb W W') {n : Nat} (hn : Cb n) (i : Nat) (x : Value) : Tch Cb W (W'.setCell ⟨n, i, none⟩ x) :=
  ⟨h.os, h.tape, h.output, Nat.le_trans h.size (by simp [World.setCell]), fun b hb hc => by rw [Below.heap_setCell W' ⟨n, i, none⟩ x b (fun e => hc (by have : b = n := e; rw [this]; exact hn))]; exact h.block b hb hc⟩
theorem eq84 (t u : S4) (w : World) : (binOp .eql 84 t.v u.v).run Try.prog w = .ok (.bool (decide (t = u))) w := by
  have := k84.eqv t u w
  unfold S4.v at this ⊢
  simp only [binOp]
  simp [go_sem, this]
set_option maxRecDepth 100000 in
set_option maxHeartbeats 4000000 in
theorem vis_any (on : Option Addr) (N cn gm ne gb gs gc n2 n8 nl : Nat) (st go f : S4) (s : Ex) (v : Value) (t : S4) (w : World) (hX : Blk w ne (exL on N cn gm st go gb gs gc)) (hP : Blk w n2 [.pointer (some ⟨ne, 0, none⟩)]) (hF : Blk w n8 f.l) (hS : SrAt w s nl gs gb v)
    (d1 : gs ≠ gb) (d2 : nl ≠ gs) (d3 : nl ≠ gb) (dx : ¬ srUses nl gs gb v ne) (dp : ¬ srUses nl gs gb v n2) (df : ¬ srUses nl gs gb v n8) (dv1 : v.ownBlock ≠ some gs) (dv2 : v.ownBlock ≠ some gb) (hN : N ≤ 4) (hb : ∀ b, cntN s.seen b ≤ 1000000000000) (hnl : s.next.length < 1000000000000) :
    Calls Try.prog 59 (#[t.v] ++ #[.pointer (some ⟨n2, 0, none⟩), .pointer (some ⟨n8, 0, none⟩), .pointer (some ⟨nl, 0, none⟩)]) w fun e w' => e = .returned (.bool (decide (t = go))) ∧ (∃ g c, SrAt w' ⟨markN t N s.seen, putB s.bef t f, s.next ++ [t]⟩ nl gs gb (.slice (some ⟨g, 0, none⟩) (s.next.length + 1) c) ∧ (v.ownBlock = some g ∨ w.heap.size ≤ g)) ∧ Tch (srUses nl gs gb v) w w' := by
  have HBD := Lib.hid hb
  have HLN := Lib.hid hnl
  have heq := fun X => eq84 t go X
  have HLT : Hid (∀ b, srUses nl gs gb v b → b < w.heap.size) := Lib.hid fun b h => hS.lt h
  clear hb hnl
  unfold S4.v at heq ⊢
  go_enter Try.func59, Try.ntmps59
  go_upto_region 1 with fail
  have hbx_ := blks1 w [.int .i64 t.a, .int .i64 t.b, .int .i64 t.c, .int .i64 t.d] 84
  replace hX := hX.keep hbx_.2
  replace hP := hP.keep hbx_.2
  replace hF := hF.keep hbx_.2
  replace hS := hS.keep hbx_.2
  have HB := Lib.hid (hbx_.2)
  have hod : w.heap.size ≤ w.heap.size := by omega
  generalize w.alloc (.cells #[.int .i64 t.a, .int .i64 t.b, .int .i64 t.c, .int .i64 t.d] 84) = W0 at hbx_ hX hP hF hS HB ⊢
  obtain ⟨r4, hbel_⟩ := hbx_
  obtain ⟨n4, hn_⟩ : ∃ n, n = w.heap.size := ⟨_, rfl⟩
  rw [← hn_] at r4 ⊢
  replace hod := Nat.le_of_eq hn_.symm
  clear hn_ hbel_
  have hT0 : Tch (srUses nl gs gb v) w W0 := Tch.of_below HB.out
  have b0 : W0.cell? ⟨n4, 0, none⟩ = some (.int .i64 t.a) := r4.c 0 _ rfl
  have b1 : W0.cell? ⟨n4, 1, none⟩ = some (.int .i64 t.b) := r4.c 1 _ rfl
  have b2 : W0.cell? ⟨n4, 2, none⟩ = some (.int .i64 t.c) := r4.c 2 _ rfl
  have b3 : W0.cell? ⟨n4, 3, none⟩ = some (.int .i64 t.d) := r4.c 3 _ rfl
  have l4 := r4.lt
  have p0 : W0.cell? ⟨n2, 0, none⟩ = some (.pointer (some ⟨ne, 0, none⟩)) := hP.c 0 _ rfl
  have lp := hP.lt
  have HMK := Lib.hid (mark_any on N cn gm ne gb gs gc st go s.seen t W0 hX hS.sm (fun e => dx (.inl e)) hN HBD.out)
  have hn4 : ¬ srUses nl gs gb v n4 := fun h => by
    have := HLT.out n4 h
    omega
  go_wp2_with fail
  refine HMK.out.mono ?_
  rintro e W1 ⟨rfl, hm1, hg1⟩
  clear b0 b1 b2 b3 l4 p0 lp HMK
  have hT1 := hT0.trans (Tch.of_grown (Cb := srUses nl gs gb v) hg1 (fun b h => .inl (by injection h with h; exact h.symm)))
  replace r4 := r4.keepG hg1 (fun e => hn4 (.inl e))
  replace hX := hX.keepG hg1 (fun e => dx (.inl e))
  replace hP := hP.keepG hg1 (fun e => dp (.inl e))
  replace hF := hF.keepG hg1 (fun e => df (.inl e))
  have hbm := hS.bm.keepG hg1 d1.symm
  have hbx := hS.box.keepG hg1 d2
  have hown : W1.ownsRow (nl + 1) 84 4 v s.next.length (s.next.flatMap S4.l) := own_blk hS.own fun g hg hlt _ => hg1.block g hlt (fun e => dv1 (by rw [hg, e]))
  have b0 : W1.cell? ⟨n4, 0, none⟩ = some (.int .i64 t.a) := r4.c 0 _ rfl
  have b1 : W1.cell? ⟨n4, 1, none⟩ = some (.int .i64 t.b) := r4.c 1 _ rfl
  have b2 : W1.cell? ⟨n4, 2, none⟩ = some (.int .i64 t.c) := r4.c 2 _ rfl
  have b3 : W1.cell? ⟨n4, 3, none⟩ = some (.int .i64 t.d) := r4.c 3 _ rfl
  have l4 := r4.lt
  have a0 : W1.cell? ⟨n8, 0, none⟩ = some (.int .i64 f.a) := hF.c 0 _ rfl
  have a1 : W1.cell? ⟨n8, 1, none⟩ = some (.int .i64 f.b) := hF.c 1 _ rfl
  have a2 : W1.cell? ⟨n8, 2, none⟩ = some (.int .i64 f.c) := hF.c 2 _ rfl
  have a3 : W1.cell? ⟨n8, 3, none⟩ = some (.int .i64 f.d) := hF.c 3 _ rfl
  have l8 := hF.lt
  have p0 : W1.cell? ⟨n2, 0, none⟩ = some (.pointer (some ⟨ne, 0, none⟩)) := hP.c 0 _ rfl
  have lp := hP.lt
  have x10 : W1.cell? ⟨ne, 10, none⟩ = some (.map (some gb)) := hX.c 10 _ rfl
  have lx := hX.lt
  have hmu := run_mapUpdate k84 Try.underlying85 W1.drew gb (bvals s.bef) t f.v (hbm.keep (Below.refl _ _).drew)
  rw [put_bvals] at hmu
  have hbm2 : MapIs (wput W1.drew gb S4.v (bvals (putB s.bef t f))) gb S4.v (bvals (putB s.bef t f)) := hbm.put
  have hgw := wput_grown (enc := S4.v) W1.drew gb (bvals (putB s.bef t f))
  have hdr : Below W1.heap.size W1 W1.drew := (Below.refl _ _).drew
  have hm2 := (hm1.keep hdr).keepG hgw d1
  have hbx2 := (hbx.keep hdr).keepG hgw d3
  have hr42 := (r4.keep hdr).keepG hgw (fun e => hn4 (.inr (.inl e)))
  have hX2 := (hX.keep hdr).keepG hgw (fun e => dx (.inr (.inl e)))
  have hP2 := (hP.keep hdr).keepG hgw (fun e => dp (.inr (.inl e)))
  have hown2 := own_blk (W' := wput W1.drew gb S4.v (bvals (putB s.bef t f))) (own_keep hown hdr) fun g hg hlt _ => hgw.block g hlt (fun e => dv2 (by rw [hg, e]))
  have hT2 := hT1.trans ((Tch.of_below (Cb := srUses nl gs gb v) hdr).trans (Tch.of_grown hgw (fun b h => .inr (.inl (by injection h with h; exact h.symm)))))
  clear hbm hbx hown hm1 hX hP hF r4 hT1 hT0 hg1 hgw hdr
  generalize wput W1.drew gb S4.v (bvals (putB s.bef t f)) = W2 at hmu hbm2 hm2 hbx2 hr42 hX2 hP2 hown2 hT2
  unfold S4.v at hmu
  go_upto_region 2 with fail
  go_still_tail 6, (by kernel_rfl)
  change wpList _ _ _ _ _ W1.drew
  go_upto_region 3 with fail
  clear hmu b0 b1 b2 b3 l4 a0 a1 a2 a3 l8 p0 lp x10 lx
  have b0 : W2.cell? ⟨n4, 0, none⟩ = some (.int .i64 t.a) := hr42.c 0 _ rfl
  have b1 : W2.cell? ⟨n4, 1, none⟩ = some (.int .i64 t.b) := hr42.c 1 _ rfl
  have b2 : W2.cell? ⟨n4, 2, none⟩ = some (.int .i64 t.c) := hr42.c 2 _ rfl
  have b3 : W2.cell? ⟨n4, 3, none⟩ = some (.int .i64 t.d) := hr42.c 3 _ rfl
  have l4 := hr42.lt
  have x0 : W2.cell? ⟨nl, 0, none⟩ = some v := hbx2.c 0 _ rfl
  have lx := hbx2.lt
  have hal : Below W2.heap.size W2 (W2.alloc (.cells #[.int .i64 t.a, .int .i64 t.b, .int .i64 t.c, .int .i64 t.d] 84)) := (Below.refl _ _).alloc (Nat.le_refl _) _
  have HCC := Lib.hid (new_cells W2 [.int .i64 t.a, .int .i64 t.b, .int .i64 t.c, .int .i64 t.d] 84)
  have HO := Lib.hid (own_keep hown2 hal)
  have HSM := Lib.hid (hm2.keep hal)
  have HBM := Lib.hid (hbm2.keep hal)
  have HBX := Lib.hid (hbx2.keep hal)
  have HR4 := Lib.hid (hr42.keep hal)
  have HX2 := Lib.hid (hX2.keep hal)
  have HP2 := Lib.hid (hP2.keep hal)
  have HT2 := Lib.hid (hT2.trans (Tch.of_below (Cb := srUses nl gs gb v) hal))
  obtain ⟨i0, hi, hz0, hz1, hz2⟩ := info_parts info84
  clear hal hm2 hbm2 hbx2 hr42 hX2 hP2 hown2 hT2
  go_wp2_with (at_builtin; go_loud (refine wpList_append_lies _ rfl _ _ 89 rfl (nl + 1) 84 i0 (.agg #[.int .i64 0, .int .i64 0, .int .i64 0, .int .i64 0]) 4 32 under89 hi hz0 hz1 hz2 rfl (by decide) _ _ _ rfl HO.out ⟨W2.heap.size, 0, none⟩ 1 1 [.int .i64 t.a, .int .i64 t.b, .int .i64 t.c, .int .i64 t.d] rfl rfl ?c1 ?c2 (by decide) ?c3 ?c4 ?c5 _ rfl ?_))
  case c1 => simpa using HCC.out
  case c2 => intro u hu; simp at hu; rcases hu with rfl | rfl | rfl | rfl <;> rfl
  case c3 => unfold maxLen; have := HLN.out; omega
  case c4 => have := HLN.out; omega
  case c5 => have := HBX.out.lt; omega
  intro g' c' W9 hown hgrow hat hlt9
  have hnb : ∀ b, b ≤ nl → v.ownBlock ≠ some b := fun b hb e => by have := (own_lt HO.out b e).2; omega
  have hst : ∀ b, b ≠ nl → (W9.setCell ⟨nl, 0, none⟩ (.slice (some ⟨g', 0, none⟩) (s.next.length + 1) c')).heap[b]? = W9.heap[b]? := fun b hb => Below.heap_setCell W9 ⟨nl, 0, none⟩ _ b hb
  have hsz : W9.heap.size ≤ (W9.setCell ⟨nl, 0, none⟩ (.slice (some ⟨g', 0, none⟩) (s.next.length + 1) c')).heap.size := by simp [World.setCell]
  have hbk : ∀ b, b < W2.heap.size + 1 → b ≠ nl → v.ownBlock ≠ some b → (W9.setCell ⟨nl, 0, none⟩ (.slice (some ⟨g', 0, none⟩) (s.next.length + 1) c')).heap[b]? = (W2.alloc (.cells #[.int .i64 t.a, .int .i64 t.b, .int .i64 t.c, .int .i64 t.d] 84)).heap[b]? := fun b hb h1 h2 => by
    rw [hst b h1, hgrow.block b (by simp; exact hb) (fun e => h2 e.symm)]
  have hsz2 : (W2.alloc (.cells #[.int .i64 t.a, .int .i64 t.b, .int .i64 t.c, .int .i64 t.d] 84)).heap.size ≤ (W9.setCell ⟨nl, 0, none⟩ (.slice (some ⟨g', 0, none⟩) (s.next.length + 1) c')).heap.size := Nat.le_trans hgrow.size hsz
  have l1 := HSM.out.lt
  have l2 := HBM.out.lt
  have l3 := HR4.out.lt
  have l5 := HX2.out.lt
  have l6 := HP2.out.lt
  have l7 := HBX.out.lt
  have hals : (W2.alloc (.cells #[.int .i64 t.a, .int .i64 t.b, .int .i64 t.c, .int .i64 t.d] 84)).heap.size = W2.heap.size + 1 := by simp
  rw [hals] at l1 l2 l3 l5 l6 l7
  have hSM := HSM.out.keepN (hbk gs l1 d2.symm dv1)
  have hBM := HBM.out.keepN (hbk gb l2 d3.symm dv2)
  have hR4 := HR4.out.keepN (hbk n4 l3 (fun e => hn4 (.inr (.inr (.inl e)))) (fun e => hn4 (.inr (.inr (.inr e))))) hsz2
  have hX3 := HX2.out.keepN (hbk ne l5 (fun e => dx (.inr (.inr (.inl e)))) (fun e => dx (.inr (.inr (.inr e))))) hsz2
  have hP3 := HP2.out.keepN (hbk n2 l6 (fun e => dp (.inr (.inr (.inl e)))) (fun e => dp (.inr (.inr (.inr e))))) hsz2
  have hBX9 := HBX.out.keepN (hgrow.block nl (by rw [hals]; exact l7) (fun e => hnb nl (Nat.le_refl _) e.symm)) hgrow.size
  have hBX := hBX9.put 0 (.slice (some ⟨g', 0, none⟩) (s.next.length + 1) c')
  have hOW : (W9.setCell ⟨nl, 0, none⟩ (.slice (some ⟨g', 0, none⟩) (s.next.length + 1) c')).ownsRow (nl + 1) 84 4 (.slice (some ⟨g', 0, none⟩) (s.next.length + 1) c') (s.next ++ [t]).length ((s.next ++ [t]).flatMap S4.l) := by
    rw [s4_snoc, List.length_append]
    exact own_blk hown fun b _ _ hb => hst b (by omega)
  have hTT := (HT2.out.trans (Tch.of_grown (Cb := srUses nl gs gb v) hgrow (fun b h => .inr (.inr (.inr h))))).set (n := nl) (.inr (.inr (.inl rfl))) 0 (.slice (some ⟨g', 0, none⟩) (s.next.length + 1) c')
  have c09 := hBX9.c 0 _ rfl
  have f09 := hBX9.f 0
  have l09 := hBX9.lt
  have HSRT : Hid (SrAt (W9.setCell ⟨nl, 0, none⟩ (.slice (some ⟨g', 0, none⟩) (s.next.length + 1) c')) ⟨markN t N s.seen, putB s.bef t f, s.next ++ [t]⟩ nl gs gb (.slice (some ⟨g', 0, none⟩) (s.next.length + 1) c')) := Lib.hid ⟨hSM, hBM, hBX, hOW⟩
  have HTT := Lib.hid hTT
  have HR4N := Lib.hid hR4
  have HX3 := Lib.hid hX3
  have HP3 := Lib.hid hP3
  have HAT : Hid (v.ownBlock = some g' ∨ w.heap.size ≤ g') := Lib.hid (by
    rcases hat with h | h
    · exact .inl h
    · have := HT2.out.size
      rw [hals] at this
      exact .inr (by omega))
  clear hown hgrow hat hlt9 hnb hst hsz hbk hsz2 l1 l2 l3 l4 l5 l6 l7 hals hSM hBM hR4 hX3 hP3 hBX9 hBX hOW hTT hi hz0 hz1 hz2 b0 b1 b2 b3 x0 lx
  go_upto_region 4 with fail
  clear c09 f09 l09
  generalize W9.setCell ⟨nl, 0, none⟩ (.slice (some ⟨g', 0, none⟩) (s.next.length + 1) c') = X at HSRT HTT HR4N HX3 HP3 ⊢
  have hR4 := HR4N.out
  have hX3 := HX3.out
  have hP3 := HP3.out
  have b0 : X.cell? ⟨n4, 0, none⟩ = some (.int .i64 t.a) := hR4.c 0 _ rfl
  have b1 : X.cell? ⟨n4, 1, none⟩ = some (.int .i64 t.b) := hR4.c 1 _ rfl
  have b2 : X.cell? ⟨n4, 2, none⟩ = some (.int .i64 t.c) := hR4.c 2 _ rfl
  have b3 : X.cell? ⟨n4, 3, none⟩ = some (.int .i64 t.d) := hR4.c 3 _ rfl
  have l4 := hR4.lt
  have p0 : X.cell? ⟨n2, 0, none⟩ = some (.pointer (some ⟨ne, 0, none⟩)) := hP3.c 0 _ rfl
  have lp := hP3.lt
  have x6 : X.cell? ⟨ne, 6, none⟩ = some (.int .i64 go.a) := hX3.c 6 _ rfl
  have x7 : X.cell? ⟨ne, 7, none⟩ = some (.int .i64 go.b) := hX3.c 7 _ rfl
  have x8 : X.cell? ⟨ne, 8, none⟩ = some (.int .i64 go.c) := hX3.c 8 _ rfl
  have x9 : X.cell? ⟨ne, 9, none⟩ = some (.int .i64 go.d) := hX3.c 9 _ rfl
  have lx := hX3.lt
  clear hR4 hX3 hP3
  go_quiet (fail)
  have HS9 := Lib.hid (HSRT.out.keep (below_drew X nq))
  have HT9 := Lib.hid (HTT.out.trans (Tch.of_below (Cb := srUses nl gs gb v) (below_drew X nq)))
  clear b0 b1 b2 b3 l4 p0 lp x6 x7 x8 x9 lx
  generalize X.drewN nq = Y at HS9 HT9 ⊢
  go_wp2
  go_ret
  exact ⟨rfl, ⟨g', c', HS9.out, HAT.out⟩, HT9.out⟩
end Go.Proofs.Jn
end

section
/-
  What tick hands to expand.
-/
namespace Go.Proofs.Jn
open Go.RowKit Go.Shelf

/-- What stands while a tick goes on. -/
structure FixW (W : World) (on : Option Addr) (N cn gm ne gb gs gc n2 n8 : Nat) (st go f : S4) (cnt : List Nat) : Prop where
  x : Blk W ne (exL on N cn gm st go gb gs gc)
  c : Blk W gc (nflat cnt)
  p : Blk W n2 [.pointer (some ⟨ne, 0, none⟩)]
  a : Blk W n8 f.l
theorem FixW.keepQ {W W' : World} {on : Option Addr} {N cn gm ne gb gs gc n2 n8 : Nat} {st go f : S4} {cnt : List Nat} (h : FixW W on N cn gm ne gb gs gc n2 n8 st go f cnt) (hs : W.heap.size ≤ W'.heap.size) (hb : ∀ b, b < W.heap.size → (b = ne ∨ b = gc ∨ b = n2 ∨ b = n8) → W'.heap[b]? = W.heap[b]?) : FixW W' on N cn gm ne gb gs gc n2 n8 st go f cnt :=
  ⟨h.x.keepN (hb ne h.x.lt (.inl rfl)) hs, h.c.keepN (hb gc h.c.lt (.inr (.inl rfl))) hs, h.p.keepN (hb n2 h.p.lt (.inr (.inr (.inl rfl)))) hs, h.a.keepN (hb n8 h.a.lt (.inr (.inr (.inr rfl)))) hs⟩
/-- Blocks that are apart. -/
def Apart (ne gb gs gc n2 n8 nl : Nat) : Prop := gs ≠ gb ∧ nl ≠ gs ∧ nl ≠ gb ∧ ∀ b, (b = ne ∨ b = gc ∨ b = n2 ∨ b = n8) → b ≠ gs ∧ b ≠ gb ∧ b ≠ nl
def vApart (ne gb gs gc n2 n8 : Nat) (v : Value) : Prop := ∀ b, v.ownBlock = some b → b ≠ gs ∧ b ≠ gb ∧ b ≠ ne ∧ b ≠ gc ∧ b ≠ n2 ∧ b ≠ n8
theorem not_uses {ne gb gs gc n2 n8 nl : Nat} {v : Value} (h : Apart ne gb gs gc n2 n8 nl) (k : vApart ne gb gs gc n2 n8 v) {b : Nat} (hb : b = ne ∨ b = gc ∨ b = n2 ∨ b = n8) : ¬ srUses nl gs gb v b := by
  obtain ⟨h1, h2, h3⟩ := h.2.2.2 b hb
  rintro (e | e | e | e)
  · exact h1 e
  · exact h2 e
  · exact h3 e
  · have := k b e
    rcases hb with rfl | rfl | rfl | rfl
    · exact this.2.2.1 rfl
    · exact this.2.2.2.1 rfl
    · exact this.2.2.2.2.1 rfl
    · exact this.2.2.2.2.2 rfl
def ghT (on : Option Addr) (N cn gm ne gb gs gc n2 n8 nl : Nat) (st go f : S4) (cnt : List Nat) : Gh Ex where
  Inv s W := (∃ v, SrAt W s nl gs gb v ∧ vApart ne gb gs gc n2 n8 v) ∧ FixW W on N cn gm ne gb gs gc n2 n8 st go f cnt
  Own s W b := ∃ v, SrAt W s nl gs gb v ∧ srUses nl gs gb v b
  R c s := s.next.length + c ≤ 100000000000 ∧ ∀ b, cntN s.seen b + 4 * c ≤ 1000000000000
  fo := 58
  fv := 59
  Fo := #[.pointer (some ⟨ne, 0, none⟩)]
  Cv := #[.pointer (some ⟨n2, 0, none⟩), .pointer (some ⟨n8, 0, none⟩), .pointer (some ⟨nl, 0, none⟩)]
  op := opF (atOf cnt)
  vi := viF N go f
theorem ownT {on : Option Addr} {N cn gm ne gb gs gc n2 n8 nl : Nat} {st go f : S4} {cnt : List Nat} {s : Ex} {W : World} {v : Value} (h : SrAt W s nl gs gb v) (b : Nat) : (ghT on N cn gm ne gb gs gc n2 n8 nl st go f cnt).Own s W b ↔ srUses nl gs gb v b := by
  constructor
  · rintro ⟨v', h', hu⟩
    have := h.uniq h'
    subst this
    exact hu
  · exact fun hu => ⟨v, h, hu⟩
theorem ghT_ok {on : Option Addr} {N cn gm ne gb gs gc n2 n8 nl B : Nat} {st go f : S4} {cnt : List Nat} {nx : List (List (List Nat))} {a : Nat → Nat} (hA : Apart ne gb gs gc n2 n8 nl) (hnx : nx.length = N) (hN : N ≤ 4) (hcl : cnt.length = N + 1) (hB : ∀ b, (b = ne ∨ b = gc ∨ b = n2 ∨ b = n8) → b < B) : GhOk (ghT on N cn gm ne gb gs gc n2 n8 nl st go f cnt) nx a B where
  eo := enters_of Try.func58 (by kernel_rfl) rfl
  ev := enters_of Try.func59 (by kernel_rfl) rfl
  keep := by
    rintro s W W' ⟨⟨v, hS, hv⟩, hF⟩ hb
    exact ⟨⟨v, hS.keep hb, hv⟩, hF.keepQ hb.size fun b h _ => hb.block b h⟩
  kset := by
    rintro s W n i x ⟨⟨v, hS, hv⟩, hF⟩ hBn ho _
    rw [ownT hS] at ho
    have hs : W.heap.size ≤ (W.setCell ⟨n, i, none⟩ x).heap.size := by simp [World.setCell]
    refine ⟨⟨v, hS.keepQ hs fun b hb => Below.heap_setCell W ⟨n, i, none⟩ x b (fun e => ho (by have : b = n := e; rw [← this]; exact hb)), hv⟩, hF.keepQ hs fun b _ hb => Below.heap_setCell W ⟨n, i, none⟩ x b ?_⟩
    have := hB b hb
    show b ≠ n
    omega
  own := by
    rintro s W b ⟨⟨v, hS, hv⟩, _⟩ ho
    rw [ownT hS] at ho
    exact hS.lt ho
  ownB := by
    rintro s W W' b ⟨⟨v, hS, hv⟩, _⟩ hb ho
    rw [ownT (hS.keep hb)] at ho
    rw [ownT hS]
    exact ho
  ownS := by
    rintro s W n i x b ⟨⟨v, hS, hv⟩, _⟩ hBn hno ho
    rw [ownT hS] at hno ⊢
    have hs : W.heap.size ≤ (W.setCell ⟨n, i, none⟩ x).heap.size := by simp [World.setCell]
    rw [ownT (hS.keepQ hs fun b hb => Below.heap_setCell W ⟨n, i, none⟩ x b (fun e => hno (by have : b = n := e; rw [← this]; exact hb)))] at ho
    exact ho
  mono := by
    rintro c c' s ⟨h1, h2⟩ hc
    exact ⟨by omega, fun b => by have := h2 b; omega⟩
  callO := by
    rintro s W t k ⟨⟨v, hS, hv⟩, hF⟩ hk
    exact open_any on N cn gm ne gb gs gc st go s.seen cnt t k W hF.x hS.sm hF.c hcl (by omega) hN
  callV := by
    rintro s W t c ⟨⟨v, hS, hv⟩, hF⟩ ⟨hR1, hR2⟩ hT _
    refine (vis_any on N cn gm ne gb gs gc n2 n8 nl st go f s v t W hF.x hF.p hF.a hS hA.1 hA.2.1 hA.2.2.1 (not_uses hA hv (.inl rfl)) (not_uses hA hv (.inr (.inr (.inl rfl)))) (not_uses hA hv (.inr (.inr (.inr rfl)))) (fun e => (hv _ e).1 rfl) (fun e => (hv _ e).2.1 rfl) hN (fun b => by have := hR2 b; omega) (by omega)).mono ?_
    rintro e w' ⟨rfl, ⟨g', c', hS', hat⟩, hTch⟩
    have hno : ∀ b, b < W.heap.size → (b = ne ∨ b = gc ∨ b = n2 ∨ b = n8) → w'.heap[b]? = W.heap[b]? := fun b hb hbb => hTch.block b hb (not_uses hA hv hbb)
    refine ⟨rfl, ⟨hTch.os, hTch.tape, hTch.output, hTch.size, fun b hb hn => hTch.block b hb fun h => hn ((ownT hS b).2 h), fun b hb => ?_⟩, ⟨⟨_, hS', fun b hb => ?_⟩, hF.keepQ hTch.size hno⟩, ?_, fun b => ?_⟩
    · have hb' := (ownT hS' b).1 hb
      rw [ownT hS]
      rcases hb' with h | h | h | h
      · exact .inl (.inl h)
      · exact .inl (.inr (.inl h))
      · exact .inl (.inr (.inr (.inl h)))
      · simp [Value.ownBlock] at h
        subst h
        rcases hat with h | h
        · exact .inl (.inr (.inr (.inr h)))
        · exact .inr h
    · simp [Value.ownBlock] at hb
      subst hb
      rcases hat with h | h
      · exact hv _ h
      · have l1 := hS.sm.lt
        have l2 := hS.bm.lt
        have l3 := hF.x.lt
        have l4 := hF.c.lt
        have l5 := hF.p.lt
        have l6 := hF.a.lt
        omega
    · show (s.next ++ [t]).length + c ≤ _
      simp; omega
    · show cntN (markN t N s.seen) b + 4 * c ≤ _
      have h1 := (cnt_mark t b s.seen N).2
      have h2 := hR2 b
      omega
end Go.Proofs.Jn
end

section
/-
  Walks: tick.
-/
namespace Go.Proofs.Jn
open Go.RowKit Go.Shelf

theorem tickF_drop {N : Nat} {nx : List (List (List Nat))} {l : List ((Mv × Mv) × Value)} {cn : Nat → Nat} {goal : S4} {layer : List S4} {j : Nat} {f : S4} (h : layer[j]? = some f) (s : Ex) :
    tickF N nx l cn goal (layer.drop j) s = if (expF nx (frB l (vxs N f)) (opF cn) (viF N goal f) (vxs N f) N 0 s4n s).1 = true then (true, (expF nx (frB l (vxs N f)) (opF cn) (viF N goal f) (vxs N f) N 0 s4n s).2) else tickF N nx l cn goal (layer.drop (j + 1)) (expF nx (frB l (vxs N f)) (opF cn) (viF N goal f) (vxs N f) N 0 s4n s).2 := by
  obtain ⟨hj, rfl⟩ := List.getElem?_eq_some_iff.1 h
  rw [List.drop_eq_getElem_cons hj]
  rfl
theorem Sl.tch {W W' : World} {Cb : Nat → Prop} {o : Option Addr} {n : Nat} {rows : List (List Value)} (h : Sl W o n rows) (k : Tch Cb W W') (ho : ∀ b off s, o = some ⟨b, off, s⟩ → ¬ Cb b) : Sl W' o n rows := fun hne => by
  obtain ⟨b, off, he, hr⟩ := h hne
  exact ⟨b, off, he, hr.keepQ k.size (k.block b hr.lt (ho b off none he))⟩
theorem CrewAt.tch {W W' : World} {Cb : Nat → Prop} {on : Option Addr} {es : List NxE} {gm : Nat} {l : List ((Mv × Mv) × Value)} (h : CrewAt W on es gm l) (k : Tch Cb W W') (ho : ∀ b, crewUses on es gm b → ¬ Cb b) : CrewAt W' on es gm l :=
  h.keepC ⟨k.size, fun b hb => k.block b (h.lt b hb) (ho b hb)⟩
theorem ghT_op {on : Option Addr} {N cn gm ne gb gs gc n2 n8 nl : Nat} {st go f : S4} {cnt : List Nat} : (ghT on N cn gm ne gb gs gc n2 n8 nl st go f cnt).op = opF (atOf cnt) := rfl
theorem ghT_vi {on : Option Addr} {N cn gm ne gb gs gc n2 n8 nl : Nat} {st go f : S4} {cnt : List Nat} : (ghT on N cn gm ne gb gs gc n2 n8 nl st go f cnt).vi = viF N go f := rfl
theorem stp_tch {on : Option Addr} {N cn gm ne gb gs gc n2 n8 nl : Nat} {st go f : S4} {cnt : List Nat} {s s' : Ex} {v : Value} {w X X' : World} (h : Tch (fun b => b = gs ∨ b = gb) w X) (hS : SrAt X s nl gs gb v) (k : Stp (ghT on N cn gm ne gb gs gc n2 n8 nl st go f cnt).Own s X s' X') (hnl : w.heap.size ≤ nl) (hv : ∀ b, v.ownBlock = some b → nl < b) : Tch (fun b => b = gs ∨ b = gb) w X' :=
  ⟨k.os.trans h.os, k.tape.trans h.tape, k.output.trans h.output, Nat.le_trans h.size k.size, fun b hb hc => by
    rw [k.block b (Nat.lt_of_lt_of_le hb h.size) (fun ho => ?_), h.block b hb hc]
    rcases (ownT hS b).1 ho with e | e | e | e
    · exact hc (.inl e)
    · exact hc (.inr e)
    · omega
    · have := hv b e; omega⟩
/-- What tick answers. -/
def TickE (q : Bool × Ex) (gs gb : Nat) (w : World) (e : Ending) (W : World) : Prop :=
  MapIs W gs S4.v (cvals q.2.seen) ∧ MapIs W gb S4.v (bvals q.2.bef) ∧ Tch (fun b => b = gs ∨ b = gb) w W ∧ (q.1 = true → e = .returned (.tuple #[.slice none 0 0, .bool true])) ∧
    (q.1 = false → ∃ on cn, e = .returned (.tuple #[.slice on q.2.next.length cn, .bool false]) ∧ Sl W on 4 (q.2.next.map S4.l) ∧ ∀ b off s, on = some ⟨b, off, s⟩ → w.heap.size ≤ b)
theorem next_sl {W : World} {s : Ex} {nl gs gb : Nat} {v : Value} (h : SrAt W s nl gs gb v) : ∃ on cn, v = .slice on s.next.length cn ∧ Sl W on 4 (s.next.map S4.l) ∧ ∀ b off t, on = some ⟨b, off, t⟩ → nl < b := by
  have e1 : (s.next.map S4.l).flatten = s.next.flatMap S4.l := by rw [List.flatMap_def]
  have e2 : (s.next.map S4.l).length = s.next.length := by simp
  have ho := h.own
  rw [← e1, ← e2] at ho
  obtain ⟨oa, cap, hv, hs⟩ := own_rows (fun r hr => by obtain ⟨t, _, rfl⟩ := List.mem_map.1 hr; rfl) ho
  rw [e2] at hv
  refine ⟨oa, cap, hv, hs, fun b off t hb => ?_⟩
  have := (own_lt h.own b (by rw [hv, hb]; rfl)).2
  omega
set_option maxRecDepth 100000 in
set_option maxHeartbeats 4000000 in
theorem tick_any (on : Option Addr) (es : List NxE) (cn gm ne gb gs gc : Nat) (st go : S4) (cnt : List Nat) (l : List ((Mv × Mv) × Value)) (s : Ex) (ol : Option Addr) (cl : Nat) (layer : List S4) (L : Nat) (w : World)
    (hC : CrewAt w on es gm l) (hv : ∀ e ∈ l, e.2 = .bool true) (h1 : 1 ≤ es.length) (h4 : es.length ≤ 4) (hX : Blk w ne (exL on es.length cn gm st go gb gs gc)) (hK : Blk w gc (nflat cnt)) (hkl : cnt.length = es.length + 1)
    (hsm : MapIs w gs S4.v (cvals s.seen)) (hbm : MapIs w gb S4.v (bvals s.bef)) (hl : Sl w ol 4 (layer.map S4.l)) (hd : gs ≠ gb)
    (hap : ∀ b, (crewUses on es gm b ∨ b = ne ∨ b = gc ∨ ∃ off s, ol = some ⟨b, off, s⟩) → b ≠ gs ∧ b ≠ gb)
    (hf : ∀ f ∈ layer, ∀ (i : Nat) (e : NxE), es[i]? = some e → f.get i = (vxs es.length f i : Nat) ∧ vxs es.length f i < e.ls.length)
    (he : ∀ e ∈ es, e.ls.length ≤ 100000 ∧ ∀ x ∈ e.ls, x.length ≤ L) (hL : L ≤ 100000) (hbd : layer.length * L ^ es.length ≤ 50000000000) (hll : layer.length ≤ 1000000) (hcn : ∀ b, cntN s.seen b ≤ 500000000000) :
    Calls Try.prog 32 #[.pointer (some ⟨ne, 0, none⟩), .slice ol layer.length cl] w (TickE (tickF es.length (es.map NxE.ls) l (atOf cnt) go layer ⟨s.seen, s.bef, []⟩) gs gb w) := by
  have hmf : ∀ (fn : Fn) (first cap : Array Value) (w : World), (Instr.makeFunc fn first cap).run Try.prog w = .ok (.func fn first cap) w := fun _ _ _ _ => rfl
  have HC := Lib.hid hC
  have HV := Lib.hid hv
  have HX := Lib.hid hX
  have HK := Lib.hid hK
  have HL := Lib.hid hl
  have HAP := Lib.hid hap
  have HF := Lib.hid hf
  have HE := Lib.hid he
  have HCN := Lib.hid hcn
  have HBD := Lib.hid hbd
  have lx0 := hX.lt
  have lk0 := hK.lt
  have ls0 := hsm.lt
  have lb0 := hbm.lt
  have hap' := hap
  have HCL : Hid (∀ b, crewUses on es gm b → b < w.heap.size ∧ b ≠ gs ∧ b ≠ gb) := Lib.hid fun b hb => ⟨hC.lt b hb, hap b (.inl hb)⟩
  clear hC hv hX hK hl hap hf he hcn hbd hap'
  go_enter Try.func32, Try.ntmps32
  go_upto_region 2 with fail
  have hbx_ := blks2 w [.pointer (some ⟨ne, 0, none⟩)] [.slice none 0 0] 76 89
  replace hsm := hsm.keep hbx_.2.2
  replace hbm := hbm.keep hbx_.2.2
  have HB := Lib.hid (hbx_.2.2)
  have hod : w.heap.size ≤ w.heap.size ∧ w.heap.size < w.heap.size + 1 := by omega
  generalize (w.alloc (.cells #[.pointer (some ⟨ne, 0, none⟩)] 76)).alloc (.cells #[.slice none 0 0] 89) = W1 at hbx_ hsm hbm HB ⊢
  obtain ⟨r2, r6, hbel_⟩ := hbx_
  generalize w.heap.size + 1 = nl at r6 hod ⊢
  obtain ⟨n2, hn_⟩ : ∃ n, n = w.heap.size := ⟨_, rfl⟩
  rw [← hn_] at r2 ⊢
  replace hod := And.intro (Nat.le_of_eq hn_.symm) (hn_ ▸ hod.2)
  clear hn_ hbel_
  have hS0 : SrAt W1 ⟨s.seen, s.bef, []⟩ nl gs gb (.slice none 0 0) := ⟨hsm, hbm, r6, World.ownsRow_nil _ _ _ _⟩
  have hT0 : Tch (fun b => b = gs ∨ b = gb) w W1 := Tch.of_below HB.out
  have HN2 : Hid (w.heap.size ≤ n2 ∧ n2 < nl) := Lib.hid (by omega)
  have hlW := r6.lt
  clear hsm hbm r6 HB hod
  go_wp2_with fail
  go_loopw [12] (fun i W => ∃ (j : Nat) (s1 : Ex) (v : Value), i = .int .i64 (j : Nat) ∧ j ≤ layer.length ∧ SrAt W s1 nl gs gb v ∧ Tch (fun b => b = gs ∨ b = gb) w W ∧ Blk W n2 [.pointer (some ⟨ne, 0, none⟩)] ∧ nl < W.heap.size ∧
      (s1.next.length + (layer.length - j) * L ^ es.length ≤ 100000000000 ∧ ∀ b, cntN s1.seen b + 4 * ((layer.length - j) * L ^ es.length) ≤ 1000000000000) ∧
      tickF es.length (es.map NxE.ls) l (atOf cnt) go layer ⟨s.seen, s.bef, []⟩ = tickF es.length (es.map NxE.ls) l (atOf cnt) go (layer.drop j) s1) (fun i _ => layer.length - (intOf i).toNat)
  case atStart => exact ⟨0, _, _, rfl, by omega, hS0, hT0, r2, hlW, ⟨by have := HBD.out; simp; omega, fun b => by have := HBD.out; have := HCN.out b; simp only [Nat.sub_zero]; omega⟩, rfl⟩
  case round =>
    clear hS0 hT0 r2 hlW
    obtain ⟨j, s1, v, rfl, hj, hS, hT, r2, hlW, hR, heq⟩ := hrel
    have HEQ := Lib.hid heq
    have HR := Lib.hid hR
    clear heq hR
    by_cases hlt : j < layer.length
    · obtain ⟨f, hfj⟩ : ∃ r, layer[j]? = some r := ⟨_, List.getElem?_eq_getElem hlt⟩
      obtain ⟨bl, offl, rfl, hLr⟩ := (HL.out.tch hT (fun b off s hb hc => by
        have := HAP.out b (.inr (.inr (.inr ⟨off, s, hb⟩)))
        rcases hc with h | h
        · exact this.1 h
        · exact this.2 h)) (map_ne hlt)
      have x0 : wr.cell? ⟨bl, offl + j * 4, none⟩ = some (.int .i64 f.a) := hLr.c j _ (map_get hfj) 0 _ rfl
      have x1 : wr.cell? ⟨bl, offl + j * 4 + 1, none⟩ = some (.int .i64 f.b) := hLr.c j _ (map_get hfj) 1 _ rfl
      have x2 : wr.cell? ⟨bl, offl + j * 4 + 2, none⟩ = some (.int .i64 f.c) := hLr.c j _ (map_get hfj) 2 _ rfl
      have x3 : wr.cell? ⟨bl, offl + j * 4 + 3, none⟩ = some (.int .i64 f.d) := hLr.c j _ (map_get hfj) 3 _ rfl
      have lL := hLr.lt
      have HFJ := Lib.hid hfj
      have HLT := Lib.hid hlt
      have HOB : Hid (∀ b, v.ownBlock = some b → nl < b ∧ b < wr.heap.size) := Lib.hid fun b hb => by have := own_lt hS.own b hb; omega
      clear hLr hfj hlt
      go_upto_region 5 with fail
      clear x0 x1 x2 x3 lL
      have hbx_ := blks1 wr [.int .i64 f.a, .int .i64 f.b, .int .i64 f.c, .int .i64 f.d] 84
      replace hS := hS.keep hbx_.2
      replace r2 := r2.keep hbx_.2
      have HB8 := Lib.hid (hbx_.2)
      have hoe : wr.heap.size ≤ wr.heap.size := by omega
      generalize wr.alloc (.cells #[.int .i64 f.a, .int .i64 f.b, .int .i64 f.c, .int .i64 f.d] 84) = V at hbx_ hS r2 HB8 ⊢
      obtain ⟨r8, hbel_⟩ := hbx_
      obtain ⟨n8, hn_⟩ : ∃ n, n = wr.heap.size := ⟨_, rfl⟩
      rw [← hn_] at r8 ⊢
      replace hoe := Nat.le_of_eq hn_.symm
      clear hn_ hbel_
      have hTV := hT.trans (Tch.of_below (Cb := fun b => b = gs ∨ b = gb) HB8.out)
      have hwr := hT.size
      have hn2' := HN2.out
      have hno : ∀ b, (b = ne ∨ b = gc) → ¬ (b = gs ∨ b = gb) := fun b hb hc => by
        have := HAP.out b (by rcases hb with h | h; exact .inr (.inl h); exact .inr (.inr (.inl h)))
        rcases hc with h | h
        · exact this.1 h
        · exact this.2 h
      have hFX : FixW V on es.length cn gm ne gb gs gc n2 n8 st go f cnt := ⟨hTV.blk HX.out (hno ne (.inl rfl)), hTV.blk HK.out (hno gc (.inr rfl)), r2, r8⟩
      have hAp : Apart ne gb gs gc n2 n8 nl := ⟨hd, by omega, by omega, fun b hb => by
        have e1 := hno ne (.inl rfl)
        have e2 := hno gc (.inr rfl)
        have g1 : ne ≠ gs := fun h => e1 (.inl h)
        have g2 : ne ≠ gb := fun h => e1 (.inr h)
        have g3 : gc ≠ gs := fun h => e2 (.inl h)
        have g4 : gc ≠ gb := fun h => e2 (.inr h)
        rcases hb with rfl | rfl | rfl | rfl
        · exact ⟨g1, g2, by omega⟩
        · exact ⟨g3, g4, by omega⟩
        · exact ⟨by omega, by omega, by omega⟩
        · exact ⟨by omega, by omega, by omega⟩⟩
      have hvlt : ∀ b, v.ownBlock = some b → nl < b ∧ b < n8 := fun b hb => by
        have := HOB.out b hb
        omega
      have hvA : vApart ne gb gs gc n2 n8 v := fun b hb => by
        have := hvlt b hb
        exact ⟨by omega, by omega, by omega, by omega, by omega, by omega⟩
      have hGok := ghT_ok (on := on) (cn := cn) (gm := gm) (st := st) (go := go) (f := f) (cnt := cnt) (nx := es.map NxE.ls) (a := vxs es.length f) (B := V.heap.size) hAp (by simp) h4 hkl (fun b hb => by
        rcases hb with rfl | rfl | rfl | rfl
        · exact hFX.x.lt
        · exact hFX.c.lt
        · exact hFX.p.lt
        · exact hFX.a.lt)
      have hCV : CrewAt V on es gm l := HC.out.tch hTV fun b hb hc => by
        have := HCL.out b hb
        rcases hc with h | h
        · exact this.2.1 h
        · exact this.2.2 h
      have hfm := List.mem_of_getElem? HFJ.out
      have hstep := tickF_drop (N := es.length) (nx := es.map NxE.ls) (l := l) (cn := atOf cnt) (goal := go) HFJ.out s1
      have hexp := fun X (hX : Below V.heap.size V X) => expand_any (ghT on es.length cn gm ne gb gs gc n2 n8 nl st go f cnt) V on es cn gm l f (vxs es.length f) L hGok hCV HV.out h4
        (fun i hi => (HF.out f hfm i _ (List.getElem?_eq_getElem hi)).1) (fun i e hi => ⟨(HF.out f hfm i e hi).2, HE.out e (List.mem_of_getElem? hi)⟩) hL es.length 0 s4n s1 ((layer.length - (j + 1)) * L ^ es.length) X (by omega) (CK.of_below hX hCV.lt)
        (hGok.keep s1 V X ⟨⟨v, hS, hvA⟩, hFX⟩ hX) (fun b hb hu => by
          have hb2 := (ownT (hS.keep hX) b).1 hb
          have hc := HCL.out b hu
          rcases hb2 with h | h | h | h
          · exact hc.2.1 h
          · exact hc.2.2 h
          · omega
          · have := hvlt b h; omega) (by
          have h9 := HR.out
          have h8 := HLT.out
          rw [show layer.length - j = (layer.length - (j + 1)) + 1 by omega, Nat.succ_mul] at h9
          exact h9) ⟨fun i hi => by omega, fun i _ h => s4n_getN i h⟩ (fun h => by omega)
      simp only [ghT_op, ghT_vi] at hexp
      have HEXP := Lib.hid hexp
      have HSTEP := Lib.hid hstep
      have HSV := Lib.hid hS
      have HTV := Lib.hid hTV
      have HHV := Lib.hid hvlt
      have p0 : V.cell? ⟨n2, 0, none⟩ = some (.pointer (some ⟨ne, 0, none⟩)) := r2.c 0 _ rfl
      have p1 : V.cell? ⟨ne, 0, none⟩ = some (.slice on es.length cn) := hFX.x.c 0 _ rfl
      have p2 : V.cell? ⟨ne, 1, none⟩ = some (.map (some gm)) := hFX.x.c 1 _ rfl
      have p3 : V.cell? ⟨n8, 0, none⟩ = some (.int .i64 f.a) := r8.c 0 _ rfl
      have p4 : V.cell? ⟨n8, 1, none⟩ = some (.int .i64 f.b) := r8.c 1 _ rfl
      have p5 : V.cell? ⟨n8, 2, none⟩ = some (.int .i64 f.c) := r8.c 2 _ rfl
      have p6 : V.cell? ⟨n8, 3, none⟩ = some (.int .i64 f.d) := r8.c 3 _ rfl
      have q0 := r2.lt
      have q1 := hFX.x.lt
      have q2 := r8.lt
      have hV0 : Below V.heap.size V V.drew := (Below.refl _ _).drew
      clear hexp hstep hS hTV hvlt hFX hAp hvA hGok hCV hfm r2 r8 hno hoe hT
      generalize hr : expF (es.map NxE.ls) (frB l (vxs es.length f)) (opF (atOf cnt)) (viF es.length go f) (vxs es.length f) es.length 0 s4n s1 = r at HEXP HSTEP
      clear hr
      have hS0 : V.cell? ⟨n2, 0, none⟩ = some (.pointer (some ⟨ne, 0, none⟩)) ∧ V.cell? ⟨ne, 0, none⟩ = some (.slice on es.length cn) ∧ V.cell? ⟨ne, 1, none⟩ = some (.map (some gm)) ∧ V.cell? ⟨n8, 0, none⟩ = some (.int .i64 f.a) ∧ V.cell? ⟨n8, 1, none⟩ = some (.int .i64 f.b) ∧ V.cell? ⟨n8, 2, none⟩ = some (.int .i64 f.c) ∧ V.cell? ⟨n8, 3, none⟩ = some (.int .i64 f.d) := ⟨p0, p1, p2, p3, p4, p5, p6⟩
      go_region_held3 (fun X => X.cell? ⟨n2, 0, none⟩ = some (.pointer (some ⟨ne, 0, none⟩)) ∧ X.cell? ⟨ne, 0, none⟩ = some (.slice on es.length cn) ∧ X.cell? ⟨ne, 1, none⟩ = some (.map (some gm)) ∧ X.cell? ⟨n8, 0, none⟩ = some (.int .i64 f.a) ∧ X.cell? ⟨n8, 1, none⟩ = some (.int .i64 f.b) ∧ X.cell? ⟨n8, 2, none⟩ = some (.int .i64 f.c) ∧ X.cell? ⟨n8, 3, none⟩ = some (.int .i64 f.d))
        (first
          | exact hS0
          | assumption)
        (first
          | (go_at_call 49
             refine (nowhere_any _).mono ?_
             rintro e Xa ⟨rfl, hba⟩
             have hVa := below_call hV0 hba
             have hSa : Xa.cell? ⟨n2, 0, none⟩ = some (.pointer (some ⟨ne, 0, none⟩)) ∧ Xa.cell? ⟨ne, 0, none⟩ = some (.slice on es.length cn) ∧ Xa.cell? ⟨ne, 1, none⟩ = some (.map (some gm)) ∧ Xa.cell? ⟨n8, 0, none⟩ = some (.int .i64 f.a) ∧ Xa.cell? ⟨n8, 1, none⟩ = some (.int .i64 f.b) ∧ Xa.cell? ⟨n8, 2, none⟩ = some (.int .i64 f.c) ∧ Xa.cell? ⟨n8, 3, none⟩ = some (.int .i64 f.d) :=
               ⟨(hVa.cell (p := ⟨n2, 0, none⟩) q0).trans p0, (hVa.cell (p := ⟨ne, 0, none⟩) q1).trans p1, (hVa.cell (p := ⟨ne, 1, none⟩) q1).trans p2, (hVa.cell (p := ⟨n8, 0, none⟩) q2).trans p3, (hVa.cell (p := ⟨n8, 1, none⟩) q2).trans p4, (hVa.cell (p := ⟨n8, 2, none⟩) q2).trans p5, (hVa.cell (p := ⟨n8, 3, none⟩) q2).trans p6⟩)
          | (go_at_call 47
             have hxx := hVa; clear hxx
             refine (HEXP.out _ hVa).mono ?_
             rintro e Xb ⟨rfl, hStp, ⟨⟨v', hS', hv'⟩, hF'⟩, hR'⟩
             have hSb : Xb.cell? ⟨n2, 0, none⟩ = some (.pointer (some ⟨ne, 0, none⟩)) ∧ Xb.cell? ⟨ne, 0, none⟩ = some (.slice on es.length cn) ∧ Xb.cell? ⟨ne, 1, none⟩ = some (.map (some gm)) ∧ Xb.cell? ⟨n8, 0, none⟩ = some (.int .i64 f.a) ∧ Xb.cell? ⟨n8, 1, none⟩ = some (.int .i64 f.b) ∧ Xb.cell? ⟨n8, 2, none⟩ = some (.int .i64 f.c) ∧ Xb.cell? ⟨n8, 3, none⟩ = some (.int .i64 f.d) :=
               ⟨hF'.p.c 0 _ rfl, hF'.x.c 0 _ rfl, hF'.x.c 1 _ rfl, hF'.a.c 0 _ rfl, hF'.a.c 1 _ rfl, hF'.a.c 2 _ rfl, hF'.a.c 3 _ rfl⟩
             have HST := Lib.hid hStp
             have HS' := Lib.hid hS'
             have HF' := Lib.hid hF'
             have HR' := Lib.hid hR'
             have HVA := Lib.hid hVa
             clear hStp hS' hF' hR' hv'))
      all_goals
        have hT2 := stp_tch (HTV.out.trans (Tch.of_below (Cb := fun b => b = gs ∨ b = gb) HVA.out)) (HSV.out.keep HVA.out) HST.out (by have := HN2.out; omega) (fun b hb => (HHV.out b hb).1)
        have hnl2 := HST.out.size
        have hnl3 := HVA.out.size
        have hn2b := HF'.out.p
        have HT2 := Lib.hid hT2
        clear hS0 hSa hSb p0 p1 p2 p3 p4 p5 p6 q0 q1 q2 hT2 hV0
        obtain ⟨rb, rs⟩ := r
        have hnext := HEQ.out.trans HSTEP.out
        cases rb with
        | true =>
          simp only [if_true] at hnext
          have HN := Lib.hid hnext
          clear hnext hn2b
          go_wp2
          refine bodyPost_ret (v := .tuple #[.slice none 0 0, .bool true]) (by simp [results, Try.results32, go_sem]) rfl ?_
          rw [HN.out]
          exact ⟨HS'.out.sm, HS'.out.bm, HT2.out, fun _ => rfl, fun h => by cases h⟩
        | false =>
          simp only [Bool.false_eq_true, if_false] at hnext
          have HN := Lib.hid hnext
          have HN2B := Lib.hid hn2b
          have HLN : Hid (nl < Xb.heap.size) := Lib.hid (by have := HB8.out.size; omega)
          clear hnext hn2b
          go_wp2_with fail
          go_roundw
          case rel => exact ⟨j + 1, rs, v', by simp, by have := HLT.out; omega, HS'.out, HT2.out, HN2B.out, HLN.out, HR'.out, HN.out⟩
          case measure => have := HLT.out; simp [intOf]; omega
    · have hjl : j = layer.length := by omega
      subst hjl
      have heq := HEQ.out
      rw [List.drop_length] at heq
      obtain ⟨on', cn', hv', hsl, hfr⟩ := next_sl hS
      subst hv'
      have x0 := hS.box.c 0 _ rfl
      have HSM := Lib.hid hS.sm
      have HBM := Lib.hid hS.bm
      have HSL := Lib.hid hsl
      have HFR := Lib.hid hfr
      have HTT := Lib.hid hT
      have HE2 := Lib.hid heq
      clear hS hsl hfr hT heq r2
      go_wp2
      refine bodyPost_ret (v := .tuple #[.slice on' s1.next.length cn', .bool false]) (by simp [results, Try.results32, go_sem]) rfl ?_
      rw [HE2.out]
      exact ⟨HSM.out, HBM.out, HTT.out, fun h => (by cases h), fun _ => ⟨on', cn', rfl, HSL.out, fun b off t hb => by have := HFR.out b off t hb; have := HN2.out; omega⟩⟩
end Go.Proofs.Jn
end

section
/-
  Walks: plan.
-/
namespace Go.Proofs.Jn
open Go.RowKit Go.Shelf

theorem zero84 (X : World) : (zeroValue 84).run Try.prog X = .ok s40.v X := by kernel_rfl
theorem find_bvals (l : List (S4 × S4)) (a : S4) : ∀ n, ((findL (bvals l) a n).map (·.2)).getD s40.v = (getB l a).v := by
  induction l with
  | nil => intro n; rfl
  | cons x r ih =>
    obtain ⟨b, k⟩ := x
    intro n
    simp only [bvals, List.map_cons, findL, getB]
    split
    · rfl
    · exact ih _
theorem run_bef (W : World) (gb : Nat) (l : List (S4 × S4)) (t : S4) (hm : MapIs W gb S4.v (bvals l)) : (Instr.lookup 85 (.map (some gb)) t.v false).run Try.prog W = .ok (getB l t).v W := by
  have := run_lookup k84 Try.underlying85 W gb (bvals l) t (zero84 _) hm
  rw [find_bvals] at this
  exact this
/-- Rows of numbers that are made. -/
def slv (M g : Nat) : Value := .slice (some ⟨g, 0, none⟩) M M
structure PlW (W : World) (gp M : Nat) (gk : List Nat) (rest : Nat) (rows : List (List Int)) : Prop where
  p : Blk W gp (gk.map (slv M) ++ List.replicate rest (.slice none 0 0))
  len : gk.length = rows.length
  r : ∀ (i g : Nat) (l : List Int), gk[i]? = some g → rows[i]? = some l → Blk W g (pflat l)
  nd : gk.Nodup
  hi : ∀ g ∈ gk, gp < g ∧ g < W.heap.size
theorem PlW.keep {W W' : World} {gp M rest : Nat} {gk : List Nat} {rows : List (List Int)} (h : PlW W gp M gk rest rows) (hb : Below W.heap.size W W') : PlW W' gp M gk rest rows :=
  ⟨h.p.keep hb, h.len, fun i g l h1 h2 => (h.r i g l h1 h2).keep hb, h.nd, fun g hg => ⟨(h.hi g hg).1, Nat.lt_of_lt_of_le (h.hi g hg).2 hb.size⟩⟩
theorem PlW.keepS {W : World} {gp M rest : Nat} {gk : List Nat} {rows : List (List Int)} (h : PlW W gp M gk rest rows) {n : Nat} (hn : n < gp) (i : Nat) (v : Value) : PlW (W.setCell ⟨n, i, none⟩ v) gp M gk rest rows := by
  have hs : W.heap.size ≤ (W.setCell ⟨n, i, none⟩ v).heap.size := by simp [World.setCell]
  have hb : ∀ b, n < b → (W.setCell ⟨n, i, none⟩ v).heap[b]? = W.heap[b]? := fun b hb => Below.heap_setCell W ⟨n, i, none⟩ v b (by show b ≠ n; omega)
  refine ⟨h.p.keepN (hb gp hn) hs, h.len, fun i g l h1 h2 => (h.r i g l h1 h2).keepN (hb g ?_) hs, h.nd, fun g hg => ⟨(h.hi g hg).1, Nat.lt_of_lt_of_le (h.hi g hg).2 hs⟩⟩
  have := (h.hi g (List.mem_of_getElem? h1)).1
  omega
theorem pflat_set (l : List Int) (i : Nat) (x : Int) : pflat (l.set i x) = (pflat l).set i (.int .i64 x) := by
  unfold pflat; rw [List.map_set]
theorem PlW.put {W : World} {gp M rest : Nat} {gk : List Nat} {rows : List (List Int)} (h : PlW W gp M gk rest rows) {k g : Nat} {l : List Int} (hg : gk[k]? = some g) (hl : rows[k]? = some l) (i : Nat) (x : Int) : PlW (W.setCell ⟨g, i, none⟩ (.int .i64 x)) gp M gk rest (rows.set k (l.set i x)) := by
  have hgm := h.hi g (List.mem_of_getElem? hg)
  have hs : W.heap.size ≤ (W.setCell ⟨g, i, none⟩ (.int .i64 x)).heap.size := by simp [World.setCell]
  refine ⟨h.p.keepN (Below.heap_setCell W ⟨g, i, none⟩ _ gp (by show gp ≠ g; omega)) hs, by rw [List.length_set]; exact h.len, fun j g' l' h1 h2 => ?_, h.nd, fun g' hg' => ⟨(h.hi g' hg').1, Nat.lt_of_lt_of_le (h.hi g' hg').2 hs⟩⟩
  rw [List.getElem?_set] at h2
  by_cases e : k = j
  · subst e
    rw [hg] at h1
    injection h1 with h1
    subst h1
    have hk : k < rows.length := (List.getElem?_eq_some_iff.1 hl).1
    simp [hk] at h2
    subst h2
    rw [pflat_set]
    exact (h.r k g l hg hl).put i _
  · rw [if_neg e] at h2
    refine (h.r j g' l' h1 h2).keepN (Below.heap_setCell W ⟨g, i, none⟩ _ g' ?_) hs
    show g' ≠ g
    intro e2
    subst e2
    obtain ⟨a1, a2⟩ := List.getElem?_eq_some_iff.1 hg
    obtain ⟨b1, b2⟩ := List.getElem?_eq_some_iff.1 h1
    have hp := List.pairwise_iff_getElem.1 h.nd
    rcases Nat.lt_trichotomy k j with h5 | h5 | h5
    · exact hp k j a1 b1 h5 (a2.trans b2.symm)
    · exact e h5
    · exact hp j k b1 a1 h5 (b2.trans a2.symm)
theorem map_rep_set (M : Nat) (gk : List Nat) (r g : Nat) : (gk.map (slv M) ++ List.replicate (r + 1) (Value.slice none 0 0)).set gk.length (slv M g) = (gk ++ [g]).map (slv M) ++ List.replicate r (.slice none 0 0) := by
  rw [List.set_append_right _ _ (by simp)]
  simp [List.replicate_succ]
/-- One row more. -/
theorem PlW.more {W : World} {gp M r : Nat} {gk : List Nat} {rows : List (List Int)} (h : PlW W gp M gk (r + 1) rows) : PlW ((W.alloc (.cells (Array.replicate M (Value.int .i64 0)) 3)).setCell ⟨gp, gk.length, none⟩ (slv M W.heap.size)) gp M (gk ++ [W.heap.size]) r (rows ++ [List.replicate M 0]) := by
  have hal : Below W.heap.size W (W.alloc (.cells (Array.replicate M (Value.int .i64 0)) 3)) := (Below.refl _ _).alloc (Nat.le_refl _) _
  have hk := h.keep hal
  have hst : ∀ b, b ≠ gp → ((W.alloc (.cells (Array.replicate M (Value.int .i64 0)) 3)).setCell ⟨gp, gk.length, none⟩ (slv M W.heap.size)).heap[b]? = (W.alloc (.cells (Array.replicate M (Value.int .i64 0)) 3)).heap[b]? := fun b hb => Below.heap_setCell _ ⟨gp, gk.length, none⟩ _ b hb
  have hs : (W.alloc (.cells (Array.replicate M (Value.int .i64 0)) 3)).heap.size ≤ ((W.alloc (.cells (Array.replicate M (Value.int .i64 0)) 3)).setCell ⟨gp, gk.length, none⟩ (slv M W.heap.size)).heap.size := by simp [World.setCell]
  have hsz : (W.alloc (.cells (Array.replicate M (Value.int .i64 0)) 3)).heap.size = W.heap.size + 1 := by simp
  have hgp := h.p.lt
  refine ⟨?_, by simp [h.len], fun i g l h1 h2 => ?_, ?_, fun g hg => ?_⟩
  · rw [← map_rep_set]; exact hk.p.put gk.length _
  · rcases Nat.lt_or_ge i gk.length with hi | hi
    · rw [List.getElem?_append_left hi] at h1
      rw [List.getElem?_append_left (by rw [← h.len]; exact hi)] at h2
      exact (hk.r i g l h1 h2).keepN (hst g (by have := (h.hi g (List.mem_of_getElem? h1)).1; omega)) hs
    · have hi2 : i = gk.length := by
        have := (List.getElem?_eq_some_iff.1 h1).1
        simp at this; omega
      subst hi2
      rw [List.getElem?_append_right (Nat.le_refl _)] at h1
      rw [List.getElem?_append_right (by rw [h.len]; exact Nat.le_refl _)] at h2
      simp [h.len] at h1 h2
      subst h1 h2
      have := Blk.new W (List.replicate M (Value.int .i64 0)) 3
      have e : pflat (List.replicate M 0) = List.replicate M (Value.int .i64 0) := by simp [pflat]
      rw [e]
      exact (by simpa using this : Blk _ _ _).keepN (hst _ (by omega)) hs
  · rw [List.nodup_append]
    refine ⟨h.nd, by simp, fun a ha b hb => ?_⟩
    simp at hb; subst hb
    have := (h.hi a ha).2
    omega
  · rcases List.mem_append.1 hg with hg | hg
    · have := h.hi g hg; exact ⟨this.1, by omega⟩
    · simp at hg; subst hg; exact ⟨by omega, by omega⟩
/-- What plan lays down. -/
def rowJ (b : List (S4 × S4)) (go : S4) (n j : Nat) (fk : Bool) (k : Nat) : List Int := (List.range (n + 1)).map fun i => if n < i + j ∨ (i + j = n ∧ fk = true) then (bk b go (n - i)).get k else 0
def rowsJ (b : List (S4 × S4)) (go : S4) (N n j k : Nat) : List (List Int) := (List.range N).map fun q => rowJ b go n j (decide (q < k)) q
theorem rowJ_len (b : List (S4 × S4)) (go : S4) (n j : Nat) (fk : Bool) (k : Nat) : (rowJ b go n j fk k).length = n + 1 := by simp [rowJ]
theorem rowsJ_len (b : List (S4 × S4)) (go : S4) (N n j k : Nat) : (rowsJ b go N n j k).length = N := by simp [rowsJ]
theorem rowsJ_zero (b : List (S4 × S4)) (go : S4) (N n : Nat) : rowsJ b go N n 0 0 = List.replicate N (List.replicate (n + 1) 0) := by
  apply List.ext_getElem
  · simp [rowsJ]
  · intro q h1 h2
    simp only [rowsJ, List.getElem_map, List.getElem_replicate]
    apply List.ext_getElem
    · simp [rowJ]
    · intro i h3 h4
      simp [rowJ] at h3 ⊢
      intro h5; omega
theorem rowJ_next (b : List (S4 × S4)) (go : S4) (n j k : Nat) : rowJ b go n j true k = rowJ b go n (j + 1) false k := by
  unfold rowJ
  apply List.map_congr_left
  intro i hi
  have : (n < i + j ∨ (i + j = n ∧ true = true)) ↔ (n < i + (j + 1) ∨ (i + (j + 1) = n ∧ false = true)) := by simp; omega
  exact ite_congr (propext this) (fun _ => rfl) (fun _ => rfl)
theorem rowsJ_all (b : List (S4 × S4)) (go : S4) (N n j : Nat) : rowsJ b go N n j N = rowsJ b go N n (j + 1) 0 := by
  unfold rowsJ
  apply List.map_congr_left
  intro q hq
  have hq := List.mem_range.1 hq
  rw [decide_eq_true hq, rowJ_next, decide_eq_false (by omega)]
theorem rowJ_put (b : List (S4 × S4)) (go : S4) (n j k : Nat) (hj : j ≤ n) : (rowJ b go n j false k).set (n - j) ((bk b go j).get k) = rowJ b go n j true k := by
  apply List.ext_getElem
  · simp [rowJ]
  · intro i h1 h2
    have hi : i < n + 1 := by simpa [rowJ] using h2
    simp only [rowJ, List.getElem_set, List.getElem_map, List.getElem_range]
    by_cases e : n - j = i
    · rw [if_pos e, if_pos (by simp; omega)]
      rw [show n - i = j by omega]
    · rw [if_neg e]
      have : (n < i + j ∨ (i + j = n ∧ false = true)) ↔ (n < i + j ∨ (i + j = n ∧ True)) := by simp; omega
      exact ite_congr (propext this) (fun _ => rfl) (fun _ => rfl)
theorem rowsJ_get (b : List (S4 × S4)) (go : S4) (N n j k : Nat) (hk : k < N) : (rowsJ b go N n j k)[k]? = some (rowJ b go n j false k) := by
  simp [rowsJ, hk]
theorem rowsJ_step (b : List (S4 × S4)) (go : S4) (N n j k : Nat) (hk : k < N) (hj : j ≤ n) : (rowsJ b go N n j k).set k ((rowJ b go n j false k).set (n - j) ((bk b go j).get k)) = rowsJ b go N n j (k + 1) := by
  rw [rowJ_put b go n j k hj]
  apply List.ext_getElem
  · simp [rowsJ]
  · intro q h1 h2
    simp only [rowsJ, List.getElem_set, List.getElem_map, List.getElem_range]
    by_cases e : k = q
    · subst e; rw [if_pos rfl, decide_eq_true (by omega)]
    · rw [if_neg e]
      have : decide (q < k) = decide (q < k + 1) := decide_eq_decide.2 (by omega)
      rw [this]
end Go.Proofs.Jn
end

