/-
  Texts put together: Fc Fd Fe Ff Fg.
-/
import Derived.Test.YteeeogdfnpdpcaaGreatZNeighborFinds24
import Derived.Shelf.Slices.In.SortNone
set_option linter.unusedVariables false
section
/-
  Walks: the closures of Within.
-/
namespace Go.Proofs.Ng
open Go.RowKit

/-- Those visited that are near enough. -/
def nearL (dP : Nat → Int) (most : Int) (l : List Nat) : List Nat := l.filter fun p => decide (dP p ≤ most)
theorem nearL_yes {dP : Nat → Int} {most : Int} {l : List Nat} {p : Nat} (h : dP p ≤ most) : nearL dP most (l ++ [p]) = nearL dP most l ++ [p] := by
  unfold nearL; rw [List.filter_append]; simp [h]
theorem nearL_no {dP : Nat → Int} {most : Int} {l : List Nat} {p : Nat} (h : ¬ dP p ≤ most) : nearL dP most (l ++ [p]) = nearL dP most l := by
  unfold nearL; rw [List.filter_append]; simp [h]
theorem nearL_len (dP : Nat → Int) (most : Int) (l : List Nat) : (nearL dP most l).length ≤ l.length := List.length_filter_le _ _
/-- The world of Within: the list holds those visited that are near enough. -/
structure XW (base bL bM n : Nat) (most : Int) (dP : Nat → Int) (l : List Nat) (v : Value) (W : World) : Prop where
  box : Blk W bL [v]
  cm : Blk W bM [.int .i64 most]
  own : W.ownsRow base 3 1 v (nearL dP most l).length (nvals (nearL dP most l)).flatten
  lL : bL < base
  lM : bM < base ∧ bM ≠ bL
  nd : l.Nodup
  el : ∀ p ∈ l, p < n
  hb : base ≤ W.heap.size
variable {base bL bM n : Nat} {most : Int} {dP : Nat → Int} {l : List Nat} {v : Value} {W : World}
theorem XW.keep {W' : World} (h : XW base bL bM n most dP l v W) (hb : Below W.heap.size W W') : XW base bL bM n most dP l v W' :=
  ⟨h.box.keep hb, h.cm.keep hb, own_keep h.own hb, h.lL, h.lM, h.nd, h.el, Nat.le_trans h.hb hb.size⟩
/-- What the closure that takes a point answers. -/
def TakX (base bL bM n : Nat) (most : Int) (dP : Nat → Int) (l : List Nat) (v : Value) (W : World) (e : Ending) (W' : World) : Prop := e = .returned (.tuple #[]) ∧ ∃ v', XW base bL bM n most dP l v' W' ∧ FrN bL bL v v' W W'
set_option maxRecDepth 100000 in
set_option maxHeartbeats 4000000 in
theorem take37 (hw : XW base bL bM n most dP l v W) (p : Nat) (hp : p < n) (hpl : p ∉ l) (hn : n ≤ 1024) :
    Calls Tryz.prog 37 #[.int .i64 p, .int .i64 (dP p), .pointer (some ⟨bM, 0, none⟩), .pointer (some ⟨bL, 0, none⟩)] W (TakX base bL bM n most dP (l ++ [p]) v W) := by
  have hnd2 : (l ++ [p]).Nodup := by
    rw [List.nodup_append]
    exact ⟨hw.nd, by simp, fun a ha b hb e => by simp at hb; subst hb; subst e; exact hpl ha⟩
  have hel2 : ∀ q ∈ l ++ [p], q < n := fun q hq => by
    rw [List.mem_append, List.mem_singleton] at hq
    rcases hq with hq | rfl
    · exact hw.el q hq
    · exact hp
  have hll : l.length ≤ 1024 := by
    have := nodup_le n l hw.nd hw.el
    omega
  have hnl : (nearL dP most l).length ≤ 1024 := Nat.le_trans (nearL_len dP most l) hll
  have y0 : W.cell? ⟨bM, 0, none⟩ = some (.int .i64 most) := hw.cm.c 0 _ rfl
  have ly := hw.cm.lt
  have HW := Lib.hid hw
  have HND := Lib.hid hnd2
  have HEL := Lib.hid hel2
  by_cases hd : dP p ≤ most
  · have hdd : decide (dP p ≤ most) = true := decide_eq_true hd
    have y1 : W.cell? ⟨bL, 0, none⟩ = some v := hw.box.c 0 _ rfl
    have ly1 := hw.box.lt
    have hb2 : Below W.heap.size W (W.alloc (.cells #[.int .i64 (p : Nat)] 3)) := (Below.refl _ _).alloc (Nat.le_refl _) _
    have HX2 := Lib.hid (hw.keep hb2)
    have HB2 := Lib.hid hb2
    obtain ⟨i0, hi, hz0, hz1, hz2⟩ := info_parts info3
    clear hw hnd2 hel2 hb2 hll
    go_enter Tryz.func37, Tryz.ntmps37
    go_wp2_with (at_builtin; refine wpList_append_own_at _ rfl _ _ 29 rfl base 3 i0 (.int .i64 0) 1 8 under24 hi hz0 hz1 hz2 rfl (by decide) _ _ _ rfl HX2.out.own ⟨W.heap.size, 0, none⟩ 1 1 [.int .i64 (p : Nat)] rfl rfl ?c1 ?c2 ?c3 ?c4 ?c5 ?_)
    case c1 => exact new_cells _ _ _
    case c2 => intro u hu; simp at hu; subst hu; rfl
    case c3 => unfold maxLen; omega
    case c4 => omega
    case c5 => exact HX2.out.hb
    intro v' w' hown' hgrow _ hat'
    have hfl : (nvals (nearL dP most l)).flatten ++ [.int .i64 (p : Nat)] = (nvals (nearL dP most l ++ [p])).flatten := by simp [nvals]
    rw [hfl] at hown'
    obtain ⟨ov, cv, rfl, -⟩ := own_rows (nvals_one (nearL dP most l ++ [p])) (by rw [nvals_len, List.length_append]; exact hown')
    generalize (nvals (nearL dP most l ++ [p])).length = nv at hown' hat' ⊢
    have B := grown_below HX2.out.own hgrow HX2.out.hb
    have hlL := HX2.out.lL
    have hlM := HX2.out.lM
    have k1 := HX2.out.box.low hlL B
    have k2 := HX2.out.cm.low hlM.1 B
    have x1 : w'.cell? ⟨bL, 0, none⟩ = some v := k1.c 0 _ rfl
    have f1 := k1.f 0
    have lx := k1.lt
    have hg := grown_set w' bL 0 (.slice ov nv cv)
    have hvb : ∀ g, (Value.slice ov nv cv).ownBlock = some g → base ≤ g ∧ g < w'.heap.size := fun g e => ⟨(own_lt hown' g e).2, (own_lt hown' g e).1⟩
    have kX : XW base bL bM n most dP (l ++ [p]) (.slice ov nv cv) (w'.setCell ⟨bL, 0, none⟩ (.slice ov nv cv)) := by
      refine ⟨k1.put 0 (.slice ov nv cv), k2.keepG hg hlM.2, ?_, hlL, hlM, HND.out, HEL.out, Nat.le_trans HX2.out.hb (Nat.le_trans B.size hg.size)⟩
      rw [nearL_yes hd]
      refine own_blk (W := w') ?_ fun g hgo hl _ => hg.block g hl (fun e => by injection e with e; have := (hvb g hgo).1; omega)
      rw [List.length_append]
      exact hown'
    have kF : FrN bL bL v (.slice ov nv cv) W (w'.setCell ⟨bL, 0, none⟩ (.slice ov nv cv)) := by
      have hb2 := HB2.out
      refine ⟨hg.os.trans (hgrow.os.trans hb2.os), hg.tape.trans (hgrow.tape.trans hb2.tape), hg.output.trans (hgrow.output.trans hb2.output), Nat.le_trans hb2.size (Nat.le_trans hgrow.size hg.size), fun b hl h1 _ h3 => ?_, fun g hgo => ?_⟩
      · have hl2 := Nat.lt_of_lt_of_le hl hb2.size
        exact (hg.block b (Nat.lt_of_lt_of_le hl2 hgrow.size) (fun e => h1 (by injection e))).trans ((hgrow.block b hl2 (fun e => h3 e.symm)).trans (hb2.block b hl))
      · rcases hat' with e | e
        · left; rw [← e]; exact hgo
        · right
          rw [e] at hgo; injection hgo with hgo; have := hb2.size; omega
    have HF : Hid (TakX base bL bM n most dP (l ++ [p]) v W (.returned (.tuple #[])) (w'.setCell ⟨bL, 0, none⟩ (.slice ov nv cv))) := Lib.hid ⟨rfl, .slice ov nv cv, kX, kF⟩
    clear hown' hgrow B k1 k2 hg hvb kX kF HX2 hi hz0 hz1 hz2
    go_wp2_with fail
    refine bodyPost_end (v := .tuple #[]) (by simp [results, Tryz.results37, go_sem]) rfl ?_
    exact HF.out
  · have hdd : decide (dP p ≤ most) = false := decide_eq_false hd
    have HF : Hid (TakX base bL bM n most dP (l ++ [p]) v W (.returned (.tuple #[])) W) := Lib.hid ⟨rfl, v, ⟨hw.box, hw.cm, by rw [nearL_no hd]; exact hw.own, hw.lL, hw.lM, HND.out, HEL.out, hw.hb⟩, FrN.below (Below.refl _ _)⟩
    clear hw hnd2 hel2 hll
    go_enter Tryz.func37, Tryz.ntmps37
    go_wp2_with fail
    refine bodyPost_end (v := .tuple #[]) (by simp [results, Tryz.results37, go_sem]) rfl ?_
    exact HF.out
/-- What the closure that bounds answers. -/
def BnX (most : Int) (W : World) (e : Ending) (W' : World) : Prop := e = .returned (.tuple #[.int .i64 most, .bool true]) ∧ W' = W
theorem bound36 (hw : XW base bL bM n most dP l v W) : Calls Tryz.prog 36 #[.pointer (some ⟨bM, 0, none⟩)] W (BnX most W) := by
  have y0 : W.cell? ⟨bM, 0, none⟩ = some (.int .i64 most) := hw.cm.c 0 _ rfl
  have ly := hw.cm.lt
  clear hw
  go_enter Tryz.func36, Tryz.ntmps36
  go_wp2_with fail
  refine bodyPost_ret (v := .tuple #[.int .i64 most, .bool true]) (by simp [results, Tryz.results36, go_sem]) rfl ?_
  exact ⟨rfl, rfl⟩
end Go.Proofs.Ng
end

section
/-
  Walks: the search's walk, with Within's closures.
-/
namespace Go.Proofs.Ng
open Go.RowKit

/-- What a walk has done: who is left out is too far. -/
structure WalkT (most : Int) (dP : Nat → Int) (t : List Nd) (i : Int) (l ext : List Nat) : Prop where
  mem : ∀ p ∈ ext, PtIn t i p
  all : ∀ p, PtIn t i p → p ∈ ext ∨ most < dP p
theorem WalkT.none {most : Int} {dP : Nat → Int} {t : List Nd} {i : Int} {l : List Nat} (h : i < 0) : WalkT most dP t i l [] := ⟨by simp, fun p ⟨_, _, h0, _⟩ => by omega⟩
theorem WalkT.node {most : Int} {dP : Nat → Int} {t : List Nd} {i p0 : Nat} {ax lo hi near far : Int} {l e1 e2 : List Nat} (hx : t[i]? = some ⟨(p0 : Nat), ax, lo, hi⟩) (hlo : inR i t.length lo) (hhi : inR i t.length hi) (hnf : (near = lo ∧ far = hi) ∨ (near = hi ∧ far = lo))
    (h1 : WalkT most dP t near (l ++ [p0]) e1) (h2 : WalkT most dP t far (l ++ [p0] ++ e1) e2 ∨ (e2 = [] ∧ ∀ p, PtIn t far p → most < dP p)) : WalkT most dP t (i : Nat) l ([p0] ++ e1 ++ e2) := by
  have hpt := ptIn_at hx hlo hhi
  have hin : ∀ p, PtIn t (i : Nat) p ↔ p = p0 ∨ PtIn t near p ∨ PtIn t far p := fun p => by
    rw [hpt p]
    rcases hnf with ⟨rfl, rfl⟩ | ⟨rfl, rfl⟩
    · exact Iff.rfl
    · constructor
      · rintro (h | h | h)
        · exact .inl h
        · exact .inr (.inr h)
        · exact .inr (.inl h)
      · rintro (h | h | h)
        · exact .inl h
        · exact .inr (.inr h)
        · exact .inr (.inl h)
  refine ⟨fun p hp => ?_, fun p hp => ?_⟩
  · rw [hin]
    simp only [List.mem_append, List.mem_singleton] at hp
    rcases hp with (hp | hp) | hp
    · exact .inl hp
    · exact .inr (.inl (h1.mem p hp))
    · rcases h2 with h2 | ⟨h2, _⟩
      · exact .inr (.inr (h2.mem p hp))
      · rw [h2] at hp; cases hp
  · rcases (hin p).1 hp with rfl | hp | hp
    · exact .inl (by simp)
    · rcases h1.all p hp with h | h
      · exact .inl (by simp [h])
      · exact .inr h
    · rcases h2 with h2 | ⟨h2, h3⟩
      · rcases h2.all p hp with h | h
        · exact .inl (by simp [h])
        · exact .inr h
      · exact .inr (h3 p hp)
theorem bound36x {base bL bM n : Nat} {most : Int} {dP : Nat → Int} {l : List Nat} {v : Value} {W : World} (hw : XW base bL bM n most dP l v W) : Calls Tryz.prog 36 #[.pointer (some ⟨bM, 0, none⟩)] W (fun e W' => ∃ (m : Int) (b : Bool) (q : Nat), e = .returned (.tuple #[.int .i64 m, .bool b]) ∧ W' = W.drewN q ∧ b = true ∧ m = most) :=
  (bound36 hw).mono fun _ _ h => ⟨most, true, 0, h.1, h.2, rfl, rfl⟩
/-- The places of the search's boxes. -/
structure Bw where
  base : Nat
  bL : Nat
  bM : Nat
  b3 : Nat
  b4 : Nat
  b5 : Nat
  b6 : Nat
  most : Int
def boundX (b : Bw) : Value := .func (.func 36) #[] #[.pointer (some ⟨b.bM, 0, none⟩)]
def takeX (b : Bw) : Value := .func (.func 37) #[] #[.pointer (some ⟨b.bM, 0, none⟩), .pointer (some ⟨b.bL, 0, none⟩)]
def walkX (b : Bw) : Value := .func (.func 66) #[] #[.pointer (some ⟨b.b3, 0, none⟩), .pointer (some ⟨b.b5, 0, none⟩), .pointer (some ⟨b.b6, 0, none⟩), .pointer (some ⟨b.b4, 0, none⟩)]
def ApX (b : Bw) (v : Value) (n : Nat) : Prop := n ≠ b.bL ∧ n ≠ b.bL ∧ v.ownBlock ≠ some n
/-- The search's world. -/
structure VX (D : Dat) (b : Bw) (w0 : World) (l : List Nat) (v : Value) (W : World) : Prop where
  nw : XW b.base b.bL b.bM D.pts.length b.most (dP D.js D.q D.pts) l v W
  bel : Below w0.heap.size w0 W
  c3 : Blk W b.b3 D.vals
  c4 : Blk W b.b4 [boundX b]
  c5 : Blk W b.b5 [takeX b]
  c6 : Blk W b.b6 [walkX b]
  a3 : ApX b v b.b3
  a4 : ApX b v b.b4
  a5 : ApX b v b.b5
  a6 : ApX b v b.b6
  h0 : w0.heap.size ≤ b.bL ∧ w0.heap.size ≤ b.bL ∧ w0.heap.size ≤ b.base
theorem ApX.stay {b : Bw} {v v' : Value} {n : Nat} {W W' : World} (h : ApX b v n) (hf : FrN b.bL b.bL v v' W W') (hn : n < W.heap.size) : ApX b v' n := ⟨h.1, h.2.1, hf.stay hn h.2.2⟩
theorem Blk.keepX {b : Bw} {v v' : Value} {n : Nat} {W W' : World} {c : List Value} (h : Blk W n c) (hf : FrN b.bL b.bL v v' W W') (ha : ApX b v n) : Blk W' n c := h.keepN hf ha.1 ha.2.1 ha.2.2
theorem VX.keep {D : Dat} {b : Bw} {w0 W W' : World} {l : List Nat} {v : Value} (h : VX D b w0 l v W) (hb : Below W.heap.size W W') : VX D b w0 l v W' :=
  ⟨h.nw.keep hb, below_call h.bel hb, h.c3.keep hb, h.c4.keep hb, h.c5.keep hb, h.c6.keep hb, h.a3, h.a4, h.a5, h.a6, h.h0⟩
theorem VX.call {D : Dat} {b : Bw} {w0 W W' : World} {l l' : List Nat} {v v' : Value} (h : VX D b w0 l v W) (hn : XW b.base b.bL b.bM D.pts.length b.most (dP D.js D.q D.pts) l' v' W') (hf : FrN b.bL b.bL v v' W W') : VX D b w0 l' v' W' := by
  refine ⟨hn, ?_, h.c3.keepX hf h.a3, h.c4.keepX hf h.a4, h.c5.keepX hf h.a5, h.c6.keepX hf h.a6, h.a3.stay hf h.c3.lt, h.a4.stay hf h.c4.lt, h.a5.stay hf h.c5.lt, h.a6.stay hf h.c6.lt, h.h0⟩
  obtain ⟨h1, h2, h3⟩ := h.h0
  have k0 := h.nw
  exact ⟨hf.os.trans h.bel.os, hf.tape.trans h.bel.tape, hf.output.trans h.bel.output, Nat.le_trans h.bel.size hf.size, fun j hj => (hf.block j (Nat.lt_of_lt_of_le hj h.bel.size) (by omega) (by omega) (fun e => by have := (own_lt k0.own j e).2; omega)).trans (h.bel.block j hj)⟩
/-- What the walk answers. -/
def WalkX (D : Dat) (b : Bw) (w0 : World) (i : Int) (l : List Nat) (v : Value) (W : World) (e : Ending) (W' : World) : Prop :=
  e = .returned (.tuple #[]) ∧ ∃ ext v', VX D b w0 (l ++ ext) v' W' ∧ FrN b.bL b.bL v v' W W' ∧ WalkT b.most (dP D.js D.q D.pts) D.t i l ext
def xArgs (b : Bw) (i : Int) : Array Value := #[.int .i64 i, .pointer (some ⟨b.b3, 0, none⟩), .pointer (some ⟨b.b5, 0, none⟩), .pointer (some ⟨b.b6, 0, none⟩), .pointer (some ⟨b.b4, 0, none⟩)]
set_option maxRecDepth 100000 in
set_option maxHeartbeats 2000000 in
theorem walkX62 {D : Dat} {b : Bw} {w0 : World} (hD : DatOk D w0) :
    ∀ (f : Nat) (i : Int) (l : List Nat) (v : Value) (W : World), -1 ≤ i → i < D.t.length → (D.t.length : Int) ≤ f + i ∨ i < 0 → VX D b w0 l v W → (∀ p, PtIn D.t i p → p ∉ l) → Calls Tryz.prog 66 (xArgs b i) W (WalkX D b w0 i l v W) := by
  intro f
  have neg : ∀ (i : Int) (l : List Nat) (v : Value) (W : World), i = -1 → VX D b w0 l v W → Calls Tryz.prog 66 (xArgs b i) W (WalkX D b w0 i l v W) := by
    intro i l v W h hV
    have hd : (i == -1) = true := by simp [h]
    have HF : Hid (WalkX D b w0 i l v W (.returned (.tuple #[])) W) := Lib.hid ⟨rfl, [], v, by rw [List.append_nil]; exact hV, FrN.below (Below.refl _ _), WalkT.none (by omega)⟩
    clear hV h
    unfold xArgs
    go_enter Tryz.func66, Tryz.ntmps66
    go_wp2_with fail
    refine bodyPost_ret (v := .tuple #[]) (by simp [results, Tryz.results66, go_sem]) rfl ?_
    exact HF.out
  induction f with
  | zero =>
    intro i l v W h1 h2 h3 hV hpl
    exact neg i l v W (by omega) hV
  | succ f ih =>
    intro i l v W h1 h2 h3 hV hpl
    by_cases h0 : i = -1
    · exact neg i l v W h0 hV
    · clear neg
      obtain ⟨i, rfl⟩ : ∃ k : Nat, i = (k : Nat) := ⟨i.toNat, by omega⟩
      have hd : ((i : Int) == -1) = false := by simp
      obtain ⟨x, hx⟩ : ∃ x, D.t[i]? = some x := ⟨_, List.getElem?_eq_getElem (by omega)⟩
      have hK := hD.kd.2.2.1
      have ho := hK.ok i x hx
      obtain ⟨xp, xa, lo, hi⟩ := x
      have hq0 : 0 ≤ xp := ho.p0
      have hq1 : xp < D.t.length := ho.p1
      have hq2 : 0 ≤ xa := ho.a0
      have hq3 : xa < dimP D.pts := ho.a1
      obtain ⟨p0, rfl⟩ : ∃ q : Nat, xp = (q : Nat) := ⟨xp.toNat, by omega⟩
      obtain ⟨a, rfl⟩ : ∃ q : Nat, xa = (q : Nat) := ⟨xa.toNat, by omega⟩
      have hlo : inR i D.t.length lo := ho.lo
      have hhi : inR i D.t.length hi := ho.hi
      have hp0 : p0 < D.pts.length := by have := hD.kd.2.1; omega
      have hax : a < dimP D.pts := by omega
      have htne : D.t ≠ [] := fun e => by rw [e] at hx; simp at hx
      have hdim := hD.dim htne
      have hin := fun p => ptIn_at hx hlo hhi p
      have hpl1024 := (vp_dim hD.kd.1).1
      have hp0l : p0 ∉ l := hpl p0 ((hin p0).2 (.inl rfl))
      obtain ⟨bt, offt, hot, hTr⟩ := (hD.T.keep hV.bel) (map_ne (k := i) (by omega))
      have x0 : W.cell? ⟨bt, offt + i * 4, none⟩ = some (.int .i64 (p0 : Nat)) := hTr.c i _ (map_get hx) 0 _ rfl
      have x1 : W.cell? ⟨bt, offt + i * 4 + 1, none⟩ = some (.int .i64 (a : Nat)) := hTr.c i _ (map_get hx) 1 _ rfl
      have x2 : W.cell? ⟨bt, offt + i * 4 + 2, none⟩ = some (.int .i64 lo) := hTr.c i _ (map_get hx) 2 _ rfl
      have x3 : W.cell? ⟨bt, offt + i * 4 + 3, none⟩ = some (.int .i64 hi) := hTr.c i _ (map_get hx) 3 _ rfl
      have lt0 := hTr.lt
      have s2 : W.cell? ⟨b.b3, 2, none⟩ = some (.slice D.ot D.t.length D.ct) := hV.c3.c 2 _ rfl
      rw [hot] at s2
      have l3 := hV.c3.lt
      have hil : (i : Int) < (D.t.length : Int) := by omega
      have HX := Lib.hid hx
      have HOT := Lib.hid hot
      have HLO := Lib.hid hlo
      have HHI := Lib.hid hhi
      have HPL := Lib.hid hpl
      have HIN := Lib.hid hin
      have HAP := Lib.hid (fun p => ptIn_apart hK hx (p := p))
      have HK := Lib.hid hK
      have HD := Lib.hid hD
      have HDIM := Lib.hid hdim
      have HV0 := Lib.hid hV
      have HIH := Lib.hid ih
      have HF3 := Lib.hid h3
      have HAN : Hid (∀ n : Nat, n = W.heap.size → ApX b v n) := Lib.hid (fun n e => by
        have k0 := hV.nw
        have o1 := k0.lL; have o3 := k0.lM; have ob := k0.hb
        exact ⟨by omega, by omega, fun e2 => by have := (own_lt k0.own n e2).1; omega⟩)
      clear hTr hx hot hlo hhi hpl hin hK hD hdim hV ih h0 h1 h2 h3 ho htne
      unfold xArgs
      go_enter Tryz.func66, Tryz.ntmps66
      go_upto_region 2 with fail
      clear x0 x1 x2 x3 lt0 s2 l3
      have hbx : Below W.heap.size W (W.alloc (.cells #[.int .i64 (p0 : Nat), .int .i64 (a : Nat), .int .i64 lo, .int .i64 hi] 57)) := (Below.refl _ _).alloc (Nat.le_refl _) _
      have r6 := Blk.new W [.int .i64 (p0 : Nat), .int .i64 (a : Nat), .int .i64 lo, .int .i64 hi] 57
      have hV := HV0.out.keep hbx
      have hA6 := HAN.out _ rfl
      have HFB := Lib.hid (FrN.below (hB := b.bL) (gD := b.bL) (v := v) hbx)
      generalize (W.alloc (.cells #[.int .i64 (p0 : Nat), .int .i64 (a : Nat), .int .i64 lo, .int .i64 hi] 57)) = W3 at r6 hV HFB ⊢
      generalize W.heap.size = n6 at r6 hA6 ⊢
      have HA6 := Lib.hid hA6
      clear hbx HAN HV0 hA6
      have s0 : W3.cell? ⟨b.b3, 0, none⟩ = some (.slice D.oj D.js.length D.cj) := hV.c3.c 0 _ rfl
      have s1 : W3.cell? ⟨b.b3, 1, none⟩ = some (.slice D.op D.pts.length D.cp) := hV.c3.c 1 _ rfl
      have s2 : W3.cell? ⟨b.b3, 2, none⟩ = some (.slice D.ot D.t.length D.ct) := hV.c3.c 2 _ rfl
      have s3 : W3.cell? ⟨b.b3, 3, none⟩ = some (.slice D.oq D.q.length D.cq) := hV.c3.c 3 _ rfl
      have l3 := hV.c3.lt
      have s5 : W3.cell? ⟨b.b5, 0, none⟩ = some (takeX b) := hV.c5.c 0 _ rfl
      unfold takeX at s5
      have l5 := hV.c5.lt
      have y0 : W3.cell? ⟨n6, 0, none⟩ = some (.int .i64 (p0 : Nat)) := r6.c 0 _ rfl
      have l6 := r6.lt
      obtain ⟨dd, hdd⟩ : ∃ d, d = dP D.js D.q D.pts p0 := ⟨_, rfl⟩
      have HDS := Lib.hid (fun (X : World) (hX : Below W3.heap.size W3 X) => show Calls Tryz.prog 67 #[.agg #[.slice D.oj D.js.length D.cj, .slice D.op D.pts.length D.cp, .slice D.ot D.t.length D.ct, .slice D.oq D.q.length D.cq], .int .i64 (p0 : Nat)] X (fun e W' => e = .returned (.int .i64 dd) ∧ Below X.heap.size X W') from by
        rw [hdd]
        exact distance63 D.oj D.op D.ot D.oq D.cj D.cp D.t.length D.ct D.cq D.js D.pts D.q p0 X (HD.out.J.keep (below_call hV.bel hX)) (HD.out.P.keep (below_call hV.bel hX)) (HD.out.Q.keep (below_call hV.bel hX)) HD.out.tame HD.out.kd.1 HD.out.lq HDIM.out hp0)
      have HTK := Lib.hid (fun (X : World) (hX : Below W3.heap.size W3 X) => show Calls Tryz.prog 37 #[.int .i64 (p0 : Nat), .int .i64 dd, .pointer (some ⟨b.bM, 0, none⟩), .pointer (some ⟨b.bL, 0, none⟩)] X (TakX b.base b.bL b.bM D.pts.length b.most (dP D.js D.q D.pts) (l ++ [p0]) v X) from by
        rw [hdd]
        exact take37 (hV.keep hX).nw p0 hp0 hp0l hpl1024)
      clear hdd
      have hmk : ∀ Y, Below W3.heap.size W3 Y → Y.cell? ⟨b.b3, 0, none⟩ = some (.slice D.oj D.js.length D.cj) ∧ Y.cell? ⟨b.b3, 1, none⟩ = some (.slice D.op D.pts.length D.cp) ∧ Y.cell? ⟨b.b3, 2, none⟩ = some (.slice D.ot D.t.length D.ct) ∧ Y.cell? ⟨b.b3, 3, none⟩ = some (.slice D.oq D.q.length D.cq) ∧ Y.cell? ⟨b.b5, 0, none⟩ = some (.func (.func 37) #[] #[.pointer (some ⟨b.bM, 0, none⟩), .pointer (some ⟨b.bL, 0, none⟩)]) ∧ Y.cell? ⟨n6, 0, none⟩ = some (.int .i64 (p0 : Nat)) :=
        fun Y hY => ⟨(hY.cell (p := ⟨b.b3, 0, none⟩) l3).trans s0, (hY.cell (p := ⟨b.b3, 1, none⟩) l3).trans s1, (hY.cell (p := ⟨b.b3, 2, none⟩) l3).trans s2, (hY.cell (p := ⟨b.b3, 3, none⟩) l3).trans s3, (hY.cell (p := ⟨b.b5, 0, none⟩) l5).trans s5, (hY.cell (p := ⟨n6, 0, none⟩) l6).trans y0⟩
      have hmf : ∀ Y v', FrN b.bL b.bL v v' W3 Y → Y.cell? ⟨b.b3, 0, none⟩ = some (.slice D.oj D.js.length D.cj) ∧ Y.cell? ⟨b.b3, 1, none⟩ = some (.slice D.op D.pts.length D.cp) ∧ Y.cell? ⟨b.b3, 2, none⟩ = some (.slice D.ot D.t.length D.ct) ∧ Y.cell? ⟨b.b3, 3, none⟩ = some (.slice D.oq D.q.length D.cq) ∧ Y.cell? ⟨b.b5, 0, none⟩ = some (.func (.func 37) #[] #[.pointer (some ⟨b.bM, 0, none⟩), .pointer (some ⟨b.bL, 0, none⟩)]) ∧ Y.cell? ⟨n6, 0, none⟩ = some (.int .i64 (p0 : Nat)) :=
        fun Y v' hY => ⟨(hV.c3.keepX hY hV.a3).c 0 _ rfl, (hV.c3.keepX hY hV.a3).c 1 _ rfl, (hV.c3.keepX hY hV.a3).c 2 _ rfl, (hV.c3.keepX hY hV.a3).c 3 _ rfl, (hV.c5.keepX hY hV.a5).c 0 _ rfl, (r6.keepX hY HA6.out).c 0 _ rfl⟩
      have hS := hmk W3 (Below.refl _ _)
      have HMK := Lib.hid hmk
      have HMF := Lib.hid hmf
      have HV := Lib.hid hV
      have HR6 := Lib.hid r6
      clear hmk hmf hV r6
      go_cut [] (fun X => ∃ v', XW b.base b.bL b.bM D.pts.length b.most (dP D.js D.q D.pts) (l ++ [p0]) v' X ∧ FrN b.bL b.bL v v' W3 X)
      case first =>
        clear s0 s1 s2 s3 s5 y0
        go_region_held3 (fun Y => Y.cell? ⟨b.b3, 0, none⟩ = some (.slice D.oj D.js.length D.cj) ∧ Y.cell? ⟨b.b3, 1, none⟩ = some (.slice D.op D.pts.length D.cp) ∧ Y.cell? ⟨b.b3, 2, none⟩ = some (.slice D.ot D.t.length D.ct) ∧ Y.cell? ⟨b.b3, 3, none⟩ = some (.slice D.oq D.q.length D.cq) ∧ Y.cell? ⟨b.b5, 0, none⟩ = some (.func (.func 37) #[] #[.pointer (some ⟨b.bM, 0, none⟩), .pointer (some ⟨b.bL, 0, none⟩)]) ∧ Y.cell? ⟨n6, 0, none⟩ = some (.int .i64 (p0 : Nat)))
          (first
            | assumption
            | exact HMK.out _ (Below.refl _ _).drew
            | exact HMK.out _ (by assumption)
            | exact HMF.out _ _ (by assumption))
          (first
            | (go_at_call 67
               with_reducible refine (HDS.out _ (Below.refl _ _).drew).mono ?_
               rintro e Xa ⟨rfl, hb⟩
               replace hb := (Below.refl W3.heap.size W3).drew.trans hb)
            | (go_at_call 37
               with_reducible refine (HTK.out _ hb).mono ?_
               rintro e Xb ⟨rfl, v1, hnw, hfr⟩
               replace hfr := (FrN.below hb).trans hfr))
        all_goals
          go_wp2_with fail
          go_meet
          exact ⟨v1, hnw, hfr⟩
      case rest =>
        clear s0 s1 s2 s3 s5 y0 l3 l5 hS HMK HMF HDS HTK
        obtain ⟨v1, hnw, hfr⟩ := hcut
        obtain ⟨W4, rfl⟩ : ∃ X, X = wc := ⟨_, rfl⟩
        have hV4 := HV.out.call hnw hfr
        have A64 := HA6.out.stay hfr l6
        have r64 := HR6.out.keepX hfr HA6.out
        have FR4 := Lib.hid (HFB.out.trans hfr)
        clear hnw hfr HV HR6 HA6 HFB l6
        obtain ⟨px, hpx⟩ : ∃ x, D.pts[p0]? = some x := ⟨_, List.getElem?_eq_getElem hp0⟩
        obtain ⟨-, hdm⟩ := vp_dim HD.out.kd.1
        have hpxl := (hdm px (List.mem_of_getElem? hpx)).1
        obtain ⟨xa, hxa⟩ : ∃ y, px[a]? = some y := ⟨_, List.getElem?_eq_getElem (by omega)⟩
        obtain ⟨qa, hqa⟩ : ∃ y, D.q[a]? = some y := ⟨_, List.getElem?_eq_getElem (by have := HD.out.lq; have := HDIM.out; omega)⟩
        obtain ⟨jv, hjv⟩ : ∃ y, D.js[a]? = some y := ⟨_, List.getElem?_eq_getElem (by have := HDIM.out; omega)⟩
        have HJV := Lib.hid hjv
        have hsf := side_far HD.out HX.out hax
        rw [show at0 D.q a = qa from at0_some hqa, key_at hpx hxa, wt_some hjv] at hsf
        have hwj := HD.out.tame.w a jv hjv
        have hqb := HD.out.tame.q a qa hqa
        have hxb : -2147483648 ≤ xa ∧ xa ≤ 2147483648 := by
          have hv := HD.out.kd.1
          unfold vpB at hv
          rw [Bool.and_eq_true, decide_eq_true_eq, List.all_eq_true] at hv
          have h1 := hv.2 px (List.mem_of_getElem? hpx)
          unfold okC at h1
          rw [Bool.and_eq_true] at h1
          unfold smallB at h1
          have h2 := List.all_eq_true.1 h1.2 xa (List.mem_of_getElem? hxa)
          unfold okX at h2
          simpa using h2
        obtain ⟨bp, offp, ox, cx, hop, z0, lp, hsx⟩ := (HD.out.P.keep hV4.bel).get hpx
        obtain ⟨bx, offx, rfl, z1, lx⟩ := pv_get hsx hxa
        obtain ⟨bq, offq, hoq, z2, lq⟩ := pv_get (HD.out.Q.keep hV4.bel) hqa
        have s1 : W4.cell? ⟨b.b3, 1, none⟩ = some (.slice D.op D.pts.length D.cp) := hV4.c3.c 1 _ rfl
        have s3 : W4.cell? ⟨b.b3, 3, none⟩ = some (.slice D.oq D.q.length D.cq) := hV4.c3.c 3 _ rfl
        rw [hop] at s1
        rw [hoq] at s3
        have l3 := hV4.c3.lt
        have y0 : W4.cell? ⟨n6, 0, none⟩ = some (.int .i64 (p0 : Nat)) := r64.c 0 _ rfl
        have y1 : W4.cell? ⟨n6, 1, none⟩ = some (.int .i64 (a : Nat)) := r64.c 1 _ rfl
        have ly := r64.lt
        have haq : (a : Int) < (D.q.length : Int) := by have := (List.getElem?_eq_some_iff.1 hqa).1; omega
        have haj : (a : Int) < (D.js.length : Int) := by have := (List.getElem?_eq_some_iff.1 hjv).1; omega
        have hapx : (a : Int) < (px.length : Int) := by omega
        have hgb := gap_bd hqb hxb
        have hwr : IntKind.i64.wrap (qa - xa) = qa - xa := IntWalk.i64_in _ (by omega)
        have HSF := Lib.hid hsf
        have HV4 := Lib.hid hV4
        have HR64 := Lib.hid r64
        have HA64 := Lib.hid A64
        clear hpx hdm hxa hqa hjv hsf hsx hV4 r64 A64
        go_wp2_with fail
        go_quiet (fail)
        clear z0 lp z1 lx z2 lq s1 s3 l3 y0 y1 ly
        have hb5 := below_drew W4 nq
        have HV5 := Lib.hid (HV4.out.keep hb5)
        have HR65 := Lib.hid (HR64.out.keep hb5)
        have FR5 := Lib.hid (FR4.out.trans (FrN.below hb5))
        clear hb5 HV4 HR64 FR4
        generalize W4.drewN nq = W5 at HV5 HR65 FR5 ⊢
        have y2 : W5.cell? ⟨n6, 2, none⟩ = some (.int .i64 lo) := HR65.out.c 2 _ rfl
        have y3 : W5.cell? ⟨n6, 3, none⟩ = some (.int .i64 hi) := HR65.out.c 3 _ rfl
        have ly := HR65.out.lt
        go_wp2_with fail
        go_quiet (fail)
        clear y2 y3 ly
        have hb6 := below_drew W5 nq
        have HV6 := Lib.hid (HV5.out.keep hb6)
        have HR66 := Lib.hid (HR65.out.keep hb6)
        have FR6 := Lib.hid (FR5.out.trans (FrN.below hb6))
        have HA66 := HA64
        clear hb6 HV5 HR65 FR5 HA64
        generalize W5.drewN nq = W6 at HV6 HR66 FR6 ⊢
        have hwn : IntKind.i64.wrap (-(qa - xa)) = -(qa - xa) := IntWalk.i64_in _ (by unfold gapA at hgb; omega)
        obtain ⟨least, hlst⟩ : ∃ x, x = jv.weight * gapA (qa - xa) := ⟨_, rfl⟩
        have hlb := term_bd hwj.1 hwj.2 hgb.1 hgb.2
        rw [← hlst] at hlb
        have hwl : IntKind.i64.wrap (jv.weight * max (qa - xa) (-(qa - xa))) = least := by
          rw [hlst]
          exact IntWalk.i64_in _ (by have h := hlb; rw [hlst] at h; unfold gapA at h; omega)
        have hsf := HSF.out
        rw [← hlst] at hsf
        clear HSF hlst
        by_cases hg : 0 < qa - xa
        · have hgd : decide (0 < qa - xa) = true := decide_eq_true hg
          have HFS := Lib.hid (hsf.1 hg)
          clear hsf
          have HN0 := Lib.hid (HIH.out hi (l ++ [p0]) v1 W6 (by have := HHI.out; unfold inR at this; omega) (by have := HHI.out; unfold inR at this; omega) (by have := HHI.out; have := HF3.out; unfold inR at *; omega) HV6.out (fun p hp hm => by
            rw [List.mem_append, List.mem_singleton] at hm
            rcases hm with hm | hm
            · exact HPL.out p ((HIN.out p).2 (.inr (.inr hp))) hm
            · exact (HAP.out p).2.2 hp hm))
          unfold xArgs at HN0
          have s6 : W6.cell? ⟨b.b6, 0, none⟩ = some (walkX b) := HV6.out.c6.c 0 _ rfl
          unfold walkX at s6
          have l6b := HV6.out.c6.lt
          go_wp2_with fail
          refine HN0.out.mono ?_
          rintro e W7 ⟨rfl, ext1, v2, hV7, fr7, wr1⟩
          have A67 := HA66.out.stay fr7 HR66.out.lt
          have r67 := HR66.out.keepX fr7 HA66.out
          have FR7 := Lib.hid (FR6.out.trans fr7)
          have HV7 := Lib.hid hV7
          have HW1 := Lib.hid wr1
          have HA67 := Lib.hid A67
          have HR67 := Lib.hid r67
          clear s6 l6b fr7 hV7 wr1 A67 r67 HN0 HV6 HR66 HA66 FR6
          have s0 : W7.cell? ⟨b.b3, 0, none⟩ = some (.slice D.oj D.js.length D.cj) := HV7.out.c3.c 0 _ rfl
          obtain ⟨bj, offj, hoj, hJr⟩ := (HD.out.J.keep HV7.out.bel) (jvals_ne (k := a) (by have := HDIM.out; omega))
          rw [hoj] at s0
          have z8 : W7.cell? ⟨bj, offj + a * 12 + 8, none⟩ = some (.int .i64 jv.weight) := hJr.c a _ (rows_get HJV.out) 8 _ rfl
          have lj := hJr.lt
          have l3 := HV7.out.c3.lt
          have y1 : W7.cell? ⟨n6, 1, none⟩ = some (.int .i64 (a : Nat)) := HR67.out.c 1 _ rfl
          have ly := HR67.out.lt
          have s4 : W7.cell? ⟨b.b4, 0, none⟩ = some (boundX b) := HV7.out.c4.c 0 _ rfl
          unfold boundX at s4
          have l4 := HV7.out.c4.lt
          have HBN := Lib.hid (bound36x HV7.out.nw)
          clear hJr
          go_wp2_with fail
          refine HBN.out.mono ?_
          rintro e W8 ⟨most, bd, nq8, rfl, rfl, hcut⟩
          have hb8 := below_drew W7 nq8
          have HV8 := Lib.hid (HV7.out.keep hb8)
          have FR8 := Lib.hid (FR7.out.trans (FrN.below hb8))
          have HCU := Lib.hid hcut
          clear s0 z8 lj l3 y1 ly s4 l4 HBN hcut hb8 HV7 FR7 HR67 HA67
          generalize W7.drewN nq8 = W8 at HV8 FR8 ⊢
          have s6 : W8.cell? ⟨b.b6, 0, none⟩ = some (walkX b) := HV8.out.c6.c 0 _ rfl
          unfold walkX at s6
          have l6b := HV8.out.c6.lt
          have HN2 := Lib.hid (HIH.out lo (l ++ [p0] ++ ext1) v2 W8 (by have := HLO.out; unfold inR at this; omega) (by have := HLO.out; unfold inR at this; omega) (by have := HLO.out; have := HF3.out; unfold inR at *; omega) HV8.out (fun p hp hm => by
            rw [List.mem_append, List.mem_append, List.mem_singleton] at hm
            rcases hm with (hm | hm) | hm
            · exact HPL.out p ((HIN.out p).2 (.inr (.inl hp))) hm
            · exact (HAP.out p).2.1 hp hm
            · exact (fun x y => (HAP.out p).1 y x) (HW1.out.mem p hm) hp))
          unfold xArgs at HN2
          by_cases hgo : bd = false ∨ least ≤ most
          · have hcnd : (bd = false) ∨ (bd = true ∧ decide (least ≤ most) = true) := by
              rcases hgo with h | h
              · exact .inl h
              · cases bd
                · exact .inl rfl
                · exact .inr ⟨rfl, decide_eq_true h⟩
            clear hgo
            rcases hcnd with hbf | ⟨hbt, hle⟩
            · subst hbf
              go_wp2_with fail
              refine HN2.out.mono ?_
              rintro e W9 ⟨rfl, ext2, v3, hV9, fr9, wr2⟩
              have HF : Hid (WalkX D b w0 (i : Nat) l v W (.returned (.tuple #[])) W9) := Lib.hid ⟨rfl, [p0] ++ ext1 ++ ext2, v3, by rw [show l ++ ([p0] ++ ext1 ++ ext2) = l ++ [p0] ++ ext1 ++ ext2 by simp]; exact hV9, FR8.out.trans fr9, WalkT.node HX.out HLO.out HHI.out (.inr ⟨rfl, rfl⟩) HW1.out (.inl wr2)⟩
              clear hV9 fr9 wr2
              go_wp2_with fail
              refine bodyPost_end (v := .tuple #[]) (by simp [results, Tryz.results66, go_sem]) rfl ?_
              exact HF.out
            · subst hbt
              go_wp2_with fail
              refine HN2.out.mono ?_
              rintro e W9 ⟨rfl, ext2, v3, hV9, fr9, wr2⟩
              have HF : Hid (WalkX D b w0 (i : Nat) l v W (.returned (.tuple #[])) W9) := Lib.hid ⟨rfl, [p0] ++ ext1 ++ ext2, v3, by rw [show l ++ ([p0] ++ ext1 ++ ext2) = l ++ [p0] ++ ext1 ++ ext2 by simp]; exact hV9, FR8.out.trans fr9, WalkT.node HX.out HLO.out HHI.out (.inr ⟨rfl, rfl⟩) HW1.out (.inl wr2)⟩
              clear hV9 fr9 wr2
              go_wp2_with fail
              refine bodyPost_end (v := .tuple #[]) (by simp [results, Tryz.results66, go_sem]) rfl ?_
              exact HF.out
          · have hbt : bd = true := by cases bd <;> simp_all
            have hle : decide (least ≤ most) = false := decide_eq_false (fun h => hgo (.inr h))
            have hml : most < least := by
              have : ¬ least ≤ most := fun h => hgo (.inr h)
              omega
            have HSK : Hid (∀ p, PtIn D.t lo p → b.most < dP D.js D.q D.pts p) := Lib.hid fun p hp => (by have h0 := HCU.out.2; rw [← h0]; exact Int.lt_of_lt_of_le hml (HFS.out p hp))
            have HF : Hid (WalkX D b w0 (i : Nat) l v W (.returned (.tuple #[])) W8) := Lib.hid ⟨rfl, [p0] ++ ext1 ++ [], v2, by rw [show l ++ ([p0] ++ ext1 ++ []) = l ++ [p0] ++ ext1 by simp]; exact HV8.out, FR8.out, WalkT.node HX.out HLO.out HHI.out (.inr ⟨rfl, rfl⟩) HW1.out (.inr ⟨rfl, HSK.out⟩)⟩
            subst hbt
            clear hgo hml
            go_wp2_with fail
            refine bodyPost_end (v := .tuple #[]) (by simp [results, Tryz.results66, go_sem]) rfl ?_
            exact HF.out
        · have hgd : decide (0 < qa - xa) = false := decide_eq_false hg
          have HFS := Lib.hid (hsf.2 (by omega))
          clear hsf
          have HN0 := Lib.hid (HIH.out lo (l ++ [p0]) v1 W6 (by have := HLO.out; unfold inR at this; omega) (by have := HLO.out; unfold inR at this; omega) (by have := HLO.out; have := HF3.out; unfold inR at *; omega) HV6.out (fun p hp hm => by
            rw [List.mem_append, List.mem_singleton] at hm
            rcases hm with hm | hm
            · exact HPL.out p ((HIN.out p).2 (.inr (.inl hp))) hm
            · exact (HAP.out p).2.1 hp hm))
          unfold xArgs at HN0
          have s6 : W6.cell? ⟨b.b6, 0, none⟩ = some (walkX b) := HV6.out.c6.c 0 _ rfl
          unfold walkX at s6
          have l6b := HV6.out.c6.lt
          go_wp2_with fail
          refine HN0.out.mono ?_
          rintro e W7 ⟨rfl, ext1, v2, hV7, fr7, wr1⟩
          have A67 := HA66.out.stay fr7 HR66.out.lt
          have r67 := HR66.out.keepX fr7 HA66.out
          have FR7 := Lib.hid (FR6.out.trans fr7)
          have HV7 := Lib.hid hV7
          have HW1 := Lib.hid wr1
          have HA67 := Lib.hid A67
          have HR67 := Lib.hid r67
          clear s6 l6b fr7 hV7 wr1 A67 r67 HN0 HV6 HR66 HA66 FR6
          have s0 : W7.cell? ⟨b.b3, 0, none⟩ = some (.slice D.oj D.js.length D.cj) := HV7.out.c3.c 0 _ rfl
          obtain ⟨bj, offj, hoj, hJr⟩ := (HD.out.J.keep HV7.out.bel) (jvals_ne (k := a) (by have := HDIM.out; omega))
          rw [hoj] at s0
          have z8 : W7.cell? ⟨bj, offj + a * 12 + 8, none⟩ = some (.int .i64 jv.weight) := hJr.c a _ (rows_get HJV.out) 8 _ rfl
          have lj := hJr.lt
          have l3 := HV7.out.c3.lt
          have y1 : W7.cell? ⟨n6, 1, none⟩ = some (.int .i64 (a : Nat)) := HR67.out.c 1 _ rfl
          have ly := HR67.out.lt
          have s4 : W7.cell? ⟨b.b4, 0, none⟩ = some (boundX b) := HV7.out.c4.c 0 _ rfl
          unfold boundX at s4
          have l4 := HV7.out.c4.lt
          have HBN := Lib.hid (bound36x HV7.out.nw)
          clear hJr
          go_wp2_with fail
          refine HBN.out.mono ?_
          rintro e W8 ⟨most, bd, nq8, rfl, rfl, hcut⟩
          have hb8 := below_drew W7 nq8
          have HV8 := Lib.hid (HV7.out.keep hb8)
          have FR8 := Lib.hid (FR7.out.trans (FrN.below hb8))
          have HCU := Lib.hid hcut
          clear s0 z8 lj l3 y1 ly s4 l4 HBN hcut hb8 HV7 FR7 HR67 HA67
          generalize W7.drewN nq8 = W8 at HV8 FR8 ⊢
          have s6 : W8.cell? ⟨b.b6, 0, none⟩ = some (walkX b) := HV8.out.c6.c 0 _ rfl
          unfold walkX at s6
          have l6b := HV8.out.c6.lt
          have HN2 := Lib.hid (HIH.out hi (l ++ [p0] ++ ext1) v2 W8 (by have := HHI.out; unfold inR at this; omega) (by have := HHI.out; unfold inR at this; omega) (by have := HHI.out; have := HF3.out; unfold inR at *; omega) HV8.out (fun p hp hm => by
            rw [List.mem_append, List.mem_append, List.mem_singleton] at hm
            rcases hm with (hm | hm) | hm
            · exact HPL.out p ((HIN.out p).2 (.inr (.inr hp))) hm
            · exact (HAP.out p).2.2 hp hm
            · exact (fun x y => (HAP.out p).1 x y) (HW1.out.mem p hm) hp))
          unfold xArgs at HN2
          by_cases hgo : bd = false ∨ least ≤ most
          · have hcnd : (bd = false) ∨ (bd = true ∧ decide (least ≤ most) = true) := by
              rcases hgo with h | h
              · exact .inl h
              · cases bd
                · exact .inl rfl
                · exact .inr ⟨rfl, decide_eq_true h⟩
            clear hgo
            rcases hcnd with hbf | ⟨hbt, hle⟩
            · subst hbf
              go_wp2_with fail
              refine HN2.out.mono ?_
              rintro e W9 ⟨rfl, ext2, v3, hV9, fr9, wr2⟩
              have HF : Hid (WalkX D b w0 (i : Nat) l v W (.returned (.tuple #[])) W9) := Lib.hid ⟨rfl, [p0] ++ ext1 ++ ext2, v3, by rw [show l ++ ([p0] ++ ext1 ++ ext2) = l ++ [p0] ++ ext1 ++ ext2 by simp]; exact hV9, FR8.out.trans fr9, WalkT.node HX.out HLO.out HHI.out (.inl ⟨rfl, rfl⟩) HW1.out (.inl wr2)⟩
              clear hV9 fr9 wr2
              go_wp2_with fail
              refine bodyPost_end (v := .tuple #[]) (by simp [results, Tryz.results66, go_sem]) rfl ?_
              exact HF.out
            · subst hbt
              go_wp2_with fail
              refine HN2.out.mono ?_
              rintro e W9 ⟨rfl, ext2, v3, hV9, fr9, wr2⟩
              have HF : Hid (WalkX D b w0 (i : Nat) l v W (.returned (.tuple #[])) W9) := Lib.hid ⟨rfl, [p0] ++ ext1 ++ ext2, v3, by rw [show l ++ ([p0] ++ ext1 ++ ext2) = l ++ [p0] ++ ext1 ++ ext2 by simp]; exact hV9, FR8.out.trans fr9, WalkT.node HX.out HLO.out HHI.out (.inl ⟨rfl, rfl⟩) HW1.out (.inl wr2)⟩
              clear hV9 fr9 wr2
              go_wp2_with fail
              refine bodyPost_end (v := .tuple #[]) (by simp [results, Tryz.results66, go_sem]) rfl ?_
              exact HF.out
          · have hbt : bd = true := by cases bd <;> simp_all
            have hle : decide (least ≤ most) = false := decide_eq_false (fun h => hgo (.inr h))
            have hml : most < least := by
              have : ¬ least ≤ most := fun h => hgo (.inr h)
              omega
            have HSK : Hid (∀ p, PtIn D.t hi p → b.most < dP D.js D.q D.pts p) := Lib.hid fun p hp => (by have h0 := HCU.out.2; rw [← h0]; exact Int.lt_of_lt_of_le hml (HFS.out p hp))
            have HF : Hid (WalkX D b w0 (i : Nat) l v W (.returned (.tuple #[])) W8) := Lib.hid ⟨rfl, [p0] ++ ext1 ++ [], v2, by rw [show l ++ ([p0] ++ ext1 ++ []) = l ++ [p0] ++ ext1 by simp]; exact HV8.out, FR8.out, WalkT.node HX.out HLO.out HHI.out (.inl ⟨rfl, rfl⟩) HW1.out (.inr ⟨rfl, HSK.out⟩)⟩
            subst hbt
            clear hgo hml
            go_wp2_with fail
            refine bodyPost_end (v := .tuple #[]) (by simp [results, Tryz.results66, go_sem]) rfl ?_
            exact HF.out
end Go.Proofs.Ng
end

section
/-
  Walks: the search, with Within's closures.
-/
namespace Go.Proofs.Ng
open Go.RowKit

/-- What the search answers. -/
def VisX (D : Dat) (base bL bM : Nat) (most : Int) (w0 : World) (v : Value) (W : World) (e : Ending) (W' : World) : Prop :=
  e = .returned (.tuple #[]) ∧ ∃ ext v', XW base bL bM D.pts.length most (dP D.js D.q D.pts) ext v' W' ∧ FrN bL bL v v' W W' ∧ Below w0.heap.size w0 W' ∧ (D.t = [] ∧ ext = [] ∨ WalkT most (dP D.js D.q D.pts) D.t 0 [] ext)
def boundG (bM : Nat) : Value := .func (.func 36) #[] #[.pointer (some ⟨bM, 0, none⟩)]
def takeG (bM bL : Nat) : Value := .func (.func 37) #[] #[.pointer (some ⟨bM, 0, none⟩), .pointer (some ⟨bL, 0, none⟩)]
set_option maxRecDepth 100000 in
set_option maxHeartbeats 2000000 in
theorem visitX43 {D : Dat} {w0 : World} {base bL bM : Nat} {most : Int} {v : Value} {W : World} (hD : DatOk D w0)
    (hN : XW base bL bM D.pts.length most (dP D.js D.q D.pts) [] v W) (hb : Below w0.heap.size w0 W) (h0 : w0.heap.size ≤ bL ∧ w0.heap.size ≤ bL ∧ w0.heap.size ≤ base) :
    Calls Tryz.prog 35 #[D.box, boundG bM, takeG bM bL] W (VisX D base bL bM most w0 v W) := by
  have hsf : ∀ (a : Addr) (fn : Fn) (x y : Array Value) (u : World), (store a (.func fn x y)).run Tryz.prog u = stored Tryz.prog u a (.func fn x y) .plain := fun a fn x y u => run_store Tryz.prog u a (.func fn x y) .plain rfl
  have HN := Lib.hid hN
  have HB := Lib.hid hb
  have HD := Lib.hid hD
  have H0 := Lib.hid h0
  clear hN hb hD h0
  unfold Dat.box boundG takeG
  go_enter Tryz.func35, Tryz.ntmps35
  go_upto_region 3 with fail
  obtain ⟨W1, hW1⟩ : ∃ W1, W1 = ((((W.alloc (.cells #[.slice D.oj D.js.length D.cj, .slice D.op D.pts.length D.cp, .slice D.ot D.t.length D.ct, .slice D.oq D.q.length D.cq] 60)).alloc (.cells #[.func (.func 36) #[] #[.pointer (some ⟨bM, 0, none⟩)]] 62)).alloc (.cells #[.func (.func 37) #[] #[.pointer (some ⟨bM, 0, none⟩), .pointer (some ⟨bL, 0, none⟩)]] 63)).alloc (.cells #[.func (.func 66) #[] #[.pointer (some ⟨W.heap.size, 0, none⟩), .pointer (some ⟨W.heap.size + 1 + 1, 0, none⟩), .pointer (some ⟨W.heap.size + 1 + 1 + 1, 0, none⟩), .pointer (some ⟨W.heap.size + 1, 0, none⟩)]] 72)) := ⟨_, rfl⟩
  rw [← hW1]
  obtain ⟨b, hbx⟩ : ∃ b : Bw, b = ⟨base, bL, bM, W.heap.size, W.heap.size + 1, W.heap.size + 1 + 1, W.heap.size + 1 + 1 + 1, most⟩ := ⟨_, rfl⟩
  have hV : VX D b w0 [] v W1 ∧ Below W.heap.size W W1 := by
    obtain ⟨q0, q3, q4, q5, q6⟩ := four W D.vals [boundX b] [takeX b] [walkX b] 60 62 63 72 W1 (by rw [hW1, hbx]; rfl)
    have hap : ∀ n : Nat, W.heap.size ≤ n → ApX b v n := fun n hn => by
      have k0 := HN.out
      have o1 := k0.lL; have o3 := k0.lM; have ob := k0.hb
      rw [hbx]
      exact ⟨by show n ≠ bL; omega, by show n ≠ bL; omega, fun e2 => by have := (own_lt k0.own n e2).1; omega⟩
    refine ⟨?_, q0⟩
    rw [hbx] at hap q4 q5 q6 ⊢
    exact ⟨HN.out.keep q0, below_call HB.out q0, q3, q4, q5, q6, hap _ (by show W.heap.size ≤ W.heap.size; omega), hap _ (by show W.heap.size ≤ W.heap.size + 1; omega), hap _ (by show W.heap.size ≤ W.heap.size + 1 + 1; omega), hap _ (by show W.heap.size ≤ W.heap.size + 1 + 1 + 1; omega), H0.out⟩
  obtain ⟨hV, hb1⟩ := hV
  have hfr : FrN bL bL v v W W1 := FrN.below hb1
  have s2 : W1.cell? ⟨b.b3, 2, none⟩ = some (.slice D.ot D.t.length D.ct) := hV.c3.c 2 _ rfl
  have s6 : W1.cell? ⟨b.b6, 0, none⟩ = some (walkX b) := hV.c6.c 0 _ rfl
  have l3 := hV.c3.lt
  have l6 := hV.c6.lt
  have e3 : b.b3 = W.heap.size := by rw [hbx]
  have e4 : b.b4 = W.heap.size + 1 := by rw [hbx]
  have e5 : b.b5 = W.heap.size + 1 + 1 := by rw [hbx]
  have e6 : b.b6 = W.heap.size + 1 + 1 + 1 := by rw [hbx]
  rw [← e6, ← e5, ← e4, ← e3]
  have HBX := Lib.hid hbx
  have HV := Lib.hid hV
  have HFR := Lib.hid hfr
  unfold walkX at s6
  clear hW1 hbx hV hb1 hfr e3 e4 e5 e6 hsf
  by_cases ht : D.t = []
  · have hlen : (decide ((0 : Int) < (D.t.length : Int))) = false := by rw [ht]; rfl
    have hlen2 : decide (0 < D.t.length) = false := by rw [ht]; rfl
    have HF : Hid (VisX D base bL bM most w0 v W (.returned (.tuple #[])) W1) := Lib.hid (by
      have h := HV.out
      rw [HBX.out] at h
      exact ⟨rfl, [], v, h.nw, HFR.out, h.bel, .inl ⟨ht, rfl⟩⟩)
    clear ht
    go_wp2_with fail
    refine bodyPost_end (v := .tuple #[]) (by simp [results, Tryz.results35, go_sem]) rfl ?_
    exact HF.out
  · have hpos : 0 < D.t.length := List.length_pos_iff.2 ht
    have hlen : (decide ((0 : Int) < (D.t.length : Int))) = true := decide_eq_true (by omega)
    have hlen2 : decide (0 < D.t.length) = true := decide_eq_true hpos
    have HW := Lib.hid (walkX62 HD.out (b := b) D.t.length 0 [] v W1 (by omega) (by omega) (.inl (by omega)) HV.out (fun _ _ h => by cases h))
    clear ht
    unfold xArgs at HW
    go_wp2_with fail
    refine HW.out.mono ?_
    rintro e W2 ⟨rfl, ext, v2, hV2, fr2, wr⟩
    have HF : Hid (VisX D base bL bM most w0 v W (.returned (.tuple #[])) W2) := Lib.hid (by
      rw [HBX.out] at hV2 fr2 wr
      exact ⟨rfl, ext, v2, hV2.nw, HFR.out.trans fr2, hV2.bel, .inr wr⟩)
    clear hV2 fr2 wr
    go_wp2_with fail
    refine bodyPost_end (v := .tuple #[]) (by simp [results, Tryz.results35, go_sem]) rfl ?_
    exact HF.out
end Go.Proofs.Ng
end

section
/-
  Walks: the sort of an owned row, empty or not; the plain law of Within.
-/
namespace Go.Proofs.Ng
open Go.RowKit

theorem sort_any (base : Nat) (v : Value) (l : List Nat) (w : World) (h : w.ownsRow base 3 1 v l.length (nvals l).flatten) (hl : l.length ≤ 3000) :
    Calls Tryz.prog 38 #[v] w fun e w' => e = .returned (.tuple #[]) ∧ w'.ownsRow base 3 1 v l.length (nvals (srN l)).flatten ∧ w.grownBy w' v.ownBlock := by
  rcases Nat.eq_zero_or_pos l.length with h0 | h0
  · obtain rfl : l = [] := List.length_eq_zero_iff.1 h0
    obtain ⟨oa, ca, rfl, -⟩ := own_rows (nvals_one []) h
    refine (show Calls Tryz.prog 38 #[.slice oa 0 ca] w _ from Any.slices_Sort_int_none Tryz.sortI oa ca w).mono ?_
    rintro e w' ⟨rfl, rfl⟩
    exact ⟨rfl, by rw [show srN [] = [] by simp [srN]]; exact h, World.grownBy.refl _ _⟩
  · rw [nvals_numsF] at h
    refine (sort_own base v l w h h0 hl).mono ?_
    rintro e w' ⟨h1, h2, h3⟩
    exact ⟨h1, by rw [nvals_numsF]; exact h2, h3⟩
theorem asc_eq : ∀ (L M : List Nat), L.Pairwise (· < ·) → M.Pairwise (· < ·) → (∀ x, x ∈ L ↔ x ∈ M) → L = M
  | [], [], _, _, _ => rfl
  | [], b :: M, _, _, h => by have := (h b).2 (by simp); cases this
  | a :: L, [], _, _, h => by have := (h a).1 (by simp); cases this
  | a :: L, b :: M, hl, hm, h => by
    rw [List.pairwise_cons] at hl hm
    have e : a = b := by
      have h1 := (h a).1 (by simp)
      have h2 := (h b).2 (by simp)
      rw [List.mem_cons] at h1 h2
      rcases h1 with h1 | h1
      · exact h1
      · rcases h2 with h2 | h2
        · exact h2.symm
        · have := hl.1 b h2; have := hm.1 a h1; omega
    subst e
    rw [asc_eq L M hl.2 hm.2 fun x => ?_]
    constructor
    · intro hx
      have h1 := (h x).1 (by simp [hx])
      rw [List.mem_cons] at h1
      rcases h1 with rfl | h1
      · have := hl.1 x hx; omega
      · exact h1
    · intro hx
      have h1 := (h x).2 (by simp [hx])
      rw [List.mem_cons] at h1
      rcases h1 with rfl | h1
      · have := hm.1 x hx; omega
      · exact h1
theorem srN_asc {l : List Nat} (h : l.Nodup) : (srN l).Pairwise (· < ·) := by
  have h1 : (srN l).Pairwise (fun a b => decide (a ≤ b) = true) := by
    unfold srN
    exact List.pairwise_mergeSort (fun a b c h1 h2 => by simp at *; omega) (fun a b => by simp; omega) l
  have h2 : (srN l).Nodup := by
    unfold srN
    exact (List.mergeSort_perm l _).nodup_iff.2 h
  refine (h1.and h2).imp ?_
  rintro a b ⟨h3, h4⟩
  simp at h3
  omega
/-- The points within a distance, in ascending order. -/
def inL (n : Nat) (dP : Nat → Int) (most : Int) : List Nat := (List.range n).filter fun p => decide (dP p ≤ most)
theorem inL_mem {n : Nat} {dP : Nat → Int} {most : Int} {p : Nat} : p ∈ inL n dP most ↔ p < n ∧ dP p ≤ most := by simp [inL]
theorem inL_asc (n : Nat) (dP : Nat → Int) (most : Int) : (inL n dP most).Pairwise (· < ·) := List.Pairwise.filter _ List.pairwise_lt_range
theorem inL_len (n : Nat) (dP : Nat → Int) (most : Int) : (inL n dP most).length ≤ n := by
  have := List.length_filter_le (fun p => decide (dP p ≤ most)) (List.range n)
  rw [List.length_range] at this
  exact this
theorem within_eq {n : Nat} {dP : Nat → Int} {most : Int} {t : List Nd} {ext : List Nat} (hnd : ext.Nodup) (hel : ∀ p ∈ ext, p < n) (hin : ∀ p, p < n → PtIn t 0 p) (hw : WalkT most dP t 0 [] ext) : srN (nearL dP most ext) = inL n dP most := by
  refine asc_eq _ _ (srN_asc (hnd.sublist List.filter_sublist)) (inL_asc _ _ _) fun x => ?_
  rw [srN_mem, inL_mem]
  unfold nearL
  rw [List.mem_filter, decide_eq_true_eq]
  constructor
  · rintro ⟨h1, h2⟩
    exact ⟨hel x h1, h2⟩
  · rintro ⟨h1, h2⟩
    rcases hw.all x (hin x h1) with h3 | h3
    · exact ⟨h3, h2⟩
    · omega
end Go.Proofs.Ng
end

section
/-
  Walks: Within.
-/
namespace Go.Proofs.Ng
open Go.RowKit

theorem catch33 (p : Addr) (w : World) :
    CallsD Tryz.prog 33 #[.pointer (some p)] .returning w fun e u' w' => e = .returned (.tuple #[]) ∧ u' = .returning ∧ w' = w := by
  refine callsD_of_wpS Tryz.func33 rfl fun c₀ cs hu => ?_
  apply wpS_seq
  apply wpS_region
  simp [wpOpsS, go_sem, recoverD, hu, Tryz.ntmps33, Exit.thenS]
  refine wpS_cond (t := false) (by simp [Act.eval, Array.replicate]) ?_
  simp only [Bool.false_eq_true, if_false]
  refine wpS_of_wp (wp_skip ?_)
  cases c₀
  simp_all [bodyPostS, results, Tryz.results33]
/-- What Within answers. -/
def WithP (n : Nat) (dP : Nat → Int) (most : Int) (w : World) (e : Ending) (W : World) : Prop :=
  ∃ (oa : Option Addr) (ca : Nat), e = .returned (.slice oa (inL n dP most).length ca) ∧ Sl W oa 1 (nvals (inL n dP most)) ∧ Below w.heap.size w W ∧ ∀ a, oa = some a → w.heap.size ≤ a.block
set_option maxRecDepth 100000 in
set_option maxHeartbeats 2000000 in
theorem within13 (oj om op ot oq : Option Addr) (cj cm cp ct cq : Nat) (js : List JV) (ms : List MV) (pts : List (List Int)) (t : List Nd) (q : List Int) (most : Int) (w : World)
    (hj : js.length ≤ 100) (hl : ms.length ≤ 9223372036854775807) (hJ : Sl w oj 12 (js.map JV.vals)) (hM : Sl w om 5 (ms.map MV.vals)) (hP : Pts w op pts) (hT : Sl w ot 4 (t.map Nd.vals)) (hQ : Sl w oq 1 (pvals q)) (htl : t.length ≤ 100000) (hpl : pts.length ≤ 100000) (hql : q.length ≤ 100000)
    (hF : FitsP js ms pts t q) :
    Calls Tryz.prog 13 #[.agg #[.slice oj js.length cj, .slice om ms.length cm], .slice op pts.length cp, .slice ot t.length ct, .slice oq q.length cq, .int .i64 most] w (WithP pts.length (dP js q pts) most w) := by
  have hmf : ∀ (fn : Fn) (first cap : Array Value) (w : World), (Instr.makeFunc fn first cap).run Tryz.prog w = .ok (.func fn first cap) w := fun _ _ _ _ => rfl
  have hFt := fun (X : World) (hX : Below w.heap.size w X) => fits38 oj om op ot oq cj cm cp ct cq js ms pts t q X hj hl (hJ.keep hX) (hM.keep hX) (hP.keep hX) (hT.keep hX) (hQ.keep hX) htl hpl hql
  have hD : DatOk ⟨oj, cj, js, op, cp, pts, ot, ct, t, oq, cq, q⟩ w := ⟨hJ, hP, hT, hQ, okR_tame hF.1 hF.2.2.1, hF.2.2.2.1, hF.2.1.symm, fun hne => by
    rcases hF.2.2.2.2 with h | h
    · have := hF.2.2.2.1.2.1
      exact absurd (List.length_eq_zero_iff.1 (by rw [this, h]; rfl)) hne
    · exact h⟩
  have HF := Lib.hid hF
  have HFT := Lib.hid hFt
  have HD := Lib.hid hD
  clear hF hFt hD hJ hM hP hT hQ hl
  go_enter_defers Tryz.func13, Tryz.ntmps13
  go_upto_region 2 with fail
  have hbx_ := blks3 w [.slice oj js.length cj, .slice om ms.length cm] [.int .i64 most] [.slice none 0 0] 25 2 29
  have HB := Lib.hid (hbx_.2.2.2)
  have hod : w.heap.size ≤ w.heap.size ∧ w.heap.size < w.heap.size + 1 ∧ w.heap.size + 1 < w.heap.size + 1 + 1 := by omega
  generalize ((w.alloc (.cells #[.slice oj js.length cj, .slice om ms.length cm] 25)).alloc (.cells #[.int .i64 most] 2)).alloc (.cells #[.slice none 0 0] 29) = W1 at hbx_ HB ⊢
  obtain ⟨r5, r9, r10, hbel_⟩ := hbx_
  generalize w.heap.size + 1 + 1 = b10 at r10 hod ⊢
  generalize w.heap.size + 1 = b9 at r9 hod ⊢
  obtain ⟨b5, hn_⟩ : ∃ n, n = w.heap.size := ⟨_, rfl⟩
  rw [← hn_] at r5 ⊢
  replace hod := And.intro (Nat.le_of_eq hn_.symm) (hn_ ▸ hod.2)
  clear hn_ hbel_
  have HO1 : Hid (w.heap.size ≤ b5 ∧ w.heap.size ≤ b9 ∧ w.heap.size ≤ b10 ∧ b5 ≠ b9 ∧ b5 ≠ b10 ∧ b9 ≠ b10) := Lib.hid (by omega)
  clear hod
  have a0 : W1.cell? ⟨b5, 0, none⟩ = some (.slice oj js.length cj) := r5.c 0 _ rfl
  have a1 : W1.cell? ⟨b5, 1, none⟩ = some (.slice om ms.length cm) := r5.c 1 _ rfl
  have l5 := r5.lt
  have H34 := Lib.hid (HFT.out W1 HB.out)
  have HR5 := Lib.hid r5
  have HR9 := Lib.hid r9
  have HR10 := Lib.hid r10
  clear r5 r9 r10
  go_wp2_with fail
  with_reducible refine H34.out.mono ?_
  rintro e W2 ⟨bv, rfl, hbv, hb2⟩
  obtain rfl : bv = true := hbv.2 HF.out
  have HB2 := Lib.hid (below_call HB.out hb2)
  have HR52 := Lib.hid (HR5.out.keep hb2)
  have r9 := HR9.out.keep hb2
  have r10 := HR10.out.keep hb2
  have hs2 := HB2.out.size
  have ho1 := HO1.out
  have l9 := r9.lt
  have l10 := r10.lt
  have hX : XW W2.heap.size b10 b9 pts.length most (dP js q pts) [] (.slice none 0 0) W2 := ⟨r10, r9, World.ownsRow_nil _ _ _ _, l10, ⟨l9, ho1.2.2.2.2.2⟩, .nil, by simp, Nat.le_refl _⟩
  have HV := Lib.hid (visitX43 HD.out hX HB2.out ⟨ho1.2.2.1, ho1.2.2.1, hs2⟩)
  have a0 : W2.cell? ⟨b5, 0, none⟩ = some (.slice oj js.length cj) := HR52.out.c 0 _ rfl
  have a1 : W2.cell? ⟨b5, 1, none⟩ = some (.slice om ms.length cm) := HR52.out.c 1 _ rfl
  have l5 := HR52.out.lt
  have HBS : Hid (∃ s, s = W2.heap.size ∧ w.heap.size ≤ s ∧ b10 < s) := Lib.hid ⟨_, rfl, hs2, l10⟩
  clear hbv hb2 HR5 HR9 HR10 HB HFT H34 r9 r10 hs2 ho1 l9 l10 hX
  unfold Dat.box boundG takeG at HV
  go_wp2_with fail
  with_reducible refine HV.out.mono ?_
  rintro e W4 ⟨rfl, ext, v1, hN, hfr, hB4, hww⟩
  have hkd := HD.out.kd
  have hS : srN (nearL (dP js q pts) most ext) = inL pts.length (dP js q pts) most := by
    refine within_eq hN.nd hN.el (fun p hp => hkd.2.2.1.all (by rw [hkd.2.1]; exact hp)) (t := t) ?_
    rcases hww with ⟨ht, he⟩ | hw
    · have ht : t = [] := ht
      subst ht
      subst he
      exact ⟨by simp, fun p ⟨j, y, _, _, hy, _⟩ => by simp at hy⟩
    · exact hw
  have hlen : (nearL (dP js q pts) most ext).length = (inL pts.length (dP js q pts) most).length := by rw [← hS, srN_len]
  have hp1024 : pts.length ≤ 1024 := (vp_dim hkd.1).1
  have hso := sort_any W2.heap.size v1 (nearL (dP js q pts) most ext) W4 hN.own (by have := inL_len pts.length (dP js q pts) most; omega)
  rw [hS, hlen] at hso
  have HSO := Lib.hid hso
  have x10 : W4.cell? ⟨b10, 0, none⟩ = some v1 := hN.box.c 0 _ rfl
  have l10 := hN.box.lt
  have HN := Lib.hid hN
  have HB4 := Lib.hid hB4
  clear hkd hS hlen hso hN hB4 hww hfr hp1024 HV a0 a1 l5 HR52
  go_wp2_with fail
  with_reducible refine HSO.out.mono ?_
  rintro e W5 ⟨rfl, hown, hgr⟩
  have hN := HN.out
  have B := grown_below hN.own hgr hN.hb
  have k10 := hN.box.low hN.lL B
  obtain ⟨oL, cL, rfl, -⟩ := own_rows (nvals_one (inL pts.length (dP js q pts) most)) (by rw [nvals_len]; exact hown)
  rw [nvals_len] at hown k10 x10 ⊢
  obtain ⟨WS, hWS⟩ : ∃ WS, WS = W5.setCell ⟨b10, 0, none⟩ (.slice oL (inL pts.length (dP js q pts) most).length cL) := ⟨_, rfl⟩
  have hg : W5.grownBy WS (some b10) := by rw [hWS]; exact grown_set W5 b10 0 _
  have hown2 : WS.ownsRow W2.heap.size 3 1 (.slice oL (inL pts.length (dP js q pts) most).length cL) (inL pts.length (dP js q pts) most).length (nvals (inL pts.length (dP js q pts) most)).flatten :=
    own_blk hown fun g hgo hl hb => hg.block g hl (fun e => by injection e with e; have := hN.lL; omega)
  have hbw : Below w.heap.size w WS := by
    rw [hWS]
    exact (HB4.out.trans (B.mono HB2.out.size)).setCell (p := ⟨b10, 0, none⟩) HO1.out.2.2.1 _
  have HFI : Hid (WithP pts.length (dP js q pts) most w (.returned (.slice oL (inL pts.length (dP js q pts) most).length cL)) WS) := Lib.hid (by
    obtain ⟨o2, c2, e2, hs2⟩ := own_rows (nvals_one (inL pts.length (dP js q pts) most)) (by rw [nvals_len]; exact hown2)
    rw [nvals_len] at e2
    injection e2 with e3 _ e4
    subst e3 e4
    exact ⟨_, _, rfl, hs2, hbw, fun a ha => Nat.le_trans HB2.out.size (own_fresh hown2 a ha)⟩)
  generalize (inL pts.length (dP js q pts) most).length = nL at k10 x10 hWS HFI ⊢
  have y10 : W5.cell? ⟨b10, 0, none⟩ = some (.slice oL nL cL) := k10.c 0 _ rfl
  have f10 := k10.f 0
  have l5' := k10.lt
  have hla : WS.cell? ⟨b10, 0, none⟩ = some (.slice oL nL cL) := by rw [hWS]; exact World.cell?_setCell_same W5 ⟨b10, 0, none⟩ _ y10
  have HWS := Lib.hid hWS
  clear hN B k10 hown hgr hg hown2 hbw x10 l10 HSO HN hWS
  go_wp2_with fail
  rw [← HWS.out]
  refine leaves_cons (f := 33) (args := #[.pointer (some ⟨b10, 0, none⟩)]) (by simp) (by simp [go_sem]) ?_
  refine (catch33 _ _).mono ?_
  rintro e u' w'' ⟨rfl, rfl, rfl⟩
  simp [Leaves, settle, results, Tryz.results13, go_sem, hla]
  exact HFI.out
end Go.Proofs.Ng
end

