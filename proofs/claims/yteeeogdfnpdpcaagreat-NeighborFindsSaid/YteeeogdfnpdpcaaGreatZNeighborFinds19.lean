/-
  Texts put together: Dl Dm Cf.
-/
import Derived.Test.YteeeogdfnpdpcaaGreatZNeighborFinds18
import Derived.Test.YteeeogdfnpdpcaaGreatZNeighborFinds17
set_option linter.unusedVariables false
section
/-
  Walks: the search's walk.
-/
namespace Go.Proofs.Ng
open Go.RowKit

/-- What the search is over. -/
structure Dat where
  oj : Option Addr
  cj : Nat
  js : List JV
  op : Option Addr
  cp : Nat
  pts : List (List Int)
  ot : Option Addr
  ct : Nat
  t : List Nd
  oq : Option Addr
  cq : Nat
  q : List Int
def Dat.vals (D : Dat) : List Value := [.slice D.oj D.js.length D.cj, .slice D.op D.pts.length D.cp, .slice D.ot D.t.length D.ct, .slice D.oq D.q.length D.cq]
structure DatOk (D : Dat) (w0 : World) : Prop where
  J : Sl w0 D.oj 12 (D.js.map JV.vals)
  P : Pts w0 D.op D.pts
  T : Sl w0 D.ot 4 (D.t.map Nd.vals)
  Q : Sl w0 D.oq 1 (pvals D.q)
  tame : Tame D.js D.q
  kd : KdOk D.pts D.t
  lq : D.js.length = D.q.length
  dim : D.t ≠ [] → dimP D.pts = D.js.length
/-- The places of the search's boxes. -/
structure Bx where
  base : Nat
  hB : Nat
  g11 : Nat
  gD : Nat
  b12 : Nat
  b9 : Nat
  b3 : Nat
  b4 : Nat
  b5 : Nat
  b6 : Nat
  k : Nat
def boundV (b : Bx) : Value := .func (.func 44) #[] #[.pointer (some ⟨b.b12, 0, none⟩), .pointer (some ⟨b.b9, 0, none⟩), .pointer (some ⟨b.g11, 0, none⟩)]
def takeV (b : Bx) : Value := .func (.func 46) #[] #[.pointer (some ⟨b.g11, 0, none⟩), .pointer (some ⟨b.b12, 0, none⟩), .pointer (some ⟨b.b9, 0, none⟩)]
def walkV (b : Bx) : Value := .func (.func 66) #[] #[.pointer (some ⟨b.b3, 0, none⟩), .pointer (some ⟨b.b5, 0, none⟩), .pointer (some ⟨b.b6, 0, none⟩), .pointer (some ⟨b.b4, 0, none⟩)]
def Apart (b : Bx) (v : Value) (n : Nat) : Prop := n ≠ b.hB ∧ n ≠ b.gD ∧ v.ownBlock ≠ some n
/-- The search's world. -/
structure VW (D : Dat) (b : Bx) (w0 : World) (l : List Nat) (v : Value) (W : World) : Prop where
  nw : NW b.base b.hB b.g11 b.gD D.pts.length b.b12 b.b9 b.k (dP D.js D.q D.pts) l v W
  bel : Below w0.heap.size w0 W
  c3 : Blk W b.b3 D.vals
  c4 : Blk W b.b4 [boundV b]
  c5 : Blk W b.b5 [takeV b]
  c6 : Blk W b.b6 [walkV b]
  a3 : Apart b v b.b3
  a4 : Apart b v b.b4
  a5 : Apart b v b.b5
  a6 : Apart b v b.b6
  h0 : w0.heap.size ≤ b.hB ∧ w0.heap.size ≤ b.gD ∧ w0.heap.size ≤ b.base
theorem FrN.stay {hB gD : Nat} {v v' : Value} {W W' : World} (h : FrN hB gD v v' W W') {n : Nat} (hn : n < W.heap.size) (hv : v.ownBlock ≠ some n) : v'.ownBlock ≠ some n := fun e => by
  rcases h.own n e with h1 | h1
  · exact hv h1
  · omega
theorem Apart.stay {b : Bx} {v v' : Value} {n : Nat} {W W' : World} (h : Apart b v n) (hf : FrN b.hB b.gD v v' W W') (hn : n < W.heap.size) : Apart b v' n := ⟨h.1, h.2.1, hf.stay hn h.2.2⟩
theorem Blk.keepA {b : Bx} {v v' : Value} {n : Nat} {W W' : World} {c : List Value} (h : Blk W n c) (hf : FrN b.hB b.gD v v' W W') (ha : Apart b v n) : Blk W' n c := h.keepN hf ha.1 ha.2.1 ha.2.2
theorem VW.keep {D : Dat} {b : Bx} {w0 W W' : World} {l : List Nat} {v : Value} (h : VW D b w0 l v W) (hb : Below W.heap.size W W') : VW D b w0 l v W' :=
  ⟨h.nw.keep hb, below_call h.bel hb, h.c3.keep hb, h.c4.keep hb, h.c5.keep hb, h.c6.keep hb, h.a3, h.a4, h.a5, h.a6, h.h0⟩
theorem VW.call {D : Dat} {b : Bx} {w0 W W' : World} {l l' : List Nat} {v v' : Value} (h : VW D b w0 l v W) (hn : NW b.base b.hB b.g11 b.gD D.pts.length b.b12 b.b9 b.k (dP D.js D.q D.pts) l' v' W') (hf : FrN b.hB b.gD v v' W W') : VW D b w0 l' v' W' := by
  refine ⟨hn, ?_, h.c3.keepA hf h.a3, h.c4.keepA hf h.a4, h.c5.keepA hf h.a5, h.c6.keepA hf h.a6, h.a3.stay hf h.c3.lt, h.a4.stay hf h.c4.lt, h.a5.stay hf h.c5.lt, h.a6.stay hf h.c6.lt, h.h0⟩
  obtain ⟨h1, h2, h3⟩ := h.h0
  obtain ⟨ds, hp, k0, _⟩ := h.nw.ex
  exact ⟨hf.os.trans h.bel.os, hf.tape.trans h.bel.tape, hf.output.trans h.bel.output, Nat.le_trans h.bel.size hf.size, fun j hj => (hf.block j (Nat.lt_of_lt_of_le hj h.bel.size) (by omega) (by omega) (fun e => by have := (own_lt k0.own j e).2; omega)).trans (h.bel.block j hj)⟩
/-- The points of one side are no nearer than the gap. -/
theorem side_far {D : Dat} {w0 : World} (hD : DatOk D w0) {i p0 a : Nat} {lo hi : Int} (hx : D.t[i]? = some ⟨(p0 : Nat), (a : Nat), lo, hi⟩) (ha : a < dimP D.pts) :
    (0 < at0 D.q a - key D.pts a p0 → ∀ p, PtIn D.t lo p → wt D.js a * gapA (at0 D.q a - key D.pts a p0) ≤ dP D.js D.q D.pts p) ∧ (at0 D.q a - key D.pts a p0 ≤ 0 → ∀ p, PtIn D.t hi p → wt D.js a * gapA (at0 D.q a - key D.pts a p0) ≤ dP D.js D.q D.pts p) := by
  have hK := hD.kd.2.2.1
  have hO := hD.kd.2.2.2
  have hlen := hD.kd.2.1
  obtain ⟨-, hdim⟩ := vp_dim hD.kd.1
  have get : ∀ (j p : Nat) (y : Nd), D.t[j]? = some y → y.pt = (p : Nat) → ∃ x, D.pts[p]? = some x ∧ a < x.length := fun j p y hy hp => by
    have := (hK.ok j y hy).p1
    obtain ⟨x, hx⟩ : ∃ x, D.pts[p]? = some x := ⟨_, List.getElem?_eq_getElem (by omega)⟩
    exact ⟨x, hx, by rw [(hdim x (List.mem_of_getElem? hx)).1]; exact ha⟩
  refine ⟨fun hg p ⟨j, y, h0, hd, hy, hp⟩ => ?_, fun hg p ⟨j, y, h0, hd, hy, hp⟩ => ?_⟩
  · obtain ⟨x, hpx, hax⟩ := get j p y hy hp
    have := (hO i _ j y hx hy).1 lo.toNat (by simp only; omega) hd
    rw [hp] at this
    simp only [Int.toNat_natCast] at this
    exact far_side (wt_nn hD.tame.w) hpx hax (.inl ⟨hg, bef_key this⟩)
  · obtain ⟨x, hpx, hax⟩ := get j p y hy hp
    have := (hO i _ j y hx hy).2 hi.toNat (by simp only; omega) hd
    rw [hp] at this
    simp only [Int.toNat_natCast] at this
    exact far_side (wt_nn hD.tame.w) hpx hax (.inr ⟨hg, bef_key this⟩)
/-- What the walk answers. -/
def WalkP (D : Dat) (b : Bx) (w0 : World) (i : Int) (l : List Nat) (v : Value) (W : World) (e : Ending) (W' : World) : Prop :=
  e = .returned (.tuple #[]) ∧ ∃ ext v', VW D b w0 (l ++ ext) v' W' ∧ FrN b.hB b.gD v v' W W' ∧ WalkR b.k (dP D.js D.q D.pts) D.t i l ext
def wArgs (b : Bx) (i : Int) : Array Value := #[.int .i64 i, .pointer (some ⟨b.b3, 0, none⟩), .pointer (some ⟨b.b5, 0, none⟩), .pointer (some ⟨b.b6, 0, none⟩), .pointer (some ⟨b.b4, 0, none⟩)]
set_option maxRecDepth 100000 in
set_option maxHeartbeats 2000000 in
theorem walk62 {D : Dat} {b : Bx} {w0 : World} (hD : DatOk D w0) (hk1 : 1 ≤ b.k) (hk : b.k ≤ 9223372036854775807) :
    ∀ (f : Nat) (i : Int) (l : List Nat) (v : Value) (W : World), -1 ≤ i → i < D.t.length → (D.t.length : Int) ≤ f + i ∨ i < 0 → VW D b w0 l v W → (∀ p, PtIn D.t i p → p ∉ l) → Calls Tryz.prog 66 (wArgs b i) W (WalkP D b w0 i l v W) := by
  intro f
  have neg : ∀ (i : Int) (l : List Nat) (v : Value) (W : World), i = -1 → VW D b w0 l v W → Calls Tryz.prog 66 (wArgs b i) W (WalkP D b w0 i l v W) := by
    intro i l v W h hV
    have hd : (i == -1) = true := by simp [h]
    have HF : Hid (WalkP D b w0 i l v W (.returned (.tuple #[])) W) := Lib.hid ⟨rfl, [], v, by rw [List.append_nil]; exact hV, FrN.below (Below.refl _ _), WalkR.none (by omega)⟩
    clear hV h
    unfold wArgs
    go_enter Tryz.func66, Tryz.ntmps66
    go_wp2_with fail
    refine bodyPost_ret (v := .tuple #[]) (by simp [results, Tryz.results66, go_sem]) rfl ?_
    exact HF.out
  induction f with
  | zero =>
    intro i l v W h1 h2 h3 hV hpl
    exact neg i l v W (by omega) hV
  | succ f ih =>
    intro i l v W h1 h2 h3 hV hpl
    by_cases h0 : i = -1
    · exact neg i l v W h0 hV
    · clear neg
      obtain ⟨i, rfl⟩ : ∃ k : Nat, i = (k : Nat) := ⟨i.toNat, by omega⟩
      have hd : ((i : Int) == -1) = false := by simp
      obtain ⟨x, hx⟩ : ∃ x, D.t[i]? = some x := ⟨_, List.getElem?_eq_getElem (by omega)⟩
      have hK := hD.kd.2.2.1
      have ho := hK.ok i x hx
      obtain ⟨xp, xa, lo, hi⟩ := x
      have hq0 : 0 ≤ xp := ho.p0
      have hq1 : xp < D.t.length := ho.p1
      have hq2 : 0 ≤ xa := ho.a0
      have hq3 : xa < dimP D.pts := ho.a1
      obtain ⟨p0, rfl⟩ : ∃ q : Nat, xp = (q : Nat) := ⟨xp.toNat, by omega⟩
      obtain ⟨a, rfl⟩ : ∃ q : Nat, xa = (q : Nat) := ⟨xa.toNat, by omega⟩
      have hlo : inR i D.t.length lo := ho.lo
      have hhi : inR i D.t.length hi := ho.hi
      have hp0 : p0 < D.pts.length := by have := hD.kd.2.1; omega
      have hax : a < dimP D.pts := by omega
      have htne : D.t ≠ [] := fun e => by rw [e] at hx; simp at hx
      have hdim := hD.dim htne
      have hin := fun p => ptIn_at hx hlo hhi p
      have hpl1024 := (vp_dim hD.kd.1).1
      have hp0l : p0 ∉ l := hpl p0 ((hin p0).2 (.inl rfl))
      obtain ⟨bt, offt, hot, hTr⟩ := (hD.T.keep hV.bel) (map_ne (k := i) (by omega))
      have x0 : W.cell? ⟨bt, offt + i * 4, none⟩ = some (.int .i64 (p0 : Nat)) := hTr.c i _ (map_get hx) 0 _ rfl
      have x1 : W.cell? ⟨bt, offt + i * 4 + 1, none⟩ = some (.int .i64 (a : Nat)) := hTr.c i _ (map_get hx) 1 _ rfl
      have x2 : W.cell? ⟨bt, offt + i * 4 + 2, none⟩ = some (.int .i64 lo) := hTr.c i _ (map_get hx) 2 _ rfl
      have x3 : W.cell? ⟨bt, offt + i * 4 + 3, none⟩ = some (.int .i64 hi) := hTr.c i _ (map_get hx) 3 _ rfl
      have lt0 := hTr.lt
      have s2 : W.cell? ⟨b.b3, 2, none⟩ = some (.slice D.ot D.t.length D.ct) := hV.c3.c 2 _ rfl
      rw [hot] at s2
      have l3 := hV.c3.lt
      have hil : (i : Int) < (D.t.length : Int) := by omega
      have HX := Lib.hid hx
      have HOT := Lib.hid hot
      have HLO := Lib.hid hlo
      have HHI := Lib.hid hhi
      have HPL := Lib.hid hpl
      have HIN := Lib.hid hin
      have HAP := Lib.hid (fun p => ptIn_apart hK hx (p := p))
      have HK := Lib.hid hK
      have HD := Lib.hid hD
      have HDIM := Lib.hid hdim
      have HV0 := Lib.hid hV
      have HIH := Lib.hid ih
      have HF3 := Lib.hid h3
      have HAN : Hid (∀ n : Nat, n = W.heap.size → Apart b v n) := Lib.hid (fun n e => by
        obtain ⟨ds, hp, k0, _⟩ := hV.nw.ex
        have o1 := k0.o1; have o3 := k0.o3; have ob := k0.hb
        exact ⟨by omega, by omega, fun e2 => by have := (own_lt k0.own n e2).1; omega⟩)
      clear hTr hx hot hlo hhi hpl hin hK hD hdim hV ih h0 h1 h2 h3 ho htne
      unfold wArgs
      go_enter Tryz.func66, Tryz.ntmps66
      go_upto_region 2 with fail
      clear x0 x1 x2 x3 lt0 s2 l3
      have hbx : Below W.heap.size W (W.alloc (.cells #[.int .i64 (p0 : Nat), .int .i64 (a : Nat), .int .i64 lo, .int .i64 hi] 57)) := (Below.refl _ _).alloc (Nat.le_refl _) _
      have r6 := Blk.new W [.int .i64 (p0 : Nat), .int .i64 (a : Nat), .int .i64 lo, .int .i64 hi] 57
      have hV := HV0.out.keep hbx
      have hA6 := HAN.out _ rfl
      have HFB := Lib.hid (FrN.below (hB := b.hB) (gD := b.gD) (v := v) hbx)
      generalize (W.alloc (.cells #[.int .i64 (p0 : Nat), .int .i64 (a : Nat), .int .i64 lo, .int .i64 hi] 57)) = W3 at r6 hV HFB ⊢
      generalize W.heap.size = n6 at r6 hA6 ⊢
      have HA6 := Lib.hid hA6
      clear hbx HAN HV0 hA6
      have s0 : W3.cell? ⟨b.b3, 0, none⟩ = some (.slice D.oj D.js.length D.cj) := hV.c3.c 0 _ rfl
      have s1 : W3.cell? ⟨b.b3, 1, none⟩ = some (.slice D.op D.pts.length D.cp) := hV.c3.c 1 _ rfl
      have s2 : W3.cell? ⟨b.b3, 2, none⟩ = some (.slice D.ot D.t.length D.ct) := hV.c3.c 2 _ rfl
      have s3 : W3.cell? ⟨b.b3, 3, none⟩ = some (.slice D.oq D.q.length D.cq) := hV.c3.c 3 _ rfl
      have l3 := hV.c3.lt
      have s5 : W3.cell? ⟨b.b5, 0, none⟩ = some (takeV b) := hV.c5.c 0 _ rfl
      unfold takeV at s5
      have l5 := hV.c5.lt
      have y0 : W3.cell? ⟨n6, 0, none⟩ = some (.int .i64 (p0 : Nat)) := r6.c 0 _ rfl
      have l6 := r6.lt
      obtain ⟨dd, hdd⟩ : ∃ d, d = dP D.js D.q D.pts p0 := ⟨_, rfl⟩
      have HDS := Lib.hid (fun (X : World) (hX : Below W3.heap.size W3 X) => show Calls Tryz.prog 67 #[.agg #[.slice D.oj D.js.length D.cj, .slice D.op D.pts.length D.cp, .slice D.ot D.t.length D.ct, .slice D.oq D.q.length D.cq], .int .i64 (p0 : Nat)] X (fun e W' => e = .returned (.int .i64 dd) ∧ Below X.heap.size X W') from by
        rw [hdd]
        exact distance63 D.oj D.op D.ot D.oq D.cj D.cp D.t.length D.ct D.cq D.js D.pts D.q p0 X (HD.out.J.keep (below_call hV.bel hX)) (HD.out.P.keep (below_call hV.bel hX)) (HD.out.Q.keep (below_call hV.bel hX)) HD.out.tame HD.out.kd.1 HD.out.lq HDIM.out hp0)
      have HTK := Lib.hid (fun (X : World) (hX : Below W3.heap.size W3 X) => show Calls Tryz.prog 46 #[.int .i64 (p0 : Nat), .int .i64 dd, .pointer (some ⟨b.g11, 0, none⟩), .pointer (some ⟨b.b12, 0, none⟩), .pointer (some ⟨b.b9, 0, none⟩)] X (TakeP b.base b.hB b.g11 b.gD D.pts.length b.b12 b.b9 b.k (dP D.js D.q D.pts) (l ++ [p0]) v X) from by
        rw [hdd]
        exact take46 (hV.keep hX).nw p0 hp0 hp0l hpl1024 hk1 hk)
      clear hdd
      have hmk : ∀ Y, Below W3.heap.size W3 Y → Y.cell? ⟨b.b3, 0, none⟩ = some (.slice D.oj D.js.length D.cj) ∧ Y.cell? ⟨b.b3, 1, none⟩ = some (.slice D.op D.pts.length D.cp) ∧ Y.cell? ⟨b.b3, 2, none⟩ = some (.slice D.ot D.t.length D.ct) ∧ Y.cell? ⟨b.b3, 3, none⟩ = some (.slice D.oq D.q.length D.cq) ∧ Y.cell? ⟨b.b5, 0, none⟩ = some (.func (.func 46) #[] #[.pointer (some ⟨b.g11, 0, none⟩), .pointer (some ⟨b.b12, 0, none⟩), .pointer (some ⟨b.b9, 0, none⟩)]) ∧ Y.cell? ⟨n6, 0, none⟩ = some (.int .i64 (p0 : Nat)) :=
        fun Y hY => ⟨(hY.cell (p := ⟨b.b3, 0, none⟩) l3).trans s0, (hY.cell (p := ⟨b.b3, 1, none⟩) l3).trans s1, (hY.cell (p := ⟨b.b3, 2, none⟩) l3).trans s2, (hY.cell (p := ⟨b.b3, 3, none⟩) l3).trans s3, (hY.cell (p := ⟨b.b5, 0, none⟩) l5).trans s5, (hY.cell (p := ⟨n6, 0, none⟩) l6).trans y0⟩
      have hmf : ∀ Y v', FrN b.hB b.gD v v' W3 Y → Y.cell? ⟨b.b3, 0, none⟩ = some (.slice D.oj D.js.length D.cj) ∧ Y.cell? ⟨b.b3, 1, none⟩ = some (.slice D.op D.pts.length D.cp) ∧ Y.cell? ⟨b.b3, 2, none⟩ = some (.slice D.ot D.t.length D.ct) ∧ Y.cell? ⟨b.b3, 3, none⟩ = some (.slice D.oq D.q.length D.cq) ∧ Y.cell? ⟨b.b5, 0, none⟩ = some (.func (.func 46) #[] #[.pointer (some ⟨b.g11, 0, none⟩), .pointer (some ⟨b.b12, 0, none⟩), .pointer (some ⟨b.b9, 0, none⟩)]) ∧ Y.cell? ⟨n6, 0, none⟩ = some (.int .i64 (p0 : Nat)) :=
        fun Y v' hY => ⟨(hV.c3.keepA hY hV.a3).c 0 _ rfl, (hV.c3.keepA hY hV.a3).c 1 _ rfl, (hV.c3.keepA hY hV.a3).c 2 _ rfl, (hV.c3.keepA hY hV.a3).c 3 _ rfl, (hV.c5.keepA hY hV.a5).c 0 _ rfl, (r6.keepA hY HA6.out).c 0 _ rfl⟩
      have hS := hmk W3 (Below.refl _ _)
      have HMK := Lib.hid hmk
      have HMF := Lib.hid hmf
      have HV := Lib.hid hV
      have HR6 := Lib.hid r6
      clear hmk hmf hV r6
      go_cut [] (fun X => ∃ v', NW b.base b.hB b.g11 b.gD D.pts.length b.b12 b.b9 b.k (dP D.js D.q D.pts) (l ++ [p0]) v' X ∧ FrN b.hB b.gD v v' W3 X)
      case first =>
        clear s0 s1 s2 s3 s5 y0
        go_region_held3 (fun Y => Y.cell? ⟨b.b3, 0, none⟩ = some (.slice D.oj D.js.length D.cj) ∧ Y.cell? ⟨b.b3, 1, none⟩ = some (.slice D.op D.pts.length D.cp) ∧ Y.cell? ⟨b.b3, 2, none⟩ = some (.slice D.ot D.t.length D.ct) ∧ Y.cell? ⟨b.b3, 3, none⟩ = some (.slice D.oq D.q.length D.cq) ∧ Y.cell? ⟨b.b5, 0, none⟩ = some (.func (.func 46) #[] #[.pointer (some ⟨b.g11, 0, none⟩), .pointer (some ⟨b.b12, 0, none⟩), .pointer (some ⟨b.b9, 0, none⟩)]) ∧ Y.cell? ⟨n6, 0, none⟩ = some (.int .i64 (p0 : Nat)))
          (first
            | assumption
            | exact HMK.out _ (Below.refl _ _).drew
            | exact HMK.out _ (by assumption)
            | exact HMF.out _ _ (by assumption))
          (first
            | (go_at_call 67
               with_reducible refine (HDS.out _ (Below.refl _ _).drew).mono ?_
               rintro e Xa ⟨rfl, hb⟩
               replace hb := (Below.refl W3.heap.size W3).drew.trans hb)
            | (go_at_call 46
               with_reducible refine (HTK.out _ hb).mono ?_
               rintro e Xb ⟨rfl, v1, hnw, hfr⟩
               replace hfr := (FrN.below hb).trans hfr))
        all_goals
          go_wp2_with fail
          go_meet
          exact ⟨v1, hnw, hfr⟩
      case rest =>
        clear s0 s1 s2 s3 s5 y0 l3 l5 hS HMK HMF HDS HTK
        obtain ⟨v1, hnw, hfr⟩ := hcut
        obtain ⟨W4, rfl⟩ : ∃ X, X = wc := ⟨_, rfl⟩
        have hV4 := HV.out.call hnw hfr
        have A64 := HA6.out.stay hfr l6
        have r64 := HR6.out.keepA hfr HA6.out
        have FR4 := Lib.hid (HFB.out.trans hfr)
        clear hnw hfr HV HR6 HA6 HFB l6
        obtain ⟨px, hpx⟩ : ∃ x, D.pts[p0]? = some x := ⟨_, List.getElem?_eq_getElem hp0⟩
        obtain ⟨-, hdm⟩ := vp_dim HD.out.kd.1
        have hpxl := (hdm px (List.mem_of_getElem? hpx)).1
        obtain ⟨xa, hxa⟩ : ∃ y, px[a]? = some y := ⟨_, List.getElem?_eq_getElem (by omega)⟩
        obtain ⟨qa, hqa⟩ : ∃ y, D.q[a]? = some y := ⟨_, List.getElem?_eq_getElem (by have := HD.out.lq; have := HDIM.out; omega)⟩
        obtain ⟨jv, hjv⟩ : ∃ y, D.js[a]? = some y := ⟨_, List.getElem?_eq_getElem (by have := HDIM.out; omega)⟩
        have HJV := Lib.hid hjv
        have hsf := side_far HD.out HX.out hax
        rw [show at0 D.q a = qa from at0_some hqa, key_at hpx hxa, wt_some hjv] at hsf
        have hwj := HD.out.tame.w a jv hjv
        have hqb := HD.out.tame.q a qa hqa
        have hxb : -2147483648 ≤ xa ∧ xa ≤ 2147483648 := by
          have hv := HD.out.kd.1
          unfold vpB at hv
          rw [Bool.and_eq_true, decide_eq_true_eq, List.all_eq_true] at hv
          have h1 := hv.2 px (List.mem_of_getElem? hpx)
          unfold okC at h1
          rw [Bool.and_eq_true] at h1
          unfold smallB at h1
          have h2 := List.all_eq_true.1 h1.2 xa (List.mem_of_getElem? hxa)
          unfold okX at h2
          simpa using h2
        obtain ⟨bp, offp, ox, cx, hop, z0, lp, hsx⟩ := (HD.out.P.keep hV4.bel).get hpx
        obtain ⟨bx, offx, rfl, z1, lx⟩ := pv_get hsx hxa
        obtain ⟨bq, offq, hoq, z2, lq⟩ := pv_get (HD.out.Q.keep hV4.bel) hqa
        have s1 : W4.cell? ⟨b.b3, 1, none⟩ = some (.slice D.op D.pts.length D.cp) := hV4.c3.c 1 _ rfl
        have s3 : W4.cell? ⟨b.b3, 3, none⟩ = some (.slice D.oq D.q.length D.cq) := hV4.c3.c 3 _ rfl
        rw [hop] at s1
        rw [hoq] at s3
        have l3 := hV4.c3.lt
        have y0 : W4.cell? ⟨n6, 0, none⟩ = some (.int .i64 (p0 : Nat)) := r64.c 0 _ rfl
        have y1 : W4.cell? ⟨n6, 1, none⟩ = some (.int .i64 (a : Nat)) := r64.c 1 _ rfl
        have ly := r64.lt
        have haq : (a : Int) < (D.q.length : Int) := by have := (List.getElem?_eq_some_iff.1 hqa).1; omega
        have haj : (a : Int) < (D.js.length : Int) := by have := (List.getElem?_eq_some_iff.1 hjv).1; omega
        have hapx : (a : Int) < (px.length : Int) := by omega
        have hgb := gap_bd hqb hxb
        have hwr : IntKind.i64.wrap (qa - xa) = qa - xa := IntWalk.i64_in _ (by omega)
        have HSF := Lib.hid hsf
        have HV4 := Lib.hid hV4
        have HR64 := Lib.hid r64
        have HA64 := Lib.hid A64
        clear hpx hdm hxa hqa hjv hsf hsx hV4 r64 A64
        go_wp2_with fail
        go_quiet (fail)
        clear z0 lp z1 lx z2 lq s1 s3 l3 y0 y1 ly
        have hb5 := below_drew W4 nq
        have HV5 := Lib.hid (HV4.out.keep hb5)
        have HR65 := Lib.hid (HR64.out.keep hb5)
        have FR5 := Lib.hid (FR4.out.trans (FrN.below hb5))
        clear hb5 HV4 HR64 FR4
        generalize W4.drewN nq = W5 at HV5 HR65 FR5 ⊢
        have y2 : W5.cell? ⟨n6, 2, none⟩ = some (.int .i64 lo) := HR65.out.c 2 _ rfl
        have y3 : W5.cell? ⟨n6, 3, none⟩ = some (.int .i64 hi) := HR65.out.c 3 _ rfl
        have ly := HR65.out.lt
        go_wp2_with fail
        go_quiet (fail)
        clear y2 y3 ly
        have hb6 := below_drew W5 nq
        have HV6 := Lib.hid (HV5.out.keep hb6)
        have HR66 := Lib.hid (HR65.out.keep hb6)
        have FR6 := Lib.hid (FR5.out.trans (FrN.below hb6))
        have HA66 := HA64
        clear hb6 HV5 HR65 FR5 HA64
        generalize W5.drewN nq = W6 at HV6 HR66 FR6 ⊢
        have hwn : IntKind.i64.wrap (-(qa - xa)) = -(qa - xa) := IntWalk.i64_in _ (by unfold gapA at hgb; omega)
        obtain ⟨least, hlst⟩ : ∃ x, x = jv.weight * gapA (qa - xa) := ⟨_, rfl⟩
        have hlb := term_bd hwj.1 hwj.2 hgb.1 hgb.2
        rw [← hlst] at hlb
        have hwl : IntKind.i64.wrap (jv.weight * max (qa - xa) (-(qa - xa))) = least := by
          rw [hlst]
          exact IntWalk.i64_in _ (by have h := hlb; rw [hlst] at h; unfold gapA at h; omega)
        have hsf := HSF.out
        rw [← hlst] at hsf
        clear HSF hlst
        by_cases hg : 0 < qa - xa
        · have hgd : decide (0 < qa - xa) = true := decide_eq_true hg
          have HFS := Lib.hid (hsf.1 hg)
          clear hsf
          have HN0 := Lib.hid (HIH.out hi (l ++ [p0]) v1 W6 (by have := HHI.out; unfold inR at this; omega) (by have := HHI.out; unfold inR at this; omega) (by have := HHI.out; have := HF3.out; unfold inR at *; omega) HV6.out (fun p hp hm => by
            rw [List.mem_append, List.mem_singleton] at hm
            rcases hm with hm | hm
            · exact HPL.out p ((HIN.out p).2 (.inr (.inr hp))) hm
            · exact (HAP.out p).2.2 hp hm))
          unfold wArgs at HN0
          have s6 : W6.cell? ⟨b.b6, 0, none⟩ = some (walkV b) := HV6.out.c6.c 0 _ rfl
          unfold walkV at s6
          have l6b := HV6.out.c6.lt
          go_wp2_with fail
          refine HN0.out.mono ?_
          rintro e W7 ⟨rfl, ext1, v2, hV7, fr7, wr1⟩
          have A67 := HA66.out.stay fr7 HR66.out.lt
          have r67 := HR66.out.keepA fr7 HA66.out
          have FR7 := Lib.hid (FR6.out.trans fr7)
          have HV7 := Lib.hid hV7
          have HW1 := Lib.hid wr1
          have HA67 := Lib.hid A67
          have HR67 := Lib.hid r67
          clear s6 l6b fr7 hV7 wr1 A67 r67 HN0 HV6 HR66 HA66 FR6
          have s0 : W7.cell? ⟨b.b3, 0, none⟩ = some (.slice D.oj D.js.length D.cj) := HV7.out.c3.c 0 _ rfl
          obtain ⟨bj, offj, hoj, hJr⟩ := (HD.out.J.keep HV7.out.bel) (jvals_ne (k := a) (by have := HDIM.out; omega))
          rw [hoj] at s0
          have z8 : W7.cell? ⟨bj, offj + a * 12 + 8, none⟩ = some (.int .i64 jv.weight) := hJr.c a _ (rows_get HJV.out) 8 _ rfl
          have lj := hJr.lt
          have l3 := HV7.out.c3.lt
          have y1 : W7.cell? ⟨n6, 1, none⟩ = some (.int .i64 (a : Nat)) := HR67.out.c 1 _ rfl
          have ly := HR67.out.lt
          have s4 : W7.cell? ⟨b.b4, 0, none⟩ = some (boundV b) := HV7.out.c4.c 0 _ rfl
          unfold boundV at s4
          have l4 := HV7.out.c4.lt
          have HBN := Lib.hid (bound44 HV7.out.nw hpl1024 hk1 hk)
          clear hJr
          go_wp2_with fail
          refine HBN.out.mono ?_
          rintro e W8 ⟨most, bd, nq8, rfl, rfl, hcut⟩
          have hb8 := below_drew W7 nq8
          have HV8 := Lib.hid (HV7.out.keep hb8)
          have FR8 := Lib.hid (FR7.out.trans (FrN.below hb8))
          have HCU := Lib.hid hcut
          clear s0 z8 lj l3 y1 ly s4 l4 HBN hcut hb8 HV7 FR7 HR67 HA67
          generalize W7.drewN nq8 = W8 at HV8 FR8 ⊢
          have s6 : W8.cell? ⟨b.b6, 0, none⟩ = some (walkV b) := HV8.out.c6.c 0 _ rfl
          unfold walkV at s6
          have l6b := HV8.out.c6.lt
          have HN2 := Lib.hid (HIH.out lo (l ++ [p0] ++ ext1) v2 W8 (by have := HLO.out; unfold inR at this; omega) (by have := HLO.out; unfold inR at this; omega) (by have := HLO.out; have := HF3.out; unfold inR at *; omega) HV8.out (fun p hp hm => by
            rw [List.mem_append, List.mem_append, List.mem_singleton] at hm
            rcases hm with (hm | hm) | hm
            · exact HPL.out p ((HIN.out p).2 (.inr (.inl hp))) hm
            · exact (HAP.out p).2.1 hp hm
            · exact (fun x y => (HAP.out p).1 y x) (HW1.out.mem p hm) hp))
          unfold wArgs at HN2
          by_cases hgo : bd = false ∨ least ≤ most
          · have hcnd : (bd = false) ∨ (bd = true ∧ decide (least ≤ most) = true) := by
              rcases hgo with h | h
              · exact .inl h
              · cases bd
                · exact .inl rfl
                · exact .inr ⟨rfl, decide_eq_true h⟩
            clear hgo
            rcases hcnd with hbf | ⟨hbt, hle⟩
            · subst hbf
              go_wp2_with fail
              refine HN2.out.mono ?_
              rintro e W9 ⟨rfl, ext2, v3, hV9, fr9, wr2⟩
              have HF : Hid (WalkP D b w0 (i : Nat) l v W (.returned (.tuple #[])) W9) := Lib.hid ⟨rfl, [p0] ++ ext1 ++ ext2, v3, by rw [show l ++ ([p0] ++ ext1 ++ ext2) = l ++ [p0] ++ ext1 ++ ext2 by simp]; exact hV9, FR8.out.trans fr9, WalkR.node HX.out HLO.out HHI.out (.inr ⟨rfl, rfl⟩) HW1.out (.inl wr2)⟩
              clear hV9 fr9 wr2
              go_wp2_with fail
              refine bodyPost_end (v := .tuple #[]) (by simp [results, Tryz.results66, go_sem]) rfl ?_
              exact HF.out
            · subst hbt
              go_wp2_with fail
              refine HN2.out.mono ?_
              rintro e W9 ⟨rfl, ext2, v3, hV9, fr9, wr2⟩
              have HF : Hid (WalkP D b w0 (i : Nat) l v W (.returned (.tuple #[])) W9) := Lib.hid ⟨rfl, [p0] ++ ext1 ++ ext2, v3, by rw [show l ++ ([p0] ++ ext1 ++ ext2) = l ++ [p0] ++ ext1 ++ ext2 by simp]; exact hV9, FR8.out.trans fr9, WalkR.node HX.out HLO.out HHI.out (.inr ⟨rfl, rfl⟩) HW1.out (.inl wr2)⟩
              clear hV9 fr9 wr2
              go_wp2_with fail
              refine bodyPost_end (v := .tuple #[]) (by simp [results, Tryz.results66, go_sem]) rfl ?_
              exact HF.out
          · have hbt : bd = true := by cases bd <;> simp_all
            have hle : decide (least ≤ most) = false := decide_eq_false (fun h => hgo (.inr h))
            have hml : most < least := by
              have : ¬ least ≤ most := fun h => hgo (.inr h)
              omega
            have HSK : Hid (∀ p, PtIn D.t lo p → Skip b.k (dP D.js D.q D.pts) (l ++ [p0] ++ ext1) p) := Lib.hid fun p hp => ⟨l ++ [p0] ++ ext1, [], most, by simp, HCU.out hbt, Int.lt_of_lt_of_le hml (HFS.out p hp)⟩
            have HF : Hid (WalkP D b w0 (i : Nat) l v W (.returned (.tuple #[])) W8) := Lib.hid ⟨rfl, [p0] ++ ext1 ++ [], v2, by rw [show l ++ ([p0] ++ ext1 ++ []) = l ++ [p0] ++ ext1 by simp]; exact HV8.out, FR8.out, WalkR.node HX.out HLO.out HHI.out (.inr ⟨rfl, rfl⟩) HW1.out (.inr ⟨rfl, HSK.out⟩)⟩
            subst hbt
            clear hgo hml
            go_wp2_with fail
            refine bodyPost_end (v := .tuple #[]) (by simp [results, Tryz.results66, go_sem]) rfl ?_
            exact HF.out
        · have hgd : decide (0 < qa - xa) = false := decide_eq_false hg
          have HFS := Lib.hid (hsf.2 (by omega))
          clear hsf
          have HN0 := Lib.hid (HIH.out lo (l ++ [p0]) v1 W6 (by have := HLO.out; unfold inR at this; omega) (by have := HLO.out; unfold inR at this; omega) (by have := HLO.out; have := HF3.out; unfold inR at *; omega) HV6.out (fun p hp hm => by
            rw [List.mem_append, List.mem_singleton] at hm
            rcases hm with hm | hm
            · exact HPL.out p ((HIN.out p).2 (.inr (.inl hp))) hm
            · exact (HAP.out p).2.1 hp hm))
          unfold wArgs at HN0
          have s6 : W6.cell? ⟨b.b6, 0, none⟩ = some (walkV b) := HV6.out.c6.c 0 _ rfl
          unfold walkV at s6
          have l6b := HV6.out.c6.lt
          go_wp2_with fail
          refine HN0.out.mono ?_
          rintro e W7 ⟨rfl, ext1, v2, hV7, fr7, wr1⟩
          have A67 := HA66.out.stay fr7 HR66.out.lt
          have r67 := HR66.out.keepA fr7 HA66.out
          have FR7 := Lib.hid (FR6.out.trans fr7)
          have HV7 := Lib.hid hV7
          have HW1 := Lib.hid wr1
          have HA67 := Lib.hid A67
          have HR67 := Lib.hid r67
          clear s6 l6b fr7 hV7 wr1 A67 r67 HN0 HV6 HR66 HA66 FR6
          have s0 : W7.cell? ⟨b.b3, 0, none⟩ = some (.slice D.oj D.js.length D.cj) := HV7.out.c3.c 0 _ rfl
          obtain ⟨bj, offj, hoj, hJr⟩ := (HD.out.J.keep HV7.out.bel) (jvals_ne (k := a) (by have := HDIM.out; omega))
          rw [hoj] at s0
          have z8 : W7.cell? ⟨bj, offj + a * 12 + 8, none⟩ = some (.int .i64 jv.weight) := hJr.c a _ (rows_get HJV.out) 8 _ rfl
          have lj := hJr.lt
          have l3 := HV7.out.c3.lt
          have y1 : W7.cell? ⟨n6, 1, none⟩ = some (.int .i64 (a : Nat)) := HR67.out.c 1 _ rfl
          have ly := HR67.out.lt
          have s4 : W7.cell? ⟨b.b4, 0, none⟩ = some (boundV b) := HV7.out.c4.c 0 _ rfl
          unfold boundV at s4
          have l4 := HV7.out.c4.lt
          have HBN := Lib.hid (bound44 HV7.out.nw hpl1024 hk1 hk)
          clear hJr
          go_wp2_with fail
          refine HBN.out.mono ?_
          rintro e W8 ⟨most, bd, nq8, rfl, rfl, hcut⟩
          have hb8 := below_drew W7 nq8
          have HV8 := Lib.hid (HV7.out.keep hb8)
          have FR8 := Lib.hid (FR7.out.trans (FrN.below hb8))
          have HCU := Lib.hid hcut
          clear s0 z8 lj l3 y1 ly s4 l4 HBN hcut hb8 HV7 FR7 HR67 HA67
          generalize W7.drewN nq8 = W8 at HV8 FR8 ⊢
          have s6 : W8.cell? ⟨b.b6, 0, none⟩ = some (walkV b) := HV8.out.c6.c 0 _ rfl
          unfold walkV at s6
          have l6b := HV8.out.c6.lt
          have HN2 := Lib.hid (HIH.out hi (l ++ [p0] ++ ext1) v2 W8 (by have := HHI.out; unfold inR at this; omega) (by have := HHI.out; unfold inR at this; omega) (by have := HHI.out; have := HF3.out; unfold inR at *; omega) HV8.out (fun p hp hm => by
            rw [List.mem_append, List.mem_append, List.mem_singleton] at hm
            rcases hm with (hm | hm) | hm
            · exact HPL.out p ((HIN.out p).2 (.inr (.inr hp))) hm
            · exact (HAP.out p).2.2 hp hm
            · exact (fun x y => (HAP.out p).1 x y) (HW1.out.mem p hm) hp))
          unfold wArgs at HN2
          by_cases hgo : bd = false ∨ least ≤ most
          · have hcnd : (bd = false) ∨ (bd = true ∧ decide (least ≤ most) = true) := by
              rcases hgo with h | h
              · exact .inl h
              · cases bd
                · exact .inl rfl
                · exact .inr ⟨rfl, decide_eq_true h⟩
            clear hgo
            rcases hcnd with hbf | ⟨hbt, hle⟩
            · subst hbf
              go_wp2_with fail
              refine HN2.out.mono ?_
              rintro e W9 ⟨rfl, ext2, v3, hV9, fr9, wr2⟩
              have HF : Hid (WalkP D b w0 (i : Nat) l v W (.returned (.tuple #[])) W9) := Lib.hid ⟨rfl, [p0] ++ ext1 ++ ext2, v3, by rw [show l ++ ([p0] ++ ext1 ++ ext2) = l ++ [p0] ++ ext1 ++ ext2 by simp]; exact hV9, FR8.out.trans fr9, WalkR.node HX.out HLO.out HHI.out (.inl ⟨rfl, rfl⟩) HW1.out (.inl wr2)⟩
              clear hV9 fr9 wr2
              go_wp2_with fail
              refine bodyPost_end (v := .tuple #[]) (by simp [results, Tryz.results66, go_sem]) rfl ?_
              exact HF.out
            · subst hbt
              go_wp2_with fail
              refine HN2.out.mono ?_
              rintro e W9 ⟨rfl, ext2, v3, hV9, fr9, wr2⟩
              have HF : Hid (WalkP D b w0 (i : Nat) l v W (.returned (.tuple #[])) W9) := Lib.hid ⟨rfl, [p0] ++ ext1 ++ ext2, v3, by rw [show l ++ ([p0] ++ ext1 ++ ext2) = l ++ [p0] ++ ext1 ++ ext2 by simp]; exact hV9, FR8.out.trans fr9, WalkR.node HX.out HLO.out HHI.out (.inl ⟨rfl, rfl⟩) HW1.out (.inl wr2)⟩
              clear hV9 fr9 wr2
              go_wp2_with fail
              refine bodyPost_end (v := .tuple #[]) (by simp [results, Tryz.results66, go_sem]) rfl ?_
              exact HF.out
          · have hbt : bd = true := by cases bd <;> simp_all
            have hle : decide (least ≤ most) = false := decide_eq_false (fun h => hgo (.inr h))
            have hml : most < least := by
              have : ¬ least ≤ most := fun h => hgo (.inr h)
              omega
            have HSK : Hid (∀ p, PtIn D.t hi p → Skip b.k (dP D.js D.q D.pts) (l ++ [p0] ++ ext1) p) := Lib.hid fun p hp => ⟨l ++ [p0] ++ ext1, [], most, by simp, HCU.out hbt, Int.lt_of_lt_of_le hml (HFS.out p hp)⟩
            have HF : Hid (WalkP D b w0 (i : Nat) l v W (.returned (.tuple #[])) W8) := Lib.hid ⟨rfl, [p0] ++ ext1 ++ [], v2, by rw [show l ++ ([p0] ++ ext1 ++ []) = l ++ [p0] ++ ext1 by simp]; exact HV8.out, FR8.out, WalkR.node HX.out HLO.out HHI.out (.inl ⟨rfl, rfl⟩) HW1.out (.inr ⟨rfl, HSK.out⟩)⟩
            subst hbt
            clear hgo hml
            go_wp2_with fail
            refine bodyPost_end (v := .tuple #[]) (by simp [results, Tryz.results66, go_sem]) rfl ?_
            exact HF.out
end Go.Proofs.Ng
end

section
/-
  Walks: the search.
-/
namespace Go.Proofs.Ng
open Go.RowKit

def Dat.box (D : Dat) : Value := .agg #[.slice D.oj D.js.length D.cj, .slice D.op D.pts.length D.cp, .slice D.ot D.t.length D.ct, .slice D.oq D.q.length D.cq]
/-- What the search answers. -/
def VisP (D : Dat) (base hB g11 gD b12 b9 k : Nat) (w0 : World) (v : Value) (W : World) (e : Ending) (W' : World) : Prop :=
  e = .returned (.tuple #[]) ∧ ∃ ext v', NW base hB g11 gD D.pts.length b12 b9 k (dP D.js D.q D.pts) ext v' W' ∧ FrN hB gD v v' W W' ∧ Below w0.heap.size w0 W' ∧ (D.t = [] ∧ ext = [] ∨ WalkR k (dP D.js D.q D.pts) D.t 0 [] ext)
def boundF (b12 b9 g11 : Nat) : Value := .func (.func 44) #[] #[.pointer (some ⟨b12, 0, none⟩), .pointer (some ⟨b9, 0, none⟩), .pointer (some ⟨g11, 0, none⟩)]
def takeF (b12 b9 g11 : Nat) : Value := .func (.func 46) #[] #[.pointer (some ⟨g11, 0, none⟩), .pointer (some ⟨b12, 0, none⟩), .pointer (some ⟨b9, 0, none⟩)]
theorem four (W : World) (c3 c4 c5 c6 : List Value) (t3 t4 t5 t6 : Nat) (W' : World) (h : W' = (((W.alloc (.cells c3.toArray t3)).alloc (.cells c4.toArray t4)).alloc (.cells c5.toArray t5)).alloc (.cells c6.toArray t6)) :
    Below W.heap.size W W' ∧ Blk W' W.heap.size c3 ∧ Blk W' (W.heap.size + 1) c4 ∧ Blk W' (W.heap.size + 1 + 1) c5 ∧ Blk W' (W.heap.size + 1 + 1 + 1) c6 := by
  obtain ⟨A, hA⟩ : ∃ A, A = W.alloc (.cells c3.toArray t3) := ⟨_, rfl⟩
  obtain ⟨B, hB⟩ : ∃ B, B = A.alloc (.cells c4.toArray t4) := ⟨_, rfl⟩
  obtain ⟨C, hC⟩ : ∃ C, C = B.alloc (.cells c5.toArray t5) := ⟨_, rfl⟩
  rw [← hA, ← hB, ← hC] at h
  have b1 : Below W.heap.size W A := by rw [hA]; exact (Below.refl _ _).alloc (Nat.le_refl _) _
  have b2 : Below A.heap.size A B := by rw [hB]; exact (Below.refl _ _).alloc (Nat.le_refl _) _
  have b3 : Below B.heap.size B C := by rw [hC]; exact (Below.refl _ _).alloc (Nat.le_refl _) _
  have b4 : Below C.heap.size C W' := by rw [h]; exact (Below.refl _ _).alloc (Nat.le_refl _) _
  have s1 : A.heap.size = W.heap.size + 1 := by rw [hA]; simp
  have s2 : B.heap.size = W.heap.size + 1 + 1 := by rw [hB]; simp [s1]
  have s3 : C.heap.size = W.heap.size + 1 + 1 + 1 := by rw [hC]; simp [s2]
  have r1 : Blk A W.heap.size c3 := by rw [hA]; exact Blk.new W c3 t3
  have r2 : Blk B A.heap.size c4 := by rw [hB]; exact Blk.new A c4 t4
  have r3 : Blk C B.heap.size c5 := by rw [hC]; exact Blk.new B c5 t5
  have r4 : Blk W' C.heap.size c6 := by rw [h]; exact Blk.new C c6 t6
  rw [← s3, ← s2, ← s1]
  exact ⟨below_call (below_call (below_call b1 b2) b3) b4, ((r1.keep b2).keep b3).keep b4, (r2.keep b3).keep b4, r3.keep b4, r4⟩
set_option maxRecDepth 100000 in
set_option maxHeartbeats 2000000 in
theorem visit43 {D : Dat} {w0 : World} {base hB g11 gD b12 b9 k : Nat} {v : Value} {W : World} (hD : DatOk D w0) (hk1 : 1 ≤ k) (hk : k ≤ 9223372036854775807)
    (hN : NW base hB g11 gD D.pts.length b12 b9 k (dP D.js D.q D.pts) [] v W) (hb : Below w0.heap.size w0 W) (h0 : w0.heap.size ≤ hB ∧ w0.heap.size ≤ gD ∧ w0.heap.size ≤ base) :
    Calls Tryz.prog 35 #[D.box, boundF b12 b9 g11, takeF b12 b9 g11] W (VisP D base hB g11 gD b12 b9 k w0 v W) := by
  have hsf : ∀ (a : Addr) (fn : Fn) (x y : Array Value) (u : World), (store a (.func fn x y)).run Tryz.prog u = stored Tryz.prog u a (.func fn x y) .plain := fun a fn x y u => run_store Tryz.prog u a (.func fn x y) .plain rfl
  have HN := Lib.hid hN
  have HB := Lib.hid hb
  have HD := Lib.hid hD
  have H0 := Lib.hid h0
  clear hN hb hD h0
  unfold Dat.box boundF takeF
  go_enter Tryz.func35, Tryz.ntmps35
  go_upto_region 3 with fail
  obtain ⟨W1, hW1⟩ : ∃ W1, W1 = ((((W.alloc (.cells #[.slice D.oj D.js.length D.cj, .slice D.op D.pts.length D.cp, .slice D.ot D.t.length D.ct, .slice D.oq D.q.length D.cq] 60)).alloc (.cells #[.func (.func 44) #[] #[.pointer (some ⟨b12, 0, none⟩), .pointer (some ⟨b9, 0, none⟩), .pointer (some ⟨g11, 0, none⟩)]] 62)).alloc (.cells #[.func (.func 46) #[] #[.pointer (some ⟨g11, 0, none⟩), .pointer (some ⟨b12, 0, none⟩), .pointer (some ⟨b9, 0, none⟩)]] 63)).alloc (.cells #[.func (.func 66) #[] #[.pointer (some ⟨W.heap.size, 0, none⟩), .pointer (some ⟨W.heap.size + 1 + 1, 0, none⟩), .pointer (some ⟨W.heap.size + 1 + 1 + 1, 0, none⟩), .pointer (some ⟨W.heap.size + 1, 0, none⟩)]] 72)) := ⟨_, rfl⟩
  rw [← hW1]
  obtain ⟨b, hbx⟩ : ∃ b : Bx, b = ⟨base, hB, g11, gD, b12, b9, W.heap.size, W.heap.size + 1, W.heap.size + 1 + 1, W.heap.size + 1 + 1 + 1, k⟩ := ⟨_, rfl⟩
  have hV : VW D b w0 [] v W1 ∧ Below W.heap.size W W1 := by
    obtain ⟨q0, q3, q4, q5, q6⟩ := four W D.vals [boundV b] [takeV b] [walkV b] 60 62 63 72 W1 (by rw [hW1, hbx]; rfl)
    have hap : ∀ n : Nat, W.heap.size ≤ n → Apart b v n := fun n hn => by
      obtain ⟨ds, hp, k0, _⟩ := HN.out.ex
      have o1 := k0.o1; have o3 := k0.o3; have ob := k0.hb
      rw [hbx]
      exact ⟨by show n ≠ hB; omega, by show n ≠ gD; omega, fun e2 => by have := (own_lt k0.own n e2).1; omega⟩
    refine ⟨?_, q0⟩
    rw [hbx] at hap q4 q5 q6 ⊢
    exact ⟨HN.out.keep q0, below_call HB.out q0, q3, q4, q5, q6, hap _ (by show W.heap.size ≤ W.heap.size; omega), hap _ (by show W.heap.size ≤ W.heap.size + 1; omega), hap _ (by show W.heap.size ≤ W.heap.size + 1 + 1; omega), hap _ (by show W.heap.size ≤ W.heap.size + 1 + 1 + 1; omega), H0.out⟩
  obtain ⟨hV, hb1⟩ := hV
  have hfr : FrN hB gD v v W W1 := FrN.below hb1
  have s2 : W1.cell? ⟨b.b3, 2, none⟩ = some (.slice D.ot D.t.length D.ct) := hV.c3.c 2 _ rfl
  have s6 : W1.cell? ⟨b.b6, 0, none⟩ = some (walkV b) := hV.c6.c 0 _ rfl
  have l3 := hV.c3.lt
  have l6 := hV.c6.lt
  have e3 : b.b3 = W.heap.size := by rw [hbx]
  have e4 : b.b4 = W.heap.size + 1 := by rw [hbx]
  have e5 : b.b5 = W.heap.size + 1 + 1 := by rw [hbx]
  have e6 : b.b6 = W.heap.size + 1 + 1 + 1 := by rw [hbx]
  rw [← e6, ← e5, ← e4, ← e3]
  have HBX := Lib.hid hbx
  have HV := Lib.hid hV
  have HFR := Lib.hid hfr
  unfold walkV at s6
  clear hW1 hbx hV hb1 hfr e3 e4 e5 e6 hsf
  by_cases ht : D.t = []
  · have hlen : (decide ((0 : Int) < (D.t.length : Int))) = false := by rw [ht]; rfl
    have hlen2 : decide (0 < D.t.length) = false := by rw [ht]; rfl
    have HF : Hid (VisP D base hB g11 gD b12 b9 k w0 v W (.returned (.tuple #[])) W1) := Lib.hid (by
      have h := HV.out
      rw [HBX.out] at h
      exact ⟨rfl, [], v, h.nw, HFR.out, h.bel, .inl ⟨ht, rfl⟩⟩)
    clear ht
    go_wp2_with fail
    refine bodyPost_end (v := .tuple #[]) (by simp [results, Tryz.results35, go_sem]) rfl ?_
    exact HF.out
  · have hpos : 0 < D.t.length := List.length_pos_iff.2 ht
    have hlen : (decide ((0 : Int) < (D.t.length : Int))) = true := decide_eq_true (by omega)
    have hlen2 : decide (0 < D.t.length) = true := decide_eq_true hpos
    have hbk : b.k = k := by rw [HBX.out]
    have HW := Lib.hid (walk62 HD.out (b := b) (by omega) (by omega) D.t.length 0 [] v W1 (by omega) (by omega) (.inl (by omega)) HV.out (fun _ _ h => by cases h))
    clear ht hbk
    unfold wArgs at HW
    go_wp2_with fail
    refine HW.out.mono ?_
    rintro e W2 ⟨rfl, ext, v2, hV2, fr2, wr⟩
    have HF : Hid (VisP D base hB g11 gD b12 b9 k w0 v W (.returned (.tuple #[])) W2) := Lib.hid (by
      rw [HBX.out] at hV2 fr2 wr
      exact ⟨rfl, ext, v2, hV2.nw, HFR.out.trans fr2, hV2.bel, .inr wr⟩)
    clear hV2 fr2 wr
    go_wp2_with fail
    refine bodyPost_end (v := .tuple #[]) (by simp [results, Tryz.results35, go_sem]) rfl ?_
    exact HF.out
end Go.Proofs.Ng
end

section
/-
  Walks: Valid.
-/
namespace Go.Proofs.Ng
open Go.RowKit

theorem catch32 (p : Addr) (w : World) :
    CallsD Tryz.prog 52 #[.pointer (some p)] .returning w fun e u' w' => e = .returned (.tuple #[]) ∧ u' = .returning ∧ w' = w := by
  refine callsD_of_wpS Tryz.func52 rfl fun c₀ cs hu => ?_
  apply wpS_seq
  apply wpS_region
  simp [wpOpsS, go_sem, recoverD, hu, Tryz.ntmps52, Exit.thenS]
  refine wpS_cond (t := false) (by simp [Act.eval, Array.replicate]) ?_
  simp only [Bool.false_eq_true, if_false]
  refine wpS_of_wp (wp_skip ?_)
  cases c₀
  simp_all [bodyPostS, results, Tryz.results52]
set_option maxRecDepth 100000 in
set_option maxHeartbeats 4000000 in
theorem valid13 (oa ot : Option Addr) (ca ct : Nat) (pts : List (List Int)) (t : List Nd) (w : World) (hP : Pts w oa pts) (hT : Sl w ot 4 (t.map Nd.vals)) (htl : t.length ≤ 100000) (hpl : pts.length ≤ 100000) :
    Calls Tryz.prog 17 #[.slice oa pts.length ca, .slice ot t.length ct] w (VerP (KdOk pts t) w) := by
  have hmf : ∀ (fn : Fn) (first cap : Array Value) (w : World), (Instr.makeFunc fn first cap).run Tryz.prog w = .ok (.func fn first cap) w := fun _ _ _ _ => rfl
  have h25 := fun X hX => validPoints25 oa ca pts X (hP.keep hX)
  have HPP := Lib.hid hP
  have HTT := Lib.hid hT
  clear hP hT
  cases hv : vpB pts with
  | false =>
    rw [hv] at h25
    have HNO : Hid (¬ KdOk pts t) := Lib.hid (fun h => by have := h.1; rw [hv] at this; cases this)
    have HB25 := Lib.hid h25
    clear h25 hv
    go_enter_defers Tryz.func17, Tryz.ntmps17
    go_upto_region 2 with fail
    have hbx_ := blks1 w [.bool false] 4
    have HB := Lib.hid (hbx_.2)
    have hod : w.heap.size ≤ w.heap.size := by omega
    generalize w.alloc (.cells #[.bool false] 4) = W1 at hbx_ HB ⊢
    obtain ⟨r4, hbel_⟩ := hbx_
    obtain ⟨n4, hn_⟩ : ∃ n, n = w.heap.size := ⟨_, rfl⟩
    rw [← hn_] at r4 ⊢
    replace hod := Nat.le_of_eq hn_.symm
    clear hn_ hbel_
    have a0 : W1.cell? ⟨n4, 0, none⟩ = some (.bool false) := r4.c 0 _ rfl
    have l4 := r4.lt
    have f4 := r4.f 0
    have HO := Lib.hid hod
    have H25 := Lib.hid (HB25.out W1 HB.out)
    clear r4 hod
    go_wp2_with fail
    with_reducible refine H25.out.mono ?_
    rintro e W2 ⟨rfl, rfl⟩
    go_wp2_with fail
    have hla : (W2.setCell ⟨n4, 0, none⟩ (.bool false)).cell? ⟨n4, 0, none⟩ = some (.bool false) := World.cell?_setCell_same W2 ⟨n4, 0, none⟩ _ a0
    refine leaves_cons (f := 52) (args := #[.pointer (some ⟨n4, 0, none⟩)]) (by simp) (by simp [go_sem]) ?_
    refine (catch32 _ _).mono ?_
    rintro e u' w'' ⟨rfl, rfl, rfl⟩
    simp [Leaves, settle, results, Tryz.results17, go_sem, hla]
    exact verP_no HNO.out (HB.out.setCell (p := ⟨n4, 0, none⟩) HO.out _)
  | true =>
    rw [hv] at h25
    have HB25 := Lib.hid h25
    clear h25
    by_cases hl : t.length = pts.length
    · have hp := fun X (hX : Below w.heap.size w X) => parents33 oa ot ca ct pts t X (HPP.out.keep hX) (HTT.out.keep hX) hl hv
      have hd0 : ((t.length : Int) != (pts.length : Int)) = false := by simp [hl]
      have HPA := Lib.hid hp
      have HOR := Lib.hid (fun (hK : KdS (dimP pts) t) (g cg : Nat) (ab : List Int) (hab : AbOk t ab) (X : World) (hX : Below w.heap.size w X) (hB : Blk X g (pflat ab)) => ordered34 oa ot ca ct g cg pts t ab X (HPP.out.keep hX) (HTT.out.keep hX) hl hv hK hab hB)
      have HL := Lib.hid hl
      have HV := Lib.hid hv
      clear hp hl hv
      go_enter_defers Tryz.func17, Tryz.ntmps17
      go_upto_region 2 with fail
      have hbx_ := blks1 w [.bool false] 4
      have HB := Lib.hid (hbx_.2)
      have hod : w.heap.size ≤ w.heap.size := by omega
      generalize w.alloc (.cells #[.bool false] 4) = W1 at hbx_ HB ⊢
      obtain ⟨r4, hbel_⟩ := hbx_
      obtain ⟨n4, hn_⟩ : ∃ n, n = w.heap.size := ⟨_, rfl⟩
      rw [← hn_] at r4 ⊢
      replace hod := Nat.le_of_eq hn_.symm
      clear hn_ hbel_
      have HO := Lib.hid hod
      have H25 := Lib.hid (HB25.out W1 HB.out)
      have HR4 := Lib.hid r4
      clear r4 hod
      go_wp2_with fail
      with_reducible refine H25.out.mono ?_
      rintro e W2 ⟨rfl, rfl⟩
      have HPB := Lib.hid (HPA.out W2 HB.out)
      go_upto_region 4 with fail
      have a0 : W2.cell? ⟨n4, 0, none⟩ = some (.bool false) := HR4.out.c 0 _ rfl
      have l4 := HR4.out.lt
      have f4 := HR4.out.f 0
      clear HPA H25 HB25
      go_wp2_with fail
      have L4 := Lib.hid l4
      clear a0 l4 f4
      with_reducible refine HPB.out.mono ?_
      clear HPB
      rintro e W3 ⟨hb3, h3⟩
      have hB3 := below_call HB.out hb3
      have r4 := HR4.out.keep hb3
      clear HB HR4 hb3
      rcases h3 with ⟨hno, rfl⟩ | ⟨g, ab, hK, rfl, hlg, hBk, hab⟩
      · have HNO : Hid (¬ KdOk pts t) := Lib.hid (fun h => hno h.2.2.1)
        have a0 : W3.cell? ⟨n4, 0, none⟩ = some (.bool false) := r4.c 0 _ rfl
        have l4 := r4.lt
        have f4 := r4.f 0
        have hla : ((W3.setCell ⟨n4, 0, none⟩ (.bool false)).setCell ⟨n4, 0, none⟩ (.bool false)).cell? ⟨n4, 0, none⟩ = some (.bool false) := World.cell?_setCell_same _ ⟨n4, 0, none⟩ _ (World.cell?_setCell_same W3 ⟨n4, 0, none⟩ _ a0)
        have HB3 := Lib.hid hB3
        clear r4 hno hB3
        go_wp2_with fail
        refine leaves_cons (f := 52) (args := #[.pointer (some ⟨n4, 0, none⟩)]) (by simp) (by simp [go_sem]) ?_
        refine (catch32 _ _).mono ?_
        rintro e u' w'' ⟨rfl, rfl, rfl⟩
        simp [Leaves, settle, results, Tryz.results17, go_sem, hla]
        exact verP_no HNO.out ((HB3.out.setCell (p := ⟨n4, 0, none⟩) HO.out _).setCell (p := ⟨n4, 0, none⟩) HO.out _)
      · have hne : g ≠ n4 := by have := L4.out; omega
        have hor := HOR.out hK g t.length ab hab (W3.setCell ⟨n4, 0, none⟩ (.bool true)) (hB3.setCell (p := ⟨n4, 0, none⟩) HO.out _) (hBk.keepG (grown_set W3 n4 0 (.bool true)) hne)
        have r5 := r4.put 0 (.bool true)
        have HB4 := Lib.hid (hB3.setCell (p := ⟨n4, 0, none⟩) HO.out (.bool true))
        have a0 : W3.cell? ⟨n4, 0, none⟩ = some (.bool false) := r4.c 0 _ rfl
        have l4 := r4.lt
        have f4 := r4.f 0
        have HR5 := Lib.hid r5
        have HOK := Lib.hid hor
        have HKK := Lib.hid hK
        clear HOR hB3 r4 r5 hBk hab hor hne hK
        go_wp2_with fail
        with_reducible refine HOK.out.mono ?_
        rintro e W5 ⟨b, rfl, hb, hb5⟩
        have r6 := HR5.out.keep hb5
        simp only [List.set_cons_zero] at r6
        clear a0 l4 f4
        have a0 : W5.cell? ⟨n4, 0, none⟩ = some (.bool true) := r6.c 0 _ rfl
        have l4 := r6.lt
        have f4 := r6.f 0
        have hla : (W5.setCell ⟨n4, 0, none⟩ (.bool b)).cell? ⟨n4, 0, none⟩ = some (.bool b) := World.cell?_setCell_same W5 ⟨n4, 0, none⟩ _ a0
        have HB5 := Lib.hid (below_call HB4.out hb5)
        have HBB := Lib.hid hb
        clear r6 hb hb5 HOK HR5 HB4
        go_wp2_with fail
        refine leaves_cons (f := 52) (args := #[.pointer (some ⟨n4, 0, none⟩)]) (by simp) (by simp [go_sem]) ?_
        refine (catch32 _ _).mono ?_
        rintro e u' w'' ⟨rfl, rfl, rfl⟩
        simp [Leaves, settle, results, Tryz.results17, go_sem, hla]
        exact verP_at (HBB.out.trans ⟨fun h => ⟨HV.out, HL.out, HKK.out, h⟩, fun h => h.2.2.2⟩) (HB5.out.setCell (p := ⟨n4, 0, none⟩) HO.out _)
    · have hd0 : ((t.length : Int) != (pts.length : Int)) = true := by simp; omega
      have HNO : Hid (¬ KdOk pts t) := Lib.hid (fun h => hl h.2.1)
      clear hl
      go_enter_defers Tryz.func17, Tryz.ntmps17
      go_upto_region 2 with fail
      have hbx_ := blks1 w [.bool false] 4
      have HB := Lib.hid (hbx_.2)
      have hod : w.heap.size ≤ w.heap.size := by omega
      generalize w.alloc (.cells #[.bool false] 4) = W1 at hbx_ HB ⊢
      obtain ⟨r4, hbel_⟩ := hbx_
      obtain ⟨n4, hn_⟩ : ∃ n, n = w.heap.size := ⟨_, rfl⟩
      rw [← hn_] at r4 ⊢
      replace hod := Nat.le_of_eq hn_.symm
      clear hn_ hbel_
      have a0 : W1.cell? ⟨n4, 0, none⟩ = some (.bool false) := r4.c 0 _ rfl
      have l4 := r4.lt
      have f4 := r4.f 0
      have HO := Lib.hid hod
      have H25 := Lib.hid (HB25.out W1 HB.out)
      clear r4 hod
      go_wp2_with fail
      with_reducible refine H25.out.mono ?_
      rintro e W2 ⟨rfl, rfl⟩
      go_wp2_with fail
      have hla : (W2.setCell ⟨n4, 0, none⟩ (.bool false)).cell? ⟨n4, 0, none⟩ = some (.bool false) := World.cell?_setCell_same W2 ⟨n4, 0, none⟩ _ a0
      refine leaves_cons (f := 52) (args := #[.pointer (some ⟨n4, 0, none⟩)]) (by simp) (by simp [go_sem]) ?_
      refine (catch32 _ _).mono ?_
      rintro e u' w'' ⟨rfl, rfl, rfl⟩
      simp [Leaves, settle, results, Tryz.results17, go_sem, hla]
      exact verP_no HNO.out (HB.out.setCell (p := ⟨n4, 0, none⟩) HO.out _)
end Go.Proofs.Ng
end

