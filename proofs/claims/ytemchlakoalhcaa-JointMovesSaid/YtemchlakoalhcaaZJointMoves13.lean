/-
  Texts put together: Ca Cb Cc Cd Da.
-/
import Derived.Test.YtemchlakoalhcaaZJointMoves12
set_option linter.unusedVariables false
section
/-
  A box of two rows that are being made, beside the maker's source.
-/
namespace Go.Proofs.Jn
open Go.RowKit

theorem Src.keep {W W' : World} {nS : Nat} {os : Option Addr} {cap : Nat} {xs : List Int} (h : Src W nS os cap xs) (hb : Below W.heap.size W W') : Src W' nS os cap xs := h.keepB hb
theorem Sl.keepG {W W' : World} {oa : Option Addr} {n nS : Nat} {rows : List (List Value)} (h : Sl W oa n rows) (hg : W.grownBy W' (some nS)) (hne : ∀ b o s, oa = some ⟨b, o, s⟩ → b ≠ nS) : Sl W' oa n rows := by
  intro h0
  obtain ⟨b, off, e, h1⟩ := h h0
  exact ⟨b, off, e, h1.keepG hg (hne b off none e)⟩
structure Bx2 (w : World) (nS n3 : Nat) (os : Option Addr) (cap : Nat) (xs : List Int) (e1 s1 e2 s2 : Nat) (r1 r2 : List (List Value)) (v u : Value) (W : World) : Prop where
  gr : w.grownBy W (some nS)
  src : Src W nS os cap xs
  b3 : Blk W n3 [v, u]
  o1 : W.ownsRow (n3 + 1) e1 s1 v r1.length r1.flatten
  o2 : W.ownsRow (n3 + 1) e2 s2 u r2.length r2.flatten
  ap : ∀ g, v.ownBlock = some g → u.ownBlock ≠ some g
  hb : n3 + 1 ≤ W.heap.size
  i0 : Sl w os 1 (pvals xs)
  hs : nS < w.heap.size
  h3 : w.heap.size ≤ n3
section
variable {w W W' W1 : World} {nS n3 : Nat} {os : Option Addr} {cap : Nat} {xs : List Int} {e1 s1 e2 s2 : Nat} {r1 r2 : List (List Value)} {v u : Value}
theorem Bx2.call (h : Bx2 w nS n3 os cap xs e1 s1 e2 s2 r1 r2 v u W) (hg : W.grownBy W' (some nS)) (hS : Src W' nS os cap xs) : Bx2 w nS n3 os cap xs e1 s1 e2 s2 r1 r2 v u W' := by
  have hs := h.hs; have h3 := h.h3
  exact ⟨grown_trans h.gr hg, hS, h.b3.keepG hg (by omega), own_blk h.o1 fun g _ hl hb => hg.block g hl (fun e => by injection e; omega), own_blk h.o2 fun g _ hl hb => hg.block g hl (fun e => by injection e; omega), h.ap, Nat.le_trans h.hb hg.size, h.i0, hs, h3⟩
theorem Bx2.bel (h : Bx2 w nS n3 os cap xs e1 s1 e2 s2 r1 r2 v u W) (hg : Below W.heap.size W W') : Bx2 w nS n3 os cap xs e1 s1 e2 s2 r1 r2 v u W' :=
  ⟨grown_trans h.gr (grown_of_below hg), h.src.keepB hg, h.b3.keep hg, own_keep h.o1 hg, own_keep h.o2 hg, h.ap, Nat.le_trans h.hb hg.size, h.i0, h.hs, h.h3⟩
theorem Bx2.keep (h : Bx2 w nS n3 os cap xs e1 s1 e2 s2 r1 r2 v u W) (hg : Below W.heap.size W W') : Bx2 w nS n3 os cap xs e1 s1 e2 s2 r1 r2 v u W' := h.bel hg
theorem Bx2.new (W : World) (nS : Nat) (os : Option Addr) (cap : Nat) (xs : List Int) (e1 s1 e2 s2 : Nat) (t : TypeId) (hS : Src W nS os cap xs) :
    Bx2 W nS W.heap.size os cap xs e1 s1 e2 s2 [] [] (.slice none 0 0) (.slice none 0 0) (W.alloc (.cells #[.slice none 0 0, .slice none 0 0] t)) := by
  have hb1 : Below W.heap.size W (W.alloc (.cells #[.slice none 0 0, .slice none 0 0] t)) := (Below.refl _ _).alloc (Nat.le_refl _) _
  exact ⟨grown_of_below hb1, hS.keepB hb1, Blk.new W [.slice none 0 0, .slice none 0 0] t, World.ownsRow_nil _ _ _ _, World.ownsRow_nil _ _ _ _, (fun g h => by cases h), by simp, hS.ints, src_lt hS, Nat.le_refl _⟩
theorem flat_snoc (r : List (List Value)) (l : List Value) : (r ++ [l]).flatten = r.flatten ++ l := by simp
theorem Bx2.app1 (h : Bx2 w nS n3 os cap xs e1 s1 e2 s2 r1 r2 v u W) (l : List Value) (g c : Nat)
    (ho : W1.ownsRow (n3 + 1) e1 s1 (.slice (some ⟨g, 0, none⟩) (r1.length + 1) c) (r1.length + 1) (r1.flatten ++ l)) (hg : W.grownBy W1 v.ownBlock) (ha : v.ownBlock = some g ∨ g = W.heap.size) :
    Bx2 w nS n3 os cap xs e1 s1 e2 s2 (r1 ++ [l]) r2 (.slice (some ⟨g, 0, none⟩) (r1.length + 1) c) u (W1.setCell ⟨n3, 0, none⟩ (.slice (some ⟨g, 0, none⟩) (r1.length + 1) c)) := by
  have hs := h.hs; have h3 := h.h3; have hb := h.hb
  have B1 : Below (n3 + 1) W W1 := grown_below h.o1 hg h.hb
  have e : ∀ k, k ≠ n3 → (W1.setCell ⟨n3, 0, none⟩ (.slice (some ⟨g, 0, none⟩) (r1.length + 1) c)).heap[k]? = W1.heap[k]? := fun k hk => Below.heap_setCell W1 ⟨n3, 0, none⟩ _ k hk
  have B2 : Below n3 W (W1.setCell ⟨n3, 0, none⟩ (.slice (some ⟨g, 0, none⟩) (r1.length + 1) c)) := (B1.mono (Nat.le_succ n3)).setCell (p := ⟨n3, 0, none⟩) (Nat.le_refl _) _
  refine ⟨grown_low h.gr (B2.mono (by omega)), h.src.low h.i0 hs (B2.mono (by omega)), (h.b3.low (by omega) B1).put 0 _, ?_, ?_, ?_, ?_, h.i0, hs, h3⟩
  · rw [flat_snoc, List.length_append]
    exact own_blk ho fun q _ _ hq => e q (by omega)
  · refine own_blk h.o2 fun q hq1 hq2 hq3 => (e q (by omega)).trans (hg.block q hq2 ?_)
    exact fun e => h.ap q e.symm hq1
  · intro q hq
    have hqg : q = g := by
      simp [Value.ownBlock] at hq
      exact hq.symm
    subst hqg
    rcases ha with ha | ha
    · exact h.ap q ha
    · intro hc
      have := (own_lt h.o2 q hc).1
      omega
  · exact Nat.le_trans hb B2.size
theorem Bx2.app2 (h : Bx2 w nS n3 os cap xs e1 s1 e2 s2 r1 r2 v u W) (l : List Value) (g c : Nat)
    (ho : W1.ownsRow (n3 + 1) e2 s2 (.slice (some ⟨g, 0, none⟩) (r2.length + 1) c) (r2.length + 1) (r2.flatten ++ l)) (hg : W.grownBy W1 u.ownBlock) (ha : u.ownBlock = some g ∨ g = W.heap.size) :
    Bx2 w nS n3 os cap xs e1 s1 e2 s2 r1 (r2 ++ [l]) v (.slice (some ⟨g, 0, none⟩) (r2.length + 1) c) (W1.setCell ⟨n3, 1, none⟩ (.slice (some ⟨g, 0, none⟩) (r2.length + 1) c)) := by
  have hs := h.hs; have h3 := h.h3; have hb := h.hb
  have B1 : Below (n3 + 1) W W1 := grown_below h.o2 hg h.hb
  have e : ∀ k, k ≠ n3 → (W1.setCell ⟨n3, 1, none⟩ (.slice (some ⟨g, 0, none⟩) (r2.length + 1) c)).heap[k]? = W1.heap[k]? := fun k hk => Below.heap_setCell W1 ⟨n3, 1, none⟩ _ k hk
  have B2 : Below n3 W (W1.setCell ⟨n3, 1, none⟩ (.slice (some ⟨g, 0, none⟩) (r2.length + 1) c)) := (B1.mono (Nat.le_succ n3)).setCell (p := ⟨n3, 1, none⟩) (Nat.le_refl _) _
  refine ⟨grown_low h.gr (B2.mono (by omega)), h.src.low h.i0 hs (B2.mono (by omega)), (h.b3.low (by omega) B1).put 1 _, ?_, ?_, ?_, ?_, h.i0, hs, h3⟩
  · refine own_blk h.o1 fun q hq1 hq2 hq3 => (e q (by omega)).trans (hg.block q hq2 ?_)
    exact fun e => h.ap q hq1 e.symm
  · rw [flat_snoc, List.length_append]
    exact own_blk ho fun q _ _ hq => e q (by omega)
  · intro q hq hc
    have hqg : q = g := by
      simp [Value.ownBlock] at hc
      exact hc.symm
    subst hqg
    rcases ha with ha | ha
    · exact h.ap q hq ha
    · have := (own_lt h.o1 q hq).1
      omega
  · exact Nat.le_trans hb B2.size
/-- A block that is neither the box nor a row of the box nor the source stays through an append. -/
theorem Bx2.far1 (h : Bx2 w nS n3 os cap xs e1 s1 e2 s2 r1 r2 v u W) (hg : W.grownBy W1 v.ownBlock) (x : Value) (q : Nat) (hq : q < W.heap.size) (h1 : v.ownBlock ≠ some q) (h2 : q ≠ n3) : (W1.setCell ⟨n3, 0, none⟩ x).heap[q]? = W.heap[q]? :=
  (Below.heap_setCell W1 ⟨n3, 0, none⟩ _ q h2).trans (hg.block q hq fun e => h1 e.symm)
theorem Bx2.far2 (h : Bx2 w nS n3 os cap xs e1 s1 e2 s2 r1 r2 v u W) (hg : W.grownBy W1 u.ownBlock) (x : Value) (q : Nat) (hq : q < W.heap.size) (h1 : u.ownBlock ≠ some q) (h2 : q ≠ n3) : (W1.setCell ⟨n3, 1, none⟩ x).heap[q]? = W.heap[q]? :=
  (Below.heap_setCell W1 ⟨n3, 1, none⟩ _ q h2).trans (hg.block q hq fun e => h1 e.symm)
end
theorem Blk.al {W : World} {b : Nat} {l : List Value} (h : Blk W b l) (o : Obj) : Blk (W.alloc o) b l := h.keep ((Below.refl _ _).alloc (Nat.le_refl _) _)
/-- Blocks that a call makes first. -/
theorem blks1 (w : World) (a : List Value) (s : TypeId) : Blk (w.alloc (.cells a.toArray s)) w.heap.size a ∧ Below w.heap.size w (w.alloc (.cells a.toArray s)) :=
  ⟨Blk.new w a s, (Below.refl _ _).alloc (Nat.le_refl _) _⟩
theorem blks2 (w : World) (a b : List Value) (s t : TypeId) : Blk ((w.alloc (.cells a.toArray s)).alloc (.cells b.toArray t)) w.heap.size a ∧ Blk ((w.alloc (.cells a.toArray s)).alloc (.cells b.toArray t)) (w.heap.size + 1) b ∧
    Below w.heap.size w ((w.alloc (.cells a.toArray s)).alloc (.cells b.toArray t)) := by
  have e : (w.alloc (.cells a.toArray s)).heap.size = w.heap.size + 1 := by simp
  have r := Blk.new (w.alloc (.cells a.toArray s)) b t
  rw [e] at r
  exact ⟨(Blk.new w a s).al _, r, ((Below.refl _ _).alloc (Nat.le_refl _) _).alloc (by simp) _⟩
theorem blks3 (w : World) (a b c : List Value) (s t u : TypeId) : Blk (((w.alloc (.cells a.toArray s)).alloc (.cells b.toArray t)).alloc (.cells c.toArray u)) w.heap.size a ∧ Blk (((w.alloc (.cells a.toArray s)).alloc (.cells b.toArray t)).alloc (.cells c.toArray u)) (w.heap.size + 1) b ∧
    Blk (((w.alloc (.cells a.toArray s)).alloc (.cells b.toArray t)).alloc (.cells c.toArray u)) (w.heap.size + 1 + 1) c ∧ Below w.heap.size w (((w.alloc (.cells a.toArray s)).alloc (.cells b.toArray t)).alloc (.cells c.toArray u)) := by
  obtain ⟨h1, h2, h3⟩ := blks2 w a b s t
  have e : ((w.alloc (.cells a.toArray s)).alloc (.cells b.toArray t)).heap.size = w.heap.size + 1 + 1 := by simp
  have r := Blk.new ((w.alloc (.cells a.toArray s)).alloc (.cells b.toArray t)) c u
  rw [e] at r
  exact ⟨h1.al _, h2.al _, r, h3.alloc (by simp; omega) _⟩
theorem Ed.one (e : Ed) : ∀ u ∈ e.vals, u.oneCell' = true := by
  intro u hu
  simp [Ed.vals] at hu
  rcases hu with rfl | rfl | rfl | rfl | rfl | rfl | rfl | rfl | rfl | rfl | rfl | rfl <;> rfl
theorem Cf.one (c : Cf) : ∀ u ∈ c.vals, u.oneCell' = true := by
  intro u hu
  simp [Cf.vals, Mv.vals] at hu
  rcases hu with rfl | rfl | rfl | rfl | rfl | rfl <;> rfl
theorem info43 : (Try.prog.info? 43).map (fun i => (i.zero, i.size, i.bytes)) = some (some (.agg #[.slice none 0 0, .slice none 0 0]), 2, 48) := by kernel_rfl
theorem info54 : (Try.prog.info? 54).map (fun i => (i.zero, i.size, i.bytes)) = some (some (.agg #[.int .i64 0, .int .i64 0, .int .i64 0, .int .i64 0, .int .i64 0, .slice none 0 0, .int .i64 0, .int .i64 0, .slice none 0 0, .int .i64 0, .slice none 0 0, .slice none 0 0]), 12, 160) := by kernel_rfl
theorem info74 : (Try.prog.info? 74).map (fun i => (i.zero, i.size, i.bytes)) = some (some (.agg #[.int .i64 0, .int .i64 0, .int .i64 0, .int .i64 0, .int .i64 0, .int .i64 0]), 6, 48) := by kernel_rfl
theorem info48 : (Try.prog.info? 48).map (fun i => (i.zero, i.size, i.bytes)) = some (some (.slice none 0 0), 1, 24) := by kernel_rfl
theorem info3 : (Try.prog.info? 3).map (fun i => (i.zero, i.size, i.bytes)) = some (some (.int .i64 0), 1, 8) := by kernel_rfl
theorem info22 : (Try.prog.info? 22).map (fun i => (i.zero, i.size, i.bytes)) = some (some (.slice none 0 0), 1, 24) := by kernel_rfl
theorem info30 : (Try.prog.info? 30).map (fun i => (i.zero, i.size, i.bytes)) = some (some (.slice none 0 0), 1, 24) := by kernel_rfl
theorem under22 : Try.prog.underlying 22 = some (.slice 3) := by kernel_rfl
theorem under23 : Try.prog.underlying 23 = some (.slice 43) := by kernel_rfl
theorem under24 : Try.prog.underlying 24 = some (.slice 74) := by kernel_rfl
theorem under40 : Try.prog.underlying 40 = some (.slice 48) := by kernel_rfl
theorem under41 : Try.prog.underlying 41 = some (.slice 54) := by kernel_rfl
theorem under30 : Try.prog.underlying 30 = some (.slice 22) := by kernel_rfl
theorem under79 : Try.prog.underlying 79 = some (.slice 30) := by kernel_rfl
theorem info_parts {P : Program} {t : TypeId} {z : Value} {s b : Nat} (h : (P.info? t).map (fun i => (i.zero, i.size, i.bytes)) = some (some z, s, b)) : ∃ i, P.info? t = some i ∧ i.zero = some z ∧ i.size = s ∧ i.bytes = b := by
  cases hi : P.info? t with
  | none => rw [hi] at h; cases h
  | some i =>
    rw [hi] at h
    simp at h
    exact ⟨i, rfl, h.1, h.2.1, h.2.2⟩
end Go.Proofs.Jn
end

section
/-
  Walks: the maker's Claim (of a proved edge), move.
-/
namespace Go.Proofs.Jn
open Go.RowKit

set_option maxHeartbeats 4000000 in
theorem claim_any (w : World) : Calls Try.prog 27 #[.int .i64 1] w (fun e W' => ∃ b : Nat, e = .returned (.agg #[.int .i64 1, .slice (some ⟨b, 0, none⟩) 1 1, .int .i64 0, .int .i64 0, .slice none 0 0, .int .i64 0, .slice none 0 0, .slice none 0 0]) ∧ Below w.heap.size w W') := by
  go_enter Try.func27, Try.ntmps27
  go_wp2_with fail
  refine bodyPost_ret (v := .agg #[.int .i64 1, .slice (some ⟨w.heap.size + 1, 0, none⟩) 1 1, .int .i64 0, .int .i64 0, .slice none 0 0, .int .i64 0, .slice none 0 0, .slice none 0 0]) (by simp [results, Try.results27, go_sem]) rfl ⟨w.heap.size + 1, rfl, ((Below.refl _ _).alloc (Nat.le_refl _) _).alloc (by simp) _⟩

/-- What move answers. -/
def MoveE (T : Tm) (k : Nat) (W : World) (nS : Nat) (os : Option Addr) (cap : Nat) (xs : List Int) (e : Ending) (W' : World) : Prop :=
  ∃ a : Mv, a.arm = k ∧ legB T a = true ∧ e = .returned (.agg #[.int .i64 (a.arm : Nat), .int .i64 (a.x : Nat), .int .i64 (a.y : Nat)]) ∧ W.grownBy W' (some nS) ∧ Src W' nS os cap xs

theorem legB_stay {T : Tm} {k v : Nat} {m : Mp} (hm : T.ms[k]? = some m) (hv : v < m.n) : legB T ⟨k, v, v⟩ = true := by
  simp [legB, hm, hv]
theorem legB_edge {T : Tm} {k i : Nat} {m : Mp} {e : Ed} (hm : T.ms[k]? = some m) (he : m.es[i]? = some e) (ho : e.u < e.v ∧ e.v < m.n) (hs : e.st = 1) : legB T ⟨k, e.u, e.v⟩ = true ∧ legB T ⟨k, e.v, e.u⟩ = true := by
  have h1 : edgeB m.es e.u e.v = true := by
    unfold edgeB; rw [List.any_eq_true]
    exact ⟨e, List.mem_of_getElem? he, by simp [hs]; omega⟩
  have h2 : edgeB m.es e.v e.u = true := by
    unfold edgeB; rw [List.any_eq_true]
    exact ⟨e, List.mem_of_getElem? he, by simp [hs]; omega⟩
  constructor
  · simp [legB, hm, h1]; omega
  · simp [legB, hm, h2]; omega
theorem low3 {W : World} {n b : Nat} {x y z : Value} (h : b ≤ n) : Below b W (((W.setCell ⟨n, 0, none⟩ x).setCell ⟨n, 1, none⟩ y).setCell ⟨n, 2, none⟩ z) :=
  (((Below.refl b W).setCell (p := ⟨n, 0, none⟩) h _).setCell (p := ⟨n, 1, none⟩) h _).setCell (p := ⟨n, 2, none⟩) h _
theorem keepM {W X : World} {n7 nS : Nat} {x y : Value} (h : Blk W n7 [x, y]) (hne : n7 ≠ nS) (hg : W.grownBy X (some nS)) : X.cell? ⟨n7, 1, none⟩ = some y ∧ W.grownBy X (some nS) :=
  ⟨(h.keepG hg hne).c 1 _ rfl, hg⟩
theorem grown_setq {W X : World} {r : Option Nat} {n i : Nat} {v : Value} (h : W.grownBy X r) (hn : W.heap.size ≤ n) : W.grownBy (X.setCell ⟨n, i, none⟩ v) r :=
  grown_low h (Below.setCell (p := ⟨n, i, none⟩) (Below.refl _ _) hn v)
theorem below_swap (Y : World) (o o' : Obj) {n : Nat} (h : n ≤ Y.heap.size) : Below n (Y.alloc o) (Y.alloc o') :=
  ⟨rfl, rfl, rfl, by simp, fun k hk => by
    show (Y.heap.push o')[k]? = (Y.heap.push o)[k]?
    rw [Array.getElem?_push, Array.getElem?_push, if_neg (by omega), if_neg (by omega)]⟩
theorem Row.keepG {W W' : World} {b nS : Nat} {l : List Value} (h : Row W b l) (hg : W.grownBy W' (some nS)) (hne : b ≠ nS) : Row W' b l := by
  have e := hg.block b h.lt (fun e => hne (by injection e))
  refine ⟨fun i v hi => ?_, Nat.lt_of_lt_of_le h.lt hg.size⟩
  rw [← h.c i v hi]; simp [World.cell?, e]
theorem nat_int {r : Int} {n : Nat} (h0 : 0 ≤ r) (h1 : r < n) : ∃ k : Nat, r = k ∧ k < n := ⟨r.toNat, by omega, by omega⟩

set_option maxRecDepth 100000 in
set_option maxHeartbeats 4000000 in
theorem move_any (om oc : Option Addr) (cm cc : Nat) (T : Tm) (k : Nat) (m : Mp) (W : World) (nS : Nat) (os : Option Addr) (cap : Nat) (xs : List Int) (hl : T.ms.length ≤ 100) (hm : T.ms[k]? = some m) (ho : MapOk m) (hst : ∀ e ∈ m.es, e.st = 1) (hS : Src W nS os cap xs) (hT : TeamAt W om oc T) (i0 : Sl W os 1 (pvals xs)) (hne : ∀ b o s, m.oe = some ⟨b, o, s⟩ → b ≠ nS) :
    Calls Try.prog 28 #[.pointer (some ⟨nS, 0, none⟩), T.val om oc cm cc, .int .i64 (k : Nat)] W (MoveE T k W nS os cap xs) := by
  unfold Tm.val
  obtain ⟨n1, n2, len, ed, asc⟩ := ho
  have hk : k < T.ms.length := (List.getElem?_eq_some_iff.1 hm).1
  have hes := hT.es m (List.mem_of_getElem? hm)
  have HED := Lib.hid ed
  have HST := Lib.hid hst
  have HM := Lib.hid hm
  obtain ⟨bm, offm, rfl, hMr⟩ := hT.ms (map_ne hk)
  go_enter Try.func28, Try.ntmps28
  go_upto_region 1 with fail
  have hsz := src_lt hS
  have HI := Lib.hid i0
  clear hT hl hm ed asc hst
  have hbx_ := blks2 W [.slice (some ⟨bm, offm, none⟩) T.ms.length cm, .slice oc T.cs.length cc] [.int .i64 0, .int .i64 0, .int .i64 0] 26 65
  replace hMr := hMr.keep hbx_.2.2
  replace hes := hes.keep hbx_.2.2
  replace hS := hS.keep hbx_.2.2
  have HB := Lib.hid (hbx_.2.2)
  have hod : W.heap.size ≤ W.heap.size ∧ W.heap.size < W.heap.size + 1 := by omega
  generalize (W.alloc (.cells #[.slice (some ⟨bm, offm, none⟩) T.ms.length cm, .slice oc T.cs.length cc] 26)).alloc (.cells #[.int .i64 0, .int .i64 0, .int .i64 0] 65) = W1 at hbx_ hMr hes hS HB ⊢
  obtain ⟨r4, r6, hbel_⟩ := hbx_
  generalize W.heap.size + 1 = n6 at r6 hod ⊢
  obtain ⟨n4, hn_⟩ : ∃ n, n = W.heap.size := ⟨_, rfl⟩
  rw [← hn_] at r4 ⊢
  replace hod := And.intro (Nat.le_of_eq hn_.symm) (hn_ ▸ hod.2)
  clear hn_ hbel_
  have a0 : W1.cell? ⟨n4, 0, none⟩ = some (.slice (some ⟨bm, offm, none⟩) T.ms.length cm) := r4.c 0 _ rfl
  have l4 := r4.lt
  have x0 : W1.cell? ⟨bm, offm + k * 2, none⟩ = some (.slice m.op m.n m.cp) := hMr.c k _ (map_get HM.out) 0 _ rfl
  have x1 : W1.cell? ⟨bm, offm + k * 2 + 1, none⟩ = some (.slice m.oe m.es.length m.ce) := hMr.c k _ (map_get HM.out) 1 _ rfl
  clear hMr
  go_upto_region 2 with fail
  have hsz1 := src_lt hS
  have hbx_ := blks1 W1 [.slice m.op m.n m.cp, .slice m.oe m.es.length m.ce] 43
  replace r6 := r6.keep hbx_.2
  replace hes := hes.keep hbx_.2
  replace hS := hS.keep hbx_.2
  have HB1 := Lib.hid (below_call HB.out hbx_.2)
  have hod7 : W1.heap.size ≤ W1.heap.size := by omega
  generalize W1.alloc (.cells #[.slice m.op m.n m.cp, .slice m.oe m.es.length m.ce] 43) = W2 at hbx_ r6 hes hS HB1 ⊢
  obtain ⟨r7, hbel_⟩ := hbx_
  obtain ⟨n7, hn_⟩ : ∃ n, n = W1.heap.size := ⟨_, rfl⟩
  rw [← hn_] at r7 ⊢
  replace hod7 := Nat.le_of_eq hn_.symm
  clear hn_ hbel_
  clear a0 l4 x0 x1 r4 HB
  have a0 : W2.cell? ⟨n7, 0, none⟩ = some (.slice m.op m.n m.cp) := r7.c 0 _ rfl
  have a1 : W2.cell? ⟨n7, 1, none⟩ = some (.slice m.oe m.es.length m.ce) := r7.c 1 _ rfl
  have l7 := r7.lt
  have g1 : ((m.es.length : Int) == 0) = decide (m.es.length = 0) := nat_beq _ 0
  have hn6 : W.heap.size ≤ n6 := by omega
  have hne6 : n6 ≠ nS := by omega
  have HG := Lib.hid (grown_of_below (r := some nS) HB1.out)
  cases he : decide (m.es.length = 0) <;> rw [he] at g1 <;> have HE := Lib.hid he <;> clear he
  · go_wp2_with fail
    refine (next_any W2 nS os cap xs 2 hS (by omega) (by omega)).mono ?_
    rintro e W3 ⟨q, q0, q1, rfl, hg, hS', -⟩
    obtain ⟨q, rfl, q2⟩ := nat_int (n := 2) q0 q1
    have g2 : ((q : Int) == 0) = decide (q = 0) := nat_beq _ 0
    replace HG := Lib.hid (grown_trans HG.out hg)
    have HES := Lib.hid (hes.keepG hg hne)
    replace r6 := r6.keepG hg hne6
    have hne7 : n7 ≠ nS := by omega
    replace r7 := r7.keepG hg hne7
    clear a0 a1 l7 hS hes hg
    have a0 : W3.cell? ⟨n7, 0, none⟩ = some (.slice m.op m.n m.cp) := r7.c 0 _ rfl
    have a1 : W3.cell? ⟨n7, 1, none⟩ = some (.slice m.oe m.es.length m.ce) := r7.c 1 _ rfl
    have l7 := r7.lt
    cases hq : decide (q = 0) <;> rw [hq] at g2 <;> clear hq
    · go_upto_region 5 with fail
      have HS3 := Lib.hid hS'
      have hpos : 0 < m.es.length := Nat.pos_of_ne_zero (of_decide_eq_false HE.out)
      obtain ⟨be, offe, hoe, hEr⟩ := HES.out (map_ne hpos)
      have hbe : be ≠ nS := hne be offe none hoe
      rw [hoe] at r7 a1 ⊢
      go_cut [9] (fun s9 X => ∃ (n9 i : Nat) (d : Ed), s9 = .pointer (some ⟨n9, 0, none⟩) ∧ m.es[i]? = some d ∧ n9 ≠ nS ∧ Row X n9 d.vals ∧ W3.grownBy X (some nS) ∧ Src X nS os cap xs)
      case first =>
       go_region_law
         (first
          | (go_simp
             go_at_call 26
             refine (next_any _ nS os cap xs m.es.length (HS3.out.keep ((Below.refl _ _).alloc (Nat.le_refl _) _).drew) (by omega) (by omega)).mono ?_
             rintro e X1 ⟨i, i0, i1, rfl, hg, hS', hz⟩
             obtain ⟨i, rfl, i2⟩ := nat_int i0 i1
             have hq : W3.grownBy X1 (some nS) := grown_trans (grown_of_below ((Below.refl _ _).alloc (Nat.le_refl _) _).drew) hg
             obtain ⟨d, hd⟩ : ∃ r, m.es[i]? = some r := ⟨_, List.getElem?_eq_getElem i2⟩
             have hEr1 := hEr.keepG hq hbe
             have hzb : (W3.alloc (.cells #[.int .i64 0, .int .i64 0, .int .i64 0, .int .i64 0, .int .i64 0, .slice none 0 0, .int .i64 0, .int .i64 0, .slice none 0 0, .int .i64 0, .slice none 0 0, .slice none 0 0] 54)).drew.heap[W3.heap.size]? = some (.cells #[.int .i64 0, .int .i64 0, .int .i64 0, .int .i64 0, .int .i64 0, .slice none 0 0, .int .i64 0, .int .i64 0, .slice none 0 0, .int .i64 0, .slice none 0 0, .slice none 0 0] 54) := Array.getElem?_push_size
             obtain ⟨Y, rfl, hys, hyb⟩ := un_alloc (hz.trans (by show (W3.alloc _).heap.size = _; simp)) ((hg.block W3.heap.size (by show _ < (W3.alloc _).heap.size; simp) (fun e => by injection e; omega)).trans hzb)
             have hEr2 : RowsAt Y be offe 12 (m.es.map Ed.vals) := ⟨by rw [hys]; exact hEr.lt, fun i r hi k v hv => by
               rw [← hEr1.c i r hi k v hv]
               simp [World.cell?, hyb be hEr.lt]⟩
             have x0 : Y.cell? ⟨be, offe + i * 12, none⟩ = some (.int .i64 (d.u : Nat)) := hEr2.c i _ (map_get hd) 0 _ rfl
             have x1 : Y.cell? ⟨be, offe + i * 12 + 1, none⟩ = some (.int .i64 (d.v : Nat)) := hEr2.c i _ (map_get hd) 1 _ rfl
             have x2 : Y.cell? ⟨be, offe + i * 12 + 2, none⟩ = some (.int .i64 d.c) := hEr2.c i _ (map_get hd) 2 _ rfl
             have x3 : Y.cell? ⟨be, offe + i * 12 + 3, none⟩ = some (.int .i64 d.st) := hEr2.c i _ (map_get hd) 3 _ rfl
             have x4 : Y.cell? ⟨be, offe + i * 12 + 4, none⟩ = some (.int .i64 d.k0) := hEr2.c i _ (map_get hd) 4 _ rfl
             have x5 : Y.cell? ⟨be, offe + i * 12 + 5, none⟩ = some (.slice d.s1.a d.s1.n d.s1.c) := hEr2.c i _ (map_get hd) 5 _ rfl
             have x6 : Y.cell? ⟨be, offe + i * 12 + 6, none⟩ = some (.int .i64 d.k2) := hEr2.c i _ (map_get hd) 6 _ rfl
             have x7 : Y.cell? ⟨be, offe + i * 12 + 7, none⟩ = some (.int .i64 d.k3) := hEr2.c i _ (map_get hd) 7 _ rfl
             have x8 : Y.cell? ⟨be, offe + i * 12 + 8, none⟩ = some (.slice d.s4.a d.s4.n d.s4.c) := hEr2.c i _ (map_get hd) 8 _ rfl
             have x9 : Y.cell? ⟨be, offe + i * 12 + 9, none⟩ = some (.int .i64 d.k5) := hEr2.c i _ (map_get hd) 9 _ rfl
             have x10 : Y.cell? ⟨be, offe + i * 12 + 10, none⟩ = some (.slice d.s6.a d.s6.n d.s6.c) := hEr2.c i _ (map_get hd) 10 _ rfl
             have x11 : Y.cell? ⟨be, offe + i * 12 + 11, none⟩ = some (.slice d.s7.a d.s7.n d.s7.c) := hEr2.c i _ (map_get hd) 11 _ rfl
             have lbe := hEr2.lt
             have HDD := Lib.hid hd
             clear hd hEr1 hEr2 hzb
             have HN9 : Hid (Y.heap.size ≠ nS) := Lib.hid (by rw [hys]; omega)
             have hqY : W3.grownBy Y (some nS) := ⟨hq.os, hq.tape, hq.output, Nat.le_of_eq hys.symm, fun k hk hn => (hyb k hk).trans (hq.block k hk hn)⟩
             have z7 : Y.cell? ⟨n7, 1, none⟩ = some (.slice (some ⟨be, offe, none⟩) m.es.length m.ce) := (r7.keepG hqY hne7).c 1 _ rfl
             have lz7 := (r7.keepG hqY hne7).lt
             have HSY := Lib.hid (hS'.low HI.out hsz (below_swap Y _ (.cells #[.int .i64 d.u, .int .i64 d.v, .int .i64 d.c, .int .i64 d.st, .int .i64 d.k0, .slice d.s1.a d.s1.n d.s1.c, .int .i64 d.k2, .int .i64 d.k3, .slice d.s4.a d.s4.n d.s4.c, .int .i64 d.k5, .slice d.s6.a d.s6.n d.s6.c, .slice d.s7.a d.s7.n d.s7.c] 54) (by rw [hys]; exact Nat.le_trans HG.out.size (Nat.le_refl _))))
             rw [← hys]
             have HYS := Lib.hid hys
             clear hys hz hyb)
          | (go_simp
             go_at_call 26
             refine (next_any _ nS os cap xs m.es.length (HS3.out.keep (Below.refl _ _).drew) (by omega) (by omega)).mono ?_
             rintro e X1 ⟨i, i0, i1, rfl, hg, hS', hz⟩
             obtain ⟨i, rfl, i2⟩ := nat_int i0 i1
             have hq : W3.grownBy X1 (some nS) := grown_trans (grown_of_below (Below.refl _ _).drew) hg
             obtain ⟨d, hd⟩ : ∃ r, m.es[i]? = some r := ⟨_, List.getElem?_eq_getElem i2⟩
             have hEr1 := hEr.keepG hq hbe
             have z7 : X1.cell? ⟨n7, 1, none⟩ = some (.slice (some ⟨be, offe, none⟩) m.es.length m.ce) := (r7.keepG hq hne7).c 1 _ rfl
             have lz7 := (r7.keepG hq hne7).lt
             have x0 : X1.cell? ⟨be, offe + i * 12, none⟩ = some (.int .i64 (d.u : Nat)) := hEr1.c i _ (map_get hd) 0 _ rfl
             have x1 : X1.cell? ⟨be, offe + i * 12 + 1, none⟩ = some (.int .i64 (d.v : Nat)) := hEr1.c i _ (map_get hd) 1 _ rfl
             have x2 : X1.cell? ⟨be, offe + i * 12 + 2, none⟩ = some (.int .i64 d.c) := hEr1.c i _ (map_get hd) 2 _ rfl
             have x3 : X1.cell? ⟨be, offe + i * 12 + 3, none⟩ = some (.int .i64 d.st) := hEr1.c i _ (map_get hd) 3 _ rfl
             have x4 : X1.cell? ⟨be, offe + i * 12 + 4, none⟩ = some (.int .i64 d.k0) := hEr1.c i _ (map_get hd) 4 _ rfl
             have x5 : X1.cell? ⟨be, offe + i * 12 + 5, none⟩ = some (.slice d.s1.a d.s1.n d.s1.c) := hEr1.c i _ (map_get hd) 5 _ rfl
             have x6 : X1.cell? ⟨be, offe + i * 12 + 6, none⟩ = some (.int .i64 d.k2) := hEr1.c i _ (map_get hd) 6 _ rfl
             have x7 : X1.cell? ⟨be, offe + i * 12 + 7, none⟩ = some (.int .i64 d.k3) := hEr1.c i _ (map_get hd) 7 _ rfl
             have x8 : X1.cell? ⟨be, offe + i * 12 + 8, none⟩ = some (.slice d.s4.a d.s4.n d.s4.c) := hEr1.c i _ (map_get hd) 8 _ rfl
             have x9 : X1.cell? ⟨be, offe + i * 12 + 9, none⟩ = some (.int .i64 d.k5) := hEr1.c i _ (map_get hd) 9 _ rfl
             have x10 : X1.cell? ⟨be, offe + i * 12 + 10, none⟩ = some (.slice d.s6.a d.s6.n d.s6.c) := hEr1.c i _ (map_get hd) 10 _ rfl
             have x11 : X1.cell? ⟨be, offe + i * 12 + 11, none⟩ = some (.slice d.s7.a d.s7.n d.s7.c) := hEr1.c i _ (map_get hd) 11 _ rfl
             have lbe := hEr1.lt
             have HDD := Lib.hid hd
             have HN9 : Hid (X1.heap.size ≠ nS) := Lib.hid (by have := hq.size; omega)
             clear hd hEr1 hz))
       all_goals go_wp2_with fail
       all_goals go_meet
       all_goals first
         | exact ⟨_, i, d, rfl, HDD.out, HN9.out, Row.new _ d.vals 54, grown_trans hq (grown_of_below ((Below.refl _ _).alloc (Nat.le_refl _) _)), hS'.keep ((Below.refl _ _).alloc (Nat.le_refl _) _)⟩
         | exact ⟨_, i, d, rfl, HDD.out, HN9.out, Row.new _ d.vals 54, grown_trans hqY (grown_of_below ((Below.refl _ _).alloc (Nat.le_refl _) _)), HSY.out⟩
      case rest =>
        obtain ⟨n9, i, d, rfl, hd, hne9, r9, hg9, hS9⟩ := hcut
        replace HG := Lib.hid (grown_trans HG.out hg9)
        replace r6 := r6.keepG hg9 hne6
        have HDD := Lib.hid hd
        clear a0 a1 l7 hS' r7 hEr hd
        go_wp2_with fail
        refine (next_any wc nS os cap xs 2 hS9 (by omega) (by omega)).mono ?_
        rintro e V1 ⟨q, q0, q1, rfl, hg, hS', -⟩
        obtain ⟨q, rfl, q2⟩ := nat_int (n := 2) q0 q1
        have g3 : ((q : Int) == 0) = decide (q = 0) := nat_beq _ 0
        replace r6 := r6.keepG hg hne6
        replace HG := Lib.hid (grown_trans HG.out hg)
        have hle := legB_edge HM.out HDD.out ⟨(HED.out d (List.mem_of_getElem? HDD.out)).1, (HED.out d (List.mem_of_getElem? HDD.out)).2.1⟩ (HST.out d (List.mem_of_getElem? HDD.out))
        have r9' := r9.keepG hg hne9
        have c0 : V1.cell? ⟨n6, 0, none⟩ = some (.int .i64 0) := r6.c 0 _ rfl
        have c1 : V1.cell? ⟨n6, 1, none⟩ = some (.int .i64 0) := r6.c 1 _ rfl
        have c2 : V1.cell? ⟨n6, 2, none⟩ = some (.int .i64 0) := r6.c 2 _ rfl
        have f0 := r6.f 0
        have f1 := r6.f 1
        have f2 := r6.f 2
        have l6 := r6.lt
        have y0 : V1.cell? ⟨n9, 0, none⟩ = some (.int .i64 (d.u : Nat)) := r9'.c 0 _ rfl
        have y1 : V1.cell? ⟨n9, 1, none⟩ = some (.int .i64 (d.v : Nat)) := r9'.c 1 _ rfl
        have l9 := r9'.lt
        cases hq : decide (q = 0) <;> rw [hq] at g3 <;> clear hq
        · go_wp2_with fail
          have r7' := ((r6.put 0 (.int .i64 k)).put 1 (.int .i64 (d.u : Nat))).put 2 (.int .i64 (d.v : Nat))
          refine bodyPost_ret (v := .agg #[.int .i64 k, .int .i64 (d.u : Nat), .int .i64 (d.v : Nat)]) (by simp [results, Try.results28, go_sem, r7'.c 0 _ rfl, r7'.c 1 _ rfl, r7'.c 2 _ rfl]) rfl ⟨⟨k, d.u, d.v⟩, rfl, hle.1, rfl, ?_, ?_⟩
          · exact grown_low HG.out (low3 hn6)
          · exact Src.low hS' (HI.out) hsz (low3 hn6)
        · go_wp2_with fail
          have r7' := ((r6.put 0 (.int .i64 k)).put 1 (.int .i64 (d.v : Nat))).put 2 (.int .i64 (d.u : Nat))
          refine bodyPost_ret (v := .agg #[.int .i64 k, .int .i64 (d.v : Nat), .int .i64 (d.u : Nat)]) (by simp [results, Try.results28, go_sem, r7'.c 0 _ rfl, r7'.c 1 _ rfl, r7'.c 2 _ rfl]) rfl ⟨⟨k, d.v, d.u⟩, rfl, hle.2, rfl, ?_, ?_⟩
          · exact grown_low HG.out (low3 hn6)
          · exact Src.low hS' (HI.out) hsz (low3 hn6)
    · go_wp2_with fail
      have hS := hS'
      refine (next_any W3 nS os cap xs m.n hS (by omega) (by omega)).mono ?_
      rintro e V1 ⟨q, q0, q1, rfl, hg, hS', -⟩
      obtain ⟨q, rfl, q2⟩ := nat_int q0 q1
      replace r6 := r6.keepG hg (by omega)
      replace HG := Lib.hid (grown_trans HG.out hg)
      have c0 : V1.cell? ⟨n6, 0, none⟩ = some (.int .i64 0) := r6.c 0 _ rfl
      have c1 : V1.cell? ⟨n6, 1, none⟩ = some (.int .i64 0) := r6.c 1 _ rfl
      have c2 : V1.cell? ⟨n6, 2, none⟩ = some (.int .i64 0) := r6.c 2 _ rfl
      have f0 := r6.f 0
      have f1 := r6.f 1
      have f2 := r6.f 2
      have l6 := r6.lt
      go_wp2_with fail
      have r7' := ((r6.put 0 (.int .i64 k)).put 1 (.int .i64 q)).put 2 (.int .i64 q)
      refine bodyPost_ret (v := .agg #[.int .i64 k, .int .i64 q, .int .i64 q]) (by simp [results, Try.results28, go_sem, r7'.c 0 _ rfl, r7'.c 1 _ rfl, r7'.c 2 _ rfl]) rfl ⟨⟨k, q, q⟩, rfl, legB_stay HM.out q2, rfl, ?_, ?_⟩
      · exact grown_low HG.out (low3 hn6)
      · exact Src.low hS' (HI.out) hsz (low3 hn6)
  · go_wp2_with fail
    refine (next_any W2 nS os cap xs m.n hS (by omega) (by omega)).mono ?_
    rintro e V1 ⟨q, q0, q1, rfl, hg, hS', -⟩
    obtain ⟨q, rfl, q2⟩ := nat_int q0 q1
    replace r6 := r6.keepG hg (by omega)
    replace HG := Lib.hid (grown_trans HG.out hg)
    have c0 : V1.cell? ⟨n6, 0, none⟩ = some (.int .i64 0) := r6.c 0 _ rfl
    have c1 : V1.cell? ⟨n6, 1, none⟩ = some (.int .i64 0) := r6.c 1 _ rfl
    have c2 : V1.cell? ⟨n6, 2, none⟩ = some (.int .i64 0) := r6.c 2 _ rfl
    have f0 := r6.f 0
    have f1 := r6.f 1
    have f2 := r6.f 2
    have l6 := r6.lt
    go_wp2_with fail
    have r7' := ((r6.put 0 (.int .i64 k)).put 1 (.int .i64 q)).put 2 (.int .i64 q)
    refine bodyPost_ret (v := .agg #[.int .i64 k, .int .i64 q, .int .i64 q]) (by simp [results, Try.results28, go_sem, r7'.c 0 _ rfl, r7'.c 1 _ rfl, r7'.c 2 _ rfl]) rfl ⟨⟨k, q, q⟩, rfl, legB_stay HM.out q2, rfl, ?_, ?_⟩
    · exact grown_low HG.out (low3 hn6)
    · exact Src.low hS' (HI.out) hsz (low3 hn6)

end Go.Proofs.Jn
end

section
/-
  Walks: the maker's Vertices.
-/
namespace Go.Proofs.Jn
open Go.RowKit

/-- The world inside Vertices. -/
structure NI (W1 : World) (nS : Nat) (os : Option Addr) (cap : Nat) (xs : List Int) (ps : List Nat) (v : Value) (W : World) : Prop where
  gr : W1.grownBy W (some nS)
  src : Src W nS os cap xs
  own : W.ownsRow W1.heap.size 3 1 v ps.length (nvals ps).flatten
  hb : W1.heap.size ≤ W.heap.size
  hs : nS < W1.heap.size
  i0 : Sl W1 os 1 (pvals xs)
theorem NI.call {W1 W W' : World} {nS : Nat} {os : Option Addr} {cap : Nat} {xs : List Int} {ps : List Nat} {v : Value} (h : NI W1 nS os cap xs ps v W) (hg : W.grownBy W' (some nS)) (hS : Src W' nS os cap xs) : NI W1 nS os cap xs ps v W' :=
  ⟨grown_trans h.gr hg, hS, own_blk h.own fun g _ hl hb => hg.block g hl (fun e => by injection e; have := h.hs; omega), Nat.le_trans h.hb hg.size, h.hs, h.i0⟩
theorem NI.keep {W1 W W' : World} {nS : Nat} {os : Option Addr} {cap : Nat} {xs : List Int} {ps : List Nat} {v : Value} (h : NI W1 nS os cap xs ps v W) (hb : Below W.heap.size W W') : NI W1 nS os cap xs ps v W' :=
  ⟨grown_trans h.gr (grown_of_below hb), h.src.keepB hb, own_keep h.own hb, Nat.le_trans h.hb hb.size, h.hs, h.i0⟩
theorem grown_fresh {w W W' : World} {nS : Nat} (hb : Below w.heap.size w W) (hg : W.grownBy W' (some nS)) (hn : w.heap.size ≤ nS) : Below w.heap.size w W' :=
  ⟨hg.os.trans hb.os, hg.tape.trans hb.tape, hg.output.trans hb.output, Nat.le_trans hb.size hg.size, fun k hk => (hg.block k (Nat.lt_of_lt_of_le hk hb.size) (fun e => by injection e; omega)).trans (hb.block k hk)⟩
theorem nflat_snoc (ps : List Nat) (p : Nat) : (nvals (ps ++ [p])).flatten = (nvals ps).flatten ++ [.int .i64 (p : Nat)] := by simp [nvals]
theorem NI.app {W1 W W' : World} {nS : Nat} {os : Option Addr} {cap : Nat} {xs : List Int} {ps : List Nat} {p : Nat} {v v' : Value} (h : NI W1 nS os cap xs ps v W) (ho : W'.ownsRow W1.heap.size 3 1 v' (ps.length + 1) ((nvals ps).flatten ++ [.int .i64 (p : Nat)])) (hg : W.grownBy W' v.ownBlock) :
    NI W1 nS os cap xs (ps ++ [p]) v' W' := by
  have B1 : Below W1.heap.size W W' := grown_below h.own hg h.hb
  refine ⟨grown_low h.gr B1, h.src.low h.i0 h.hs B1, ?_, Nat.le_trans h.hb B1.size, h.hs, h.i0⟩
  rw [nflat_snoc, List.length_append]
  exact ho
theorem nvals_len (ps : List Nat) : (nvals ps).length = ps.length := by simp [nvals]
theorem nvals_one (ps : List Nat) : ∀ r ∈ nvals ps, r.length = 1 := by
  intro r hr; simp [nvals] at hr; obtain ⟨a, _, rfl⟩ := hr; rfl
theorem NI.done {W1 W : World} {nS : Nat} {os : Option Addr} {cap : Nat} {xs : List Int} {ps : List Nat} {v : Value} (h : NI W1 nS os cap xs ps v W) : ∃ oa ca, v = .slice oa ps.length ca ∧ Sl W oa 1 (nvals ps) ∧ ∀ a, oa = some a → W1.heap.size ≤ a.block := by
  have ho := h.own
  rw [← nvals_len] at ho
  obtain ⟨oa, ca, hv, hs⟩ := own_rows (nvals_one ps) ho
  rw [nvals_len] at hv
  subst hv
  exact ⟨oa, ca, rfl, hs, own_fresh ho⟩

/-- What Vertices answers. -/
def VertP (T : Tm) (w : World) (e : Ending) (W : World) : Prop := ∃ (ps : List Nat) (oa : Option Addr) (ca : Nat), e = .returned (.slice oa ps.length ca) ∧ ps.length = T.ms.length ∧ (∀ (k x : Nat) (m : Mp), ps[k]? = some x → T.ms[k]? = some m → x < m.n) ∧ Sl W oa 1 (nvals ps) ∧ Below w.heap.size w W ∧ ∀ a, oa = some a → w.heap.size ≤ a.block

set_option maxRecDepth 100000 in
set_option maxHeartbeats 4000000 in
theorem verts_any (om oc os : Option Addr) (cm cc cap : Nat) (T : Tm) (xs : List Int) (w : World) (hO : TeamOk T) (hT : TeamAt w om oc T) (hX : Sl w os 1 (pvals xs)) (hxl : xs.length ≤ 9223372036854775807) :
    Calls Try.prog 10 #[T.val om oc cm cc, .slice os xs.length cap] w (VertP T w) := by
  unfold Tm.val
  obtain ⟨n1, n2, mo, cn, cf⟩ := id hO
  have HMO := Lib.hid mo
  clear hO mo cf cn
  obtain ⟨bm, offm, rfl, hMr⟩ := hT.ms (map_ne (k := 0) (by omega))
  clear hT
  go_enter Try.func10, Try.ntmps10
  go_upto_region 1 with fail
  have hbx_ := boxes1 w [.slice (some ⟨bm, offm, none⟩) T.ms.length cm, .slice oc T.cs.length cc] 26
  replace hMr := hMr.keep hbx_.2
  replace hX := hX.keep hbx_.2
  have HB := Lib.hid (hbx_.2)
  have hod : w.heap.size ≤ w.heap.size := by omega
  generalize w.alloc (.cells #[.slice (some ⟨bm, offm, none⟩) T.ms.length cm, .slice oc T.cs.length cc] 26) = W0 at hbx_ hMr hX HB ⊢
  obtain ⟨r2, hbel_⟩ := hbx_
  obtain ⟨n2', hn_⟩ : ∃ n, n = w.heap.size := ⟨_, rfl⟩
  rw [← hn_] at r2 ⊢
  replace hod := Nat.le_of_eq hn_.symm
  clear hn_ hbel_
  go_wp2_with fail
  refine (from_any os cap xs.length W0).mono ?_
  rintro e W1 ⟨rfl, rfl⟩
  have hbA : Below W0.heap.size W0 (W0.alloc (.cells #[.slice os xs.length cap, .int .i64 0] 116)) := (Below.refl _ _).alloc (Nat.le_refl _) _
  have hC2 := Cells2.new W0 (.slice os xs.length cap) (.int .i64 0) 116
  have hl2 := r2.lt
  replace r2 := r2.keep hbA
  have hlm := hMr.lt
  replace hMr := hMr.keep hbA
  have hX1 := hX.keep hbA
  have hoff : pvals xs ≠ [] → ∀ b o s, os = some ⟨b, o, s⟩ → b ≠ W0.heap.size := fun h b o s he => by
    obtain ⟨b', off', e1, hr⟩ := hX h
    rw [he] at e1; injection e1 with e1; injection e1 with e1 _ _
    have := hr.lt; omega
  have hS : Src (W0.alloc (.cells #[.slice os xs.length cap, .int .i64 0] 116)) W0.heap.size os cap xs := ⟨⟨0, by omega, hC2⟩, hX1, fun h => hoff (fun h0 => h (by simpa [pvals] using h0)), hxl⟩
  have HB1 := Lib.hid (below_call HB.out hbA)
  have hnS : w.heap.size ≤ W0.heap.size := HB.out.size
  clear hbA hC2 hX HB hoff
  generalize W0.alloc (.cells #[.slice os xs.length cap, .int .i64 0] 116) = W1 at *
  generalize W0.heap.size = nS at *
  have hI : NI W1 nS os cap xs [] (.slice none 0 0) W1 := ⟨grown_of_below (Below.refl _ _), hS, World.ownsRow_nil _ _ _ _, Nat.le_refl _, src_lt hS, hX1⟩
  have hr2 : n2' ≠ nS := by omega
  have hrm : bm ≠ nS := by omega
  clear hS hX1
  go_wp2_with fail
  go_loopw [6, 7] (fun v i W => ∃ ps : List Nat, ps.length ≤ T.ms.length ∧ i = .int .i64 (ps.length : Nat) ∧ (∀ (k x : Nat) (m : Mp), ps[k]? = some x → T.ms[k]? = some m → x < m.n) ∧ NI W1 nS os cap xs ps v W) (fun _ i _ => T.ms.length - (intOf i).toNat)
  case atStart => exact ⟨[], by simp, rfl, by simp, hI⟩
  case round =>
    clear hI
    obtain ⟨ps, hk, rfl, hV, hI⟩ := hrel
    have HV := Lib.hid hV
    clear hV
    have R2 := r2.keepG hI.gr hr2
    have s0 : wr.cell? ⟨n2', 0, none⟩ = some (.slice (some ⟨bm, offm, none⟩) T.ms.length cm) := R2.c 0 _ rfl
    have l2 := R2.lt
    by_cases hlt : ps.length < T.ms.length
    · obtain ⟨m, hm⟩ : ∃ r, T.ms[ps.length]? = some r := ⟨_, List.getElem?_eq_getElem hlt⟩
      have x0 : wr.cell? ⟨bm, offm + ps.length * 2, none⟩ = some (.slice m.op m.n m.cp) := (hMr.keepG hI.gr hrm).c _ _ (map_get hm) 0 _ rfl
      have hn := HMO.out m (List.mem_of_getElem? hm)
      have hn1 := hn.n1
      have hn2 := hn.n2
      have HM := Lib.hid hm
      clear hn hm
      go_wp2_with fail
      refine (next_any wr nS os cap xs m.n hI.src (by omega) (by omega)).mono ?_
      rintro e W2 ⟨q, q0, q1, rfl, hg2, hS2, -⟩
      obtain ⟨q, rfl, q2⟩ := nat_int q0 q1
      replace hI := hI.call hg2 hS2
      clear hg2 hS2 x0 s0 l2 R2
      obtain ⟨i0, hi, hz0, hz1, hz2⟩ := info_parts info3
      have HC2 := Lib.hid (hI.keep (W' := W2.alloc (.cells #[.int .i64 (q : Nat)] 3)) ((Below.refl _ _).alloc (Nat.le_refl _) _))
      go_wp2_with (at_builtin; refine wpList_append_own _ rfl _ _ 22 rfl W1.heap.size 3 i0 (.int .i64 0) 1 8 under22 hi hz0 hz1 hz2 rfl (by decide) _ _ _ rfl HC2.out.own ⟨W2.heap.size, 0, none⟩ 1 1 [.int .i64 (q : Nat)] rfl rfl ?c1 ?c2 ?c3 ?c4 ?c5 ?_)
      case c1 => exact new_cells _ _ _
      case c2 => intro u hu; simp at hu; subst hu; rfl
      case c3 => unfold maxLen; omega
      case c4 => omega
      case c5 => exact HC2.out.hb
      intro v' w' hown' hgrow _
      have HN := Lib.hid (HC2.out.app hown' hgrow)
      clear hown' hgrow HC2 hI hi hz0 hz1 hz2
      go_wp2
      go_roundw
      case rel =>
        refine ⟨ps ++ [q], by simp; omega, by simp, fun k x m' hk' hm' => ?_, HN.out⟩
        rcases Nat.lt_trichotomy k ps.length with h | h | h
        · exact HV.out k x m' (by rwa [List.getElem?_append_left h] at hk') hm'
        · subst h
          rw [HM.out] at hm'
          cases hm'
          simp at hk'
          omega
        · rw [List.getElem?_eq_none (by simp; omega)] at hk'; cases hk'
      case measure => simp [intOf]; omega
    · obtain ⟨oa, ca, rfl, hs, hf⟩ := hI.done
      have hle : ps.length = T.ms.length := by omega
      have HI := Lib.hid hI
      have HS := Lib.hid hs
      have HF := Lib.hid hf
      clear hI hs hf
      go_wp2
      go_ret
      refine ⟨ps, oa, ca, rfl, hle, HV.out, HS.out, ?_, fun a ha => Nat.le_trans HB1.out.size (HF.out a ha)⟩
      exact (grown_fresh HB1.out HI.out.gr hnS)
end Go.Proofs.Jn
end

section
/-
  The maker's Team: what holds on the way.
-/
namespace Go.Proofs.Jn
open Go.RowKit

/-- The slice of a roadmap's edges. -/
def Mp.ev (m : Mp) : Value := .slice m.oe m.es.length m.ce
/-- The roadmaps that are made. -/
structure DoneM (W : World) (base : Nat) (ms : List Mp) (v u : Value) : Prop where
  own : ∀ m ∈ ms, W.ownsRow base 54 12 m.ev m.es.length (m.es.map Ed.vals).flatten
  apt : ms.Pairwise fun a b => ∀ g, a.ev.ownBlock = some g → b.ev.ownBlock ≠ some g
  av : ∀ m ∈ ms, ∀ g, m.ev.ownBlock = some g → v.ownBlock ≠ some g ∧ u.ownBlock ≠ some g
theorem DoneM.keepQ {W W' : World} {base : Nat} {ms : List Mp} {v u v' u' : Value} (h : DoneM W base ms v u) (hb : ∀ g, base ≤ g → g < W.heap.size → v.ownBlock ≠ some g → u.ownBlock ≠ some g → W'.heap[g]? = W.heap[g]?)
    (hv : ∀ g, v'.ownBlock = some g → v.ownBlock = some g ∨ W.heap.size ≤ g) (hu : ∀ g, u'.ownBlock = some g → u.ownBlock = some g ∨ W.heap.size ≤ g) : DoneM W' base ms v' u' := by
  refine ⟨fun m hm => own_blk (h.own m hm) fun g hg hl hbg => hb g hbg hl (h.av m hm g hg).1 (h.av m hm g hg).2, h.apt, fun m hm g hg => ⟨fun hc => ?_, fun hc => ?_⟩⟩
  · rcases hv g hc with h1 | h1
    · exact (h.av m hm g hg).1 h1
    · have := (own_lt (h.own m hm) g hg).1; omega
  · rcases hu g hc with h1 | h1
    · exact (h.av m hm g hg).2 h1
    · have := (own_lt (h.own m hm) g hg).1; omega
theorem DoneM.keepG {W W' : World} {base nS : Nat} {ms : List Mp} {v u : Value} (h : DoneM W base ms v u) (hg : W.grownBy W' (some nS)) (hn : nS < base) : DoneM W' base ms v u :=
  h.keepQ (fun g hb hl _ _ => hg.block g hl (fun e => by injection e; omega)) (fun _ h => .inl h) (fun _ h => .inl h)
theorem DoneM.keep {W W' : World} {base : Nat} {ms : List Mp} {v u : Value} (h : DoneM W base ms v u) (hb : Below W.heap.size W W') : DoneM W' base ms v u :=
  h.keepQ (fun g _ hl _ _ => hb.block g hl) (fun _ h => .inl h) (fun _ h => .inl h)
theorem DoneM.snoc {W : World} {base : Nat} {ms : List Mp} {v u : Value} (h : DoneM W base ms v u) (m : Mp) (ho : W.ownsRow base 54 12 m.ev m.es.length (m.es.map Ed.vals).flatten)
    (hn : ∀ g, m.ev.ownBlock = some g → (∀ a ∈ ms, a.ev.ownBlock ≠ some g) ∧ v.ownBlock ≠ some g ∧ u.ownBlock ≠ some g) : DoneM W base (ms ++ [m]) v u := by
  refine ⟨fun a ha => ?_, ?_, fun a ha g hg => ?_⟩
  · rcases List.mem_append.1 ha with ha | ha
    · exact h.own a ha
    · simp at ha; subst ha; exact ho
  · rw [List.pairwise_append]
    refine ⟨h.apt, by simp, fun a ha b hb g hg hc => ?_⟩
    simp at hb; subst hb
    exact (hn g hc).1 a ha hg
  · rcases List.mem_append.1 ha with ha | ha
    · exact h.av a ha g hg
    · simp at ha; subst ha; exact (hn g hg).2
/-- A roadmap as the maker makes it. -/
structure MadeM (m : Mp) : Prop where
  ok : MapOk m
  n4 : 2 ≤ m.n ∧ m.n ≤ 4
  st : ∀ e ∈ m.es, e.st = 1
  n6 : m.es.length ≤ 16
/-- Edges that ascend, all ahead of a pair. -/
structure EdsTo (n : Nat) (es : List Ed) (pu pv : Nat) : Prop where
  ed : ∀ e ∈ es, e.u < e.v ∧ e.v < n ∧ 0 ≤ e.c ∧ e.c ≤ 1099511627776
  asc : ∀ (k : Nat) (e f : Ed), es[k]? = some e → es[k + 1]? = some f → e.u < f.u ∨ (e.u = f.u ∧ e.v < f.v)
  tt : ∀ e ∈ es, e.u < pu ∨ (e.u = pu ∧ e.v < pv)
  st : ∀ e ∈ es, e.st = 1
  len : es.length ≤ pu * 4 + pv
theorem EdsTo.nil (n pu pv : Nat) : EdsTo n [] pu pv := ⟨by simp, by simp, by simp, by simp, by simp⟩
theorem EdsTo.mono {n pu pv qu qv : Nat} {es : List Ed} (h : EdsTo n es pu pv) (hq : pu < qu ∨ (pu = qu ∧ pv ≤ qv)) (hl : pu * 4 + pv ≤ qu * 4 + qv) : EdsTo n es qu qv :=
  ⟨h.ed, h.asc, fun e he => by have := h.tt e he; omega, h.st, Nat.le_trans h.len hl⟩
theorem EdsTo.snoc {n pu pv : Nat} {es : List Ed} (h : EdsTo n es pu pv) (e : Ed) (hu : e.u = pu) (hv : e.v = pv) (huv : pu < pv) (hn : pv < n) (hc : 0 ≤ e.c ∧ e.c ≤ 1099511627776) (hs : e.st = 1) : EdsTo n (es ++ [e]) pu (pv + 1) := by
  refine ⟨fun f hf => ?_, fun k f g h1 h2 => ?_, fun f hf => ?_, fun f hf => ?_, by have := h.len; simp; omega⟩
  · rcases List.mem_append.1 hf with hf | hf
    · exact h.ed f hf
    · simp at hf; subst hf; rw [hu, hv]; exact ⟨huv, hn, hc⟩
  · rcases Nat.lt_trichotomy (k + 1) es.length with hk | hk | hk
    · rw [List.getElem?_append_left (by omega)] at h1
      rw [List.getElem?_append_left hk] at h2
      exact h.asc k f g h1 h2
    · rw [List.getElem?_append_left (by omega)] at h1
      rw [hk] at h2
      simp at h2; subst h2
      have := h.tt f (List.mem_of_getElem? h1)
      omega
    · rw [List.getElem?_eq_none (by simp; omega)] at h2; cases h2
  · rcases List.mem_append.1 hf with hf | hf
    · have := h.tt f hf; omega
    · simp at hf; subst hf; omega
  · rcases List.mem_append.1 hf with hf | hf
    · exact h.st f hf
    · simp at hf; subst hf; exact hs
theorem EdsTo.made {n pu pv : Nat} {es : List Ed} (h : EdsTo n es pu pv) (hl : pu * 4 + pv ≤ 16) (h2 : 2 ≤ n) (h4 : n ≤ 4) (op oe : Option Addr) (cp ce : Nat) : MadeM ⟨n, op, cp, oe, ce, es⟩ :=
  ⟨⟨by show 1 ≤ n; omega, by show n ≤ 1000; omega, by have := h.len; show es.length ≤ 1000; omega, h.ed, h.asc⟩, ⟨h2, h4⟩, h.st, by have := h.len; show es.length ≤ 16; omega⟩
theorem own_slice {W : World} {base : Nat} {e : TypeId} {size n : Nat} {v : Value} {xs : List Value} (h : W.ownsRow base e size v n xs) : ∃ oa ca, v = .slice oa n ca := by
  rcases h.2 with ⟨rfl, h0⟩ | ⟨g, cap, cur, rfl, _⟩
  · exact ⟨none, 0, by rw [h0]⟩
  · exact ⟨_, cap, rfl⟩
end Go.Proofs.Jn
end

section
/-
  Maps: what a reading and a writing of an entry do, by the list of the entries.
-/
namespace Go.Proofs.Jn
open Go.RowKit Go.Instr

theorem r4 : List.range' 0 4 = [0, 1, 2, 3] := rfl
theorem r2 : List.range' 0 2 = [0, 1] := rfl
theorem run_isAgg3 (w : World) : (isAgg 3).run Try.prog w = .ok false w := by
  simp [isAgg, go_sem, ]
theorem run_sizeOf3 (w : World) : (Go.sizeOf 3).run Try.prog w = .ok 1 w := by
  obtain ⟨i, hi, _, hs, _⟩ := info_parts info3
  simp [Go.sizeOf, typeInfo, go_sem, hi, hs]
theorem run_part3 (cs : Array Value) (i : Nat) (v : Value) (h : cs[i]? = some v) (w : World) : (part 3 cs i).run Try.prog w = .ok v w := by
  simp [part, go_sem,  h]
theorem eq3d (n : Nat) (a b : Int) (w : World) : (Op.equalIn (n + 1) 3 (.int .i64 a) (.int .i64 b)).run Try.prog w = .ok (a == b) w := by
  simp [Op.equalIn, go_sem, ]
theorem chk3d (n : Nat) (e : Bool) (a : Int) (w : World) : (checkKey e (n + 1) 3 (.int .i64 a)).run Try.prog w = .ok () w := by
  simp [checkKey, go_sem, ]
theorem eq84d (n : Nat) (a b c d x y z u : Int) (w : World) : (Op.equalIn (n + 2) 84 (.agg #[.int .i64 a, .int .i64 b, .int .i64 c, .int .i64 d]) (.agg #[.int .i64 x, .int .i64 y, .int .i64 z, .int .i64 u])).run Try.prog w = .ok (decide (a = x ∧ b = y ∧ c = z ∧ d = u)) w := by
  rw [Op.equalIn]
  simp [r4, go_sem,    eq3d]
  by_cases h1 : a = x <;> by_cases h2 : b = y <;> by_cases h3 : c = z <;> by_cases h4 : d = u <;> simp [h1, h2, h3, h4]
theorem chk84d (n : Nat) (e : Bool) (a b c d : Int) (w : World) : (checkKey e (n + 2) 84 (.agg #[.int .i64 a, .int .i64 b, .int .i64 c, .int .i64 d])).run Try.prog w = .ok () w := by
  rw [checkKey]
  simp [r4, go_sem,    chk3d]
theorem info65 : (Try.prog.info? 65).map (fun i => (i.zero, i.size, i.bytes)) = some (some (.agg #[.int .i64 0, .int .i64 0, .int .i64 0]), 3, 24) := by kernel_rfl
theorem run_isAgg65 (w : World) : (isAgg 65).run Try.prog w = .ok true w := by
  simp [isAgg, go_sem, ]
theorem run_sizeOf65 (w : World) : (Go.sizeOf 65).run Try.prog w = .ok 3 w := by
  obtain ⟨i, hi, _, hs, _⟩ := info_parts info65
  simp [Go.sizeOf, typeInfo, go_sem, hi, hs]
theorem run_part65 (cs : Array Value) (i : Nat) (w : World) : (part 65 cs i).run Try.prog w = .ok (.agg (cs.extract i (i + 3))) w := by
  simp [part, go_sem,  ]
theorem eq65d (n : Nat) (a b c x y z : Int) (w : World) : (Op.equalIn (n + 2) 65 (.agg #[.int .i64 a, .int .i64 b, .int .i64 c]) (.agg #[.int .i64 x, .int .i64 y, .int .i64 z])).run Try.prog w = .ok (decide (a = x ∧ b = y ∧ c = z)) w := by
  have h0 : Try.prog.stoodInHeld 65 = false := by kernel_rfl
  rw [Op.equalIn]
  simp [go_sem, h0,    eq3d]
  by_cases h1 : a = x <;> by_cases h2 : b = y <;> by_cases h3 : c = z <;> simp [h1, h2, h3]
theorem chk65d (n : Nat) (e : Bool) (a b c : Int) (w : World) : (checkKey e (n + 2) 65 (.agg #[.int .i64 a, .int .i64 b, .int .i64 c])).run Try.prog w = .ok () w := by
  rw [checkKey]
  simp [go_sem,   chk3d]
theorem eq130d (n : Nat) (a b c d e f x y z u v t : Int) (w : World) : (Op.equalIn (n + 3) 130 (.agg #[.int .i64 a, .int .i64 b, .int .i64 c, .int .i64 d, .int .i64 e, .int .i64 f]) (.agg #[.int .i64 x, .int .i64 y, .int .i64 z, .int .i64 u, .int .i64 v, .int .i64 t])).run Try.prog w = .ok (decide (a = x ∧ b = y ∧ c = z) && decide (d = u ∧ e = v ∧ f = t)) w := by
  rw [Op.equalIn]
  simp [r2, go_sem,    eq65d]
  by_cases h1 : a = x <;> by_cases h2 : b = y <;> by_cases h3 : c = z <;> by_cases h4 : d = u <;> by_cases h5 : e = v <;> by_cases h6 : f = t <;> simp [h1, h2, h3, h4, h5, h6]
theorem chk130d (n : Nat) (o : Bool) (a b c d e f : Int) (w : World) : (checkKey o (n + 3) 130 (.agg #[.int .i64 a, .int .i64 b, .int .i64 c, .int .i64 d, .int .i64 e, .int .i64 f])).run Try.prog w = .ok () w := by
  rw [checkKey]
  simp [r2, go_sem,    chk65d]

/-- Keys that are told apart by what they stand for. -/
structure KeyL {α : Type} [DecidableEq α] (kt : TypeId) (enc : α → Value) : Prop where
  eqv : ∀ a b w, (Op.equal kt (enc a) (enc b)).run Try.prog w = .ok (decide (a = b)) w
  chk : ∀ e a w, (checkKey e 10000 kt (enc a)).run Try.prog w = .ok () w
  bits : ∀ a, sameBits 10000 (enc a) (enc a) = true
  now : ∃ d, Try.prog.underlying kt = some d ∧ ∀ a b, sameNow d (enc a) (enc b) = none

section
variable {α : Type} [DecidableEq α] {kt : TypeId} {enc : α → Value}
/-- The entries of a map, in the order in which they came. -/
def entL (enc : α → Value) : List (α × Value) → Nat → List MapEntry
  | [], _ => []
  | (a, v) :: r, n => ⟨enc a, v, n⟩ :: entL enc r (n + 1)
theorem entL_len {α : Type} {enc : α → Value} (l : List (α × Value)) : ∀ n, (entL enc l n).length = l.length := by
  induction l with
  | nil => intro n; rfl
  | cons x r ih => intro n; simp [entL, ih]
/-- The place of a key and its value. -/
def findL : List (α × Value) → α → Nat → Option (Nat × Value)
  | [], _, _ => none
  | (b, v) :: r, a, n => if a = b then some (n, v) else findL r a (n + 1)
theorem run_findAsking (K : KeyL kt enc) (a : α) (w : World) : ∀ (l : List (α × Value)) (n i : Nat), (findAsking kt (enc a) (entL enc l n) i).run Try.prog w = .ok (findL l a i) w
  | [], n, i => by simp [entL, findAsking, findL, go_sem]
  | (b, v) :: r, n, i => by
    simp only [entL, findAsking, findL]
    by_cases h : a = b
    · simp [K.eqv, h, go_sem]
    · simp [K.eqv, h, go_sem, run_findAsking K a w r]
theorem run_findKey (K : KeyL kt enc) (a : α) (w : World) (l : List (α × Value)) (n : Nat) : (findKey kt (enc a) (entL enc l n)).run Try.prog w = .ok (findL l a 0) w := by
  obtain ⟨d, hd, hn⟩ := K.now
  unfold findKey
  cases l with
  | nil => simp [entL, findNow, findL, go_sem, run_underlying (h := hd)]
  | cons x r =>
    obtain ⟨b, v⟩ := x
    have := run_findAsking K a w ((b, v) :: r) n 0
    simp only [entL] at this
    simp [entL, findNow, hn, go_sem, run_underlying (h := hd), this]
/-- A map's block. -/
def MapIs (W : World) (g : Nat) (enc : α → Value) (l : List (α × Value)) : Prop := W.heap[g]? = some (.map (entL enc l 0).toArray l.length)
theorem run_lookup (K : KeyL kt enc) {t et : TypeId} {z : Value} (hu : Try.prog.underlying t = some (.map kt et)) (W : World) (g : Nat) (l : List (α × Value)) (a : α) (hz : (zeroValue et).run Try.prog W = .ok z W) (hm : MapIs W g enc l) :
    (lookup t (.map (some g)) (enc a) false).run Try.prog W = .ok (((findL l a 0).map (·.2)).getD z) W := by
  unfold MapIs at hm
  unfold lookup
  simp [go_sem, run_underlying (h := hu), getObj, Sem.run, hm]
  rw [K.chk]
  simp only [Result.andThen_ok]
  rw [run_findKey K]
  simp only [Result.andThen_ok]
  cases h : findL l a 0 with
  | none => simpa [h] using hz
  | some x => obtain ⟨i, v⟩ := x; simp [ go_sem]
theorem findL_lt {l : List (α × Value)} {a : α} {v : Value} : ∀ {n i : Nat}, findL l a n = some (i, v) → n ≤ i ∧ l[i - n]? = some (a, v) := by
  induction l with
  | nil => intro n i h; cases h
  | cons x r ih =>
    obtain ⟨b, u⟩ := x
    intro n i h
    simp only [findL] at h
    split at h
    · rename_i hab
      injection h with h; injection h with h1 h2
      subst h1 h2 hab
      simp
    · have := ih h
      refine ⟨by omega, ?_⟩
      rw [show i - n = (i - (n + 1)) + 1 by omega]
      simpa using this.2
/-- The entries behind a writing. -/
def putL : List (α × Value) → α → Value → List (α × Value)
  | [], a, v => [(a, v)]
  | (b, u) :: r, a, v => if a = b then (b, v) :: r else (b, u) :: putL r a v
theorem entL_get {α : Type} {enc : α → Value} (l : List (α × Value)) : ∀ (n i : Nat), (entL enc l n)[i]? = (l[i]?).map fun x => ⟨enc x.1, x.2, n + i⟩ := by
  induction l with
  | nil => intro n i; simp [entL]
  | cons x r ih =>
    intro n i
    cases i with
    | zero => simp [entL]
    | succ i => simp [entL, ih, Nat.add_assoc, Nat.add_comm 1 i]
theorem entL_app {α : Type} {enc : α → Value} (a : α) (v : Value) : ∀ (l : List (α × Value)) (n : Nat), entL enc (l ++ [(a, v)]) n = entL enc l n ++ [⟨enc a, v, n + l.length⟩]
  | [], n => by simp [entL]
  | (b, u) :: r, n => by simp [entL, entL_app a v r (n + 1), Nat.add_assoc, Nat.add_comm 1]
theorem putL_none {l : List (α × Value)} {a : α} {v : Value} : ∀ {n : Nat}, findL l a n = none → putL l a v = l ++ [(a, v)] := by
  induction l with
  | nil => intro n h; rfl
  | cons x r ih =>
    obtain ⟨b, u⟩ := x
    intro n h
    simp only [findL] at h
    split at h
    · cases h
    · rename_i hab
      simp only [putL, if_neg hab, List.cons_append]
      rw [ih h]
theorem putL_some {l : List (α × Value)} {a : α} {u v : Value} : ∀ {n i : Nat}, findL l a n = some (i, u) → putL l a v = l.modify (i - n) (fun x => (x.1, v)) := by
  induction l with
  | nil => intro n i h; cases h
  | cons x r ih =>
    obtain ⟨b, y⟩ := x
    intro n i h
    simp only [findL] at h
    split at h
    · rename_i hab
      injection h with h; injection h with h1 h2
      subst h1
      simp [putL, hab]
    · rename_i hab
      have hlt := (findL_lt h).1
      simp only [putL, if_neg hab]
      rw [ih h, show i - n = (i - (n + 1)) + 1 by omega]
      simp
theorem entL_mod {α : Type} {enc : α → Value} (v : Value) : ∀ (l : List (α × Value)) (n i : Nat) (a : α), ((l[i]?).map (·.1) = some a) → (entL enc l n).modify i (fun e => { e with key := enc a, val := v }) = entL enc (l.modify i fun x => (x.1, v)) n
  | [], n, i, a, h => by simp at h
  | (b, u) :: r, n, 0, a, h => by simp at h; subst h; simp [entL]
  | (b, u) :: r, n, i + 1, a, h => by
    simp at h
    simp only [entL, List.modify_succ_cons]
    rw [entL_mod v r (n + 1) i a (by simpa using h)]
/-- A world in which a map's block is another one. -/
def wput (W : World) (g : Nat) (enc : α → Value) (l : List (α × Value)) : World := { W with heap := W.heap.setIfInBounds g (.map (entL enc l 0).toArray l.length) }
theorem run_mapUpdate (K : KeyL kt enc) {t et : TypeId} (hu : Try.prog.underlying t = some (.map kt et)) (W : World) (g : Nat) (l : List (α × Value)) (a : α) (v : Value) (hm : MapIs W g enc l) :
    (mapUpdate t (.map (some g)) (enc a) v).run Try.prog W = .ok () (wput W g enc (putL l a v)) := by
  unfold MapIs at hm
  unfold mapUpdate
  simp [go_sem, run_underlying (h := hu), getObj, Sem.run, hm]
  rw [K.chk]
  simp only [Result.andThen_ok]
  rw [run_findKey K]
  simp only [Result.andThen_ok]
  cases h : findL l a 0 with
  | none =>
    rw [putL_none h]
    simp [go_sem, setObj, hm, wput, entL_app, Sem.run]
  | some x =>
    obtain ⟨i, u⟩ := x
    have hlt := findL_lt h
    simp only [Nat.sub_zero, Nat.zero_le, true_and] at hlt
    rw [putL_some h]
    simp [entL_get, hlt, keyThatStays, K.bits, go_sem, setObj, hm, wput, Sem.run]
    rw [← entL_mod v l 0 i a (by simp [hlt])]
theorem MapIs.put {α : Type} {enc : α → Value} {W : World} {g : Nat} {l l' : List (α × Value)} (hm : MapIs W g enc l) : MapIs (wput W g enc l') g enc l' := by
  have : g < W.heap.size := by
    rcases Nat.lt_or_ge g W.heap.size with h | h
    · exact h
    · unfold MapIs at hm; rw [Array.getElem?_eq_none h] at hm; cases hm
  unfold MapIs wput
  simp [this]
theorem wput_heap {α : Type} {enc : α → Value} (W : World) (g q : Nat) (l : List (α × Value)) (h : q ≠ g) : (wput W g enc l).heap[q]? = W.heap[q]? := by
  unfold wput
  simp [ Ne.symm h]
theorem wput_grown {α : Type} {enc : α → Value} (W : World) (g : Nat) (l : List (α × Value)) : W.grownBy (wput W g enc l) (some g) :=
  ⟨rfl, rfl, rfl, by simp [wput], fun k _ hn => wput_heap W g k l (fun e => hn (by rw [e]))⟩
theorem MapIs.keep {α : Type} {enc : α → Value} {W W' : World} {g : Nat} {l : List (α × Value)} (hm : MapIs W g enc l) (hb : Below W.heap.size W W') : MapIs W' g enc l := by
  have : g < W.heap.size := by
    rcases Nat.lt_or_ge g W.heap.size with h | h
    · exact h
    · unfold MapIs at hm; rw [Array.getElem?_eq_none h] at hm; cases hm
  unfold MapIs at *
  rw [hb.block g this]; exact hm
theorem MapIs.lt {α : Type} {enc : α → Value} {W : World} {g : Nat} {l : List (α × Value)} (hm : MapIs W g enc l) : g < W.heap.size := by
  rcases Nat.lt_or_ge g W.heap.size with h | h
  · exact h
  · unfold MapIs at hm; rw [Array.getElem?_eq_none h] at hm; cases hm
theorem run_lenM {α : Type} {enc : α → Value} {t et ty : TypeId} (hu : Try.prog.underlying t = some (.map kt et)) (W : World) (g : Nat) (l : List (α × Value)) (hm : MapIs W g enc l) :
    (Builtin.len_ #[t] ty #[.map (some g)]).run Try.prog W = .ok (.int .i64 l.length) W := by
  unfold MapIs at hm
  unfold Builtin.len_
  simp [go_sem, run_underlying (h := hu), getObj, Sem.run, hm, entL_len]
  done
end
/-- A state of a team: a vertex for each of four arms, -1 where there is none. -/
structure S4 where
  a : Int
  b : Int
  c : Int
  d : Int
deriving DecidableEq
def S4.v (s : S4) : Value := .agg #[.int .i64 s.a, .int .i64 s.b, .int .i64 s.c, .int .i64 s.d]
def enc2 (p : Mv × Mv) : Value := .agg #[.int .i64 (p.1.arm : Nat), .int .i64 (p.1.x : Nat), .int .i64 (p.1.y : Nat), .int .i64 (p.2.arm : Nat), .int .i64 (p.2.x : Nat), .int .i64 (p.2.y : Nat)]
theorem k84 : KeyL 84 S4.v where
  eqv s t w := by
    refine (eq84d 9998 s.a s.b s.c s.d t.a t.b t.c t.d w).trans ?_
    congr 1
    cases s; cases t; simp
  chk e s w := chk84d 9998 e s.a s.b s.c s.d w
  bits s := by cases s; simp [S4.v, sameBits]
  now := ⟨_, Try.underlying84, fun a b => rfl⟩
theorem k130 : KeyL 130 enc2 where
  eqv s t w := by
    refine (eq130d 9997 s.1.arm s.1.x s.1.y s.2.arm s.2.x s.2.y t.1.arm t.1.x t.1.y t.2.arm t.2.x t.2.y w).trans ?_
    congr 1
    obtain ⟨⟨a, b, c⟩, d, e, f⟩ := s
    obtain ⟨⟨x, y, z⟩, u, v, t⟩ := t
    simp only [Prod.mk.injEq, Mv.mk.injEq, Int.ofNat_inj, Bool.decide_and]
  chk e s w := chk130d 9997 e s.1.arm s.1.x s.1.y s.2.arm s.2.x s.2.y w
  bits s := by simp [enc2, sameBits]
  now := ⟨_, Try.underlying130, fun a b => rfl⟩
end Go.Proofs.Jn
end

