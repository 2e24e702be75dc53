/-
  Texts put together: Ec Ed Ee.
-/
import Derived.Test.YtemchlakoalhcaaZJointMoves16
import Derived.Defers
import Derived.Recover
import Derived.Laws.MakeOwn
set_option linter.unusedVariables false
section
/-
  Walks: Components.
-/
namespace Go.Proofs.Jn
open Go.RowKit Go.Shelf

theorem made_zero (n : Nat) : madeCells #[Value.int .i64 0] n = Array.replicate n (Value.int .i64 0) := by
  apply Array.ext
  · simp [madeCells]
  · intro i h1 h2
    simp [madeCells, Nat.mod_one]
theorem run_make22 (n : Nat) (hn : n ≤ 1000) (u : World) : (Instr.makeSlice 22 (.int .i64 (n : Nat)) (.int .i64 (n : Nat))).run Try.prog u = .ok (.slice (some ⟨u.heap.size, 0, none⟩) n n) (u.alloc (.cells (Array.replicate n (Value.int .i64 0)) 3)) := by
  obtain ⟨i, hi, hz, hs, hb⟩ := info_parts info3
  have := run_makeSlice (P := Try.prog) u 22 3 i (.int .i64 0) under22 hi hz .i64 .i64 n n (by omega) (Int.le_refl _) (by rw [hs]; simp; omega) (by rw [hb]; simp; omega) (by omega)
  rw [hs] at this
  simp only [Int.toNat_natCast, Nat.mul_one] at this
  have hc : madeCells (Value.int .i64 0).cells n = Array.replicate n (Value.int .i64 0) := made_zero n
  rw [this, hc]
/-- The first entries are their places, the others nought. -/
def upL (n k : Nat) : List Nat := (List.range n).map fun i => if i < k then i else 0
theorem upL_len (n k : Nat) : (upL n k).length = n := by simp [upL]
theorem upL_zero (n : Nat) : upL n 0 = List.replicate n 0 := by
  apply List.ext_getElem
  · simp [upL]
  · intro i h1 h2; simp [upL]
theorem upL_all (n : Nat) : upL n n = List.range n := by
  apply List.ext_getElem
  · simp [upL]
  · intro i h1 h2; simp [upL] at h1 ⊢; omega
theorem upL_set (n k : Nat) (h : k < n) : (upL n k).set k k = upL n (k + 1) := by
  apply List.ext_getElem
  · simp [upL]
  · intro i h1 h2
    simp only [upL, List.getElem_set, List.getElem_map, List.getElem_range]
    by_cases e : k = i
    · subst e; simp
    · rw [if_neg e]
      by_cases h3 : i < k
      · rw [if_pos h3, if_pos (by omega)]
      · rw [if_neg h3, if_neg (by omega)]
/-- What Components computes. -/
def compStep (L : List Nat) (e : Ed) : List Nat := if e.st = 1 then (rootF (e.v + 1) (rootF (e.u + 1) L e.u).2 e.v).2.set (max (rootF (e.u + 1) L e.u).1 (rootF (e.v + 1) (rootF (e.u + 1) L e.u).2 e.v).1) (min (rootF (e.u + 1) L e.u).1 (rootF (e.v + 1) (rootF (e.u + 1) L e.u).2 e.v).1) else L
def compE (m : Mp) (k : Nat) : List Nat := (m.es.take k).foldl compStep (List.range m.n)
def finStep (L : List Nat) (i : Nat) : List Nat := (rootF (i + 1) L i).2.set i (rootF (i + 1) L i).1
def finE (L : List Nat) : Nat → List Nat
  | 0 => L
  | k + 1 => finStep (finE L k) k
def compF (m : Mp) : List Nat := finE (compE m m.es.length) m.n
theorem compStep_ok {L : List Nat} {e : Ed} (hd : Desc L) (hu : e.u < L.length) (hv : e.v < L.length) : Desc (compStep L e) ∧ (compStep L e).length = L.length := by
  unfold compStep
  split
  · obtain ⟨h1, h2, h3⟩ := rootF_desc (e.u + 1) L e.u hd hu
    obtain ⟨h4, h5, h6⟩ := rootF_desc (e.v + 1) _ e.v h1 (by rw [h2]; exact hv)
    exact ⟨h4.set (by omega) (by omega), by rw [List.length_set, h5, h2]⟩
  · exact ⟨hd, rfl⟩
theorem compE_zero (m : Mp) : compE m 0 = List.range m.n := by simp [compE]
theorem compE_succ {m : Mp} {k : Nat} {e : Ed} (h : m.es[k]? = some e) : compE m (k + 1) = compStep (compE m k) e := by
  unfold compE; rw [List.take_add_one, h]; simp
theorem range_desc (n : Nat) : Desc (List.range n) := by
  intro i hi; simp [atOf] at hi ⊢; simp [hi]
theorem compE_ok {m : Mp} (hm : MapOk m) : ∀ k, k ≤ m.es.length → Desc (compE m k) ∧ (compE m k).length = m.n
  | 0, _ => by rw [compE_zero]; exact ⟨range_desc _, List.length_range⟩
  | k + 1, hk => by
    obtain ⟨e, he⟩ : ∃ e, m.es[k]? = some e := ⟨_, List.getElem?_eq_getElem (by omega)⟩
    obtain ⟨h1, h2⟩ := compE_ok hm k (by omega)
    have h3 := hm.ed e (List.mem_of_getElem? he)
    rw [compE_succ he]
    obtain ⟨h4, h5⟩ := compStep_ok h1 (e := e) (by omega) (by omega)
    exact ⟨h4, by rw [h5, h2]⟩
theorem finStep_ok {L : List Nat} {i : Nat} (hd : Desc L) (hi : i < L.length) : Desc (finStep L i) ∧ (finStep L i).length = L.length := by
  obtain ⟨h1, h2, h3⟩ := rootF_desc (i + 1) L i hd hi
  exact ⟨h1.set (by omega) h3, by unfold finStep; rw [List.length_set, h2]⟩
theorem finE_ok {L : List Nat} (hd : Desc L) : ∀ k, k ≤ L.length → Desc (finE L k) ∧ (finE L k).length = L.length
  | 0, _ => ⟨hd, rfl⟩
  | k + 1, hk => by
    obtain ⟨h1, h2⟩ := finE_ok hd k (by omega)
    obtain ⟨h3, h4⟩ := finStep_ok h1 (i := k) (by omega)
    exact ⟨h3, by show (finStep (finE L k) k).length = _; rw [h4, h2]⟩

/-- What stands while Components works. -/
structure CompW (w W : World) (n2 n4 g : Nat) (lm : List Value) (L : List Nat) : Prop where
  la : LeastAt W n4 g L
  r2 : Blk W n2 lm
  bel : Below w.heap.size w W
  n2g : n2 ≠ g
  low : w.heap.size ≤ g
theorem CompW.keep {w W W' : World} {n2 n4 g : Nat} {lm : List Value} {L : List Nat} (h : CompW w W n2 n4 g lm L) (hb : Below W.heap.size W W') : CompW w W' n2 n4 g lm L :=
  ⟨h.la.keep hb, h.r2.keep hb, below_call h.bel hb, h.n2g, h.low⟩
theorem CompW.put {w W : World} {n2 n4 g : Nat} {lm : List Value} {L : List Nat} (h : CompW w W n2 n4 g lm L) (v x : Nat) : CompW w (W.setCell ⟨g, v, none⟩ (.int .i64 (x : Nat))) n2 n4 g lm (L.set v x) :=
  ⟨h.la.put v x, h.r2.keepG (grown_set W g v _) h.n2g, h.bel.setCell (p := ⟨g, v, none⟩) h.low _, h.n2g, h.low⟩
theorem CompW.root {w W W' : World} {n2 n4 g : Nat} {lm : List Value} {L L' : List Nat} (h : CompW w W n2 n4 g lm L) (hl : LeastAt W' n4 g L') (hg : W.grownBy W' (some g)) : CompW w W' n2 n4 g lm L' :=
  ⟨hl, h.r2.keepG hg h.n2g, grown_fresh h.bel hg h.low, h.n2g, h.low⟩

theorem comp_start {w W1 : World} {n2 n4 : Nat} {lm : List Value} (n : Nat) (r2 : Blk W1 n2 lm) (r4 : Blk W1 n4 [.slice none 0 0]) (hB : Below w.heap.size w W1) (h4 : w.heap.size ≤ n4) (hne : n2 ≠ n4) :
    CompW w ((W1.setCell ⟨n4, 0, none⟩ (.slice (some ⟨W1.heap.size, 0, none⟩) n n)).alloc (.cells (Array.replicate n (Value.int .i64 0)) 3)) n2 n4 W1.heap.size lm (upL n 0) := by
  have hs : (W1.setCell ⟨n4, 0, none⟩ (.slice (some ⟨W1.heap.size, 0, none⟩) n n)).heap.size = W1.heap.size := by simp [World.setCell]
  have hal : Below W1.heap.size (W1.setCell ⟨n4, 0, none⟩ (.slice (some ⟨W1.heap.size, 0, none⟩) n n)) ((W1.setCell ⟨n4, 0, none⟩ (.slice (some ⟨W1.heap.size, 0, none⟩) n n)).alloc (.cells (Array.replicate n (Value.int .i64 0)) 3)) := by
    have := (Below.refl (W1.setCell ⟨n4, 0, none⟩ (.slice (some ⟨W1.heap.size, 0, none⟩) n n)).heap.size (W1.setCell ⟨n4, 0, none⟩ (.slice (some ⟨W1.heap.size, 0, none⟩) n n))).alloc (Nat.le_refl _) (.cells (Array.replicate n (Value.int .i64 0)) 3)
    rw [hs] at this; exact this
  have l2 := r2.lt
  have l4 := r4.lt
  refine ⟨⟨?_, ?_, by omega⟩, ?_, ?_, by omega, hB.size⟩
  · rw [upL_len]; exact (r4.put 0 _).keep (by rw [hs]; exact hal)
  · have := Blk.new (W1.setCell ⟨n4, 0, none⟩ (.slice (some ⟨W1.heap.size, 0, none⟩) n n)) (List.replicate n (Value.int .i64 0)) 3
    rw [hs] at this
    rw [upL_zero]
    simpa [nflat] using this
  · exact (r2.keepG (grown_set W1 n4 0 _) hne).keep (by rw [hs]; exact hal)
  · exact below_call (hB.setCell (p := ⟨n4, 0, none⟩) h4 _) (by rw [hs]; exact hal)

theorem catch67 (p : Addr) (w : World) :
    CallsD Try.prog 67 #[.pointer (some p)] .returning w fun e u' w' => e = .returned (.tuple #[]) ∧ u' = .returning ∧ w' = w := by
  refine callsD_of_wpS Try.func67 rfl fun c₀ cs hu => ?_
  apply wpS_seq
  apply wpS_region
  simp [wpOpsS, go_sem, recoverD, hu, Try.ntmps67, Exit.thenS]
  refine wpS_cond (t := false) (by simp [Act.eval, Array.replicate]) ?_
  simp only [Bool.false_eq_true, if_false]
  refine wpS_of_wp (wp_skip ?_)
  cases c₀
  simp_all [bodyPostS, results, Try.results67]
set_option maxRecDepth 100000 in
set_option maxHeartbeats 4000000 in
theorem comp_any (m : Mp) (w : World) (hm : MapOk m) (hE : Sl w m.oe 12 (m.es.map Ed.vals)) :
    Calls Try.prog 56 #[.agg m.vals.toArray, .int .i64 0] w fun e w' => ∃ g, e = .returned (.slice (some ⟨g, 0, none⟩) m.n m.n) ∧ Blk w' g (nflat (compF m)) ∧ (compF m).length = m.n ∧ Below w.heap.size w w' := by
  have hmf : ∀ (fn : Fn) (first cap : Array Value) (w : World), (Instr.makeFunc fn first cap).run Try.prog w = .ok (.func fn first cap) w := fun _ _ _ _ => rfl
  have HM := Lib.hid hm
  have hn2 := hm.n2
  have hlen := hm.len
  clear hm
  unfold Mp.vals
  generalize m.oe = oe at hE ⊢
  have HE0 := Lib.hid hE
  clear hE
  go_enter_defers Try.func56, Try.ntmps56
  go_upto_region 2 with fail
  have hbx_ := blks2 w [.slice m.op m.n m.cp, .slice oe m.es.length m.ce] [.slice none 0 0] 43 22
  have HB := Lib.hid (hbx_.2.2)
  have hod : w.heap.size ≤ w.heap.size ∧ w.heap.size < w.heap.size + 1 := by omega
  generalize (w.alloc (.cells #[.slice m.op m.n m.cp, .slice oe m.es.length m.ce] 43)).alloc (.cells #[.slice none 0 0] 22) = W1 at hbx_ HB ⊢
  obtain ⟨r2, r4, hbel_⟩ := hbx_
  generalize w.heap.size + 1 = n4 at r4 hod ⊢
  obtain ⟨n2, hn_⟩ : ∃ n, n = w.heap.size := ⟨_, rfl⟩
  rw [← hn_] at r2 ⊢
  replace hod := And.intro (Nat.le_of_eq hn_.symm) (hn_ ▸ hod.2)
  clear hn_ hbel_
  have hmk := run_make22 m.n hn2
  have a0 : W1.cell? ⟨n2, 0, none⟩ = some (.slice m.op m.n m.cp) := r2.c 0 _ rfl
  have l2 := r2.lt
  have b0 : W1.cell? ⟨n4, 0, none⟩ = some (.slice none 0 0) := r4.c 0 _ rfl
  have l4 := r4.lt
  have f4 := r4.f 0
  go_upto_region 3 with fail
  have hC := comp_start m.n r2 r4 HB.out (by omega) (by omega)
  have HL4 : Hid (w.heap.size ≤ n4) := Lib.hid (by omega)
  clear hmk a0 b0 l2 l4 f4 r2 r4 HB hod
  generalize ((W1.setCell ⟨n4, 0, none⟩ (.slice (some ⟨W1.heap.size, 0, none⟩) m.n m.n)).alloc (.cells (Array.replicate m.n (Value.int .i64 0)) 3)) = W2 at hC ⊢
  generalize W1.heap.size = g at hC ⊢
  have hlow := hC.low
  have hul := upL_len m.n
  have x0 := hC.la.box.c 0 _ rfl
  rw [hul] at x0
  have lx := hC.la.box.lt
  have HUL := Lib.hid hul
  clear hul
  go_wp2_with fail
  clear x0 lx
  go_loopw [19] (fun i W => ∃ k : Nat, i = .int .i64 (k : Nat) ∧ k ≤ m.n ∧ CompW w W n2 n4 g [.slice m.op m.n m.cp, .slice oe m.es.length m.ce] (upL m.n k)) (fun i _ => m.n - (intOf i).toNat)
  case atStart => exact ⟨0, rfl, Nat.zero_le _, hC⟩
  case round =>
    clear hC
    obtain ⟨k, rfl, hk, hC⟩ := hrel
    have HC := Lib.hid hC
    have x0 := hC.la.box.c 0 _ rfl
    rw [HUL.out] at x0
    have lx := hC.la.box.lt
    have lg := hC.la.row.lt
    have f0 := hC.la.row.f k
    by_cases hlt : k < m.n
    · have c0 := hC.la.row.c k _ (nflat_get (by rw [HUL.out]; exact hlt))
      clear hC
      go_wp2_with fail
      go_roundw
      case rel => exact ⟨k + 1, by simp, by omega, by rw [← upL_set m.n k hlt]; exact HC.out.put k k⟩
      case measure => simp [intOf]; omega
    · have hkn : k = m.n := by omega
      have hC : CompW w wr n2 n4 g [.slice m.op m.n m.cp, .slice oe m.es.length m.ce] (compE m 0) := by
        have := HC.out
        rw [hkn, upL_all] at this
        rw [compE_zero]; exact this
      have y1 := hC.r2.c 1 _ rfl
      have ly := hC.r2.lt
      clear HC x0 lx lg f0 HUL hkn
      go_wp2_with fail
      clear y1 ly
      go_loopw [31] (fun i W => ∃ k : Nat, i = .int .i64 (k : Nat) ∧ k ≤ m.es.length ∧ CompW w W n2 n4 g [.slice m.op m.n m.cp, .slice oe m.es.length m.ce] (compE m k)) (fun i _ => m.es.length - (intOf i).toNat)
      case atStart => exact ⟨0, rfl, Nat.zero_le _, hC⟩
      case round =>
        clear hC
        obtain ⟨k, rfl, hk, hC⟩ := hrel
        obtain ⟨Wc, rfl⟩ : ∃ X, X = wr := ⟨_, rfl⟩
        by_cases hlt : k < m.es.length
        · obtain ⟨e, he⟩ : ∃ r, m.es[k]? = some r := ⟨_, List.getElem?_eq_getElem hlt⟩
          obtain ⟨be, offe, rfl, hEr⟩ := HE0.out (map_ne hlt)
          have hEr2 := hEr.keep hC.bel
          have x0 : Wc.cell? ⟨be, offe + k * 12, none⟩ = some (.int .i64 (e.u : Nat)) := hEr2.c k _ (map_get he) 0 _ rfl
          have x1 : Wc.cell? ⟨be, offe + k * 12 + 1, none⟩ = some (.int .i64 (e.v : Nat)) := hEr2.c k _ (map_get he) 1 _ rfl
          have x2 : Wc.cell? ⟨be, offe + k * 12 + 2, none⟩ = some (.int .i64 e.c) := hEr2.c k _ (map_get he) 2 _ rfl
          have x3 : Wc.cell? ⟨be, offe + k * 12 + 3, none⟩ = some (.int .i64 e.st) := hEr2.c k _ (map_get he) 3 _ rfl
          have x4 : Wc.cell? ⟨be, offe + k * 12 + 4, none⟩ = some (.int .i64 e.k0) := hEr2.c k _ (map_get he) 4 _ rfl
          have x5 : Wc.cell? ⟨be, offe + k * 12 + 5, none⟩ = some (.slice e.s1.a e.s1.n e.s1.c) := hEr2.c k _ (map_get he) 5 _ rfl
          have x6 : Wc.cell? ⟨be, offe + k * 12 + 6, none⟩ = some (.int .i64 e.k2) := hEr2.c k _ (map_get he) 6 _ rfl
          have x7 : Wc.cell? ⟨be, offe + k * 12 + 7, none⟩ = some (.int .i64 e.k3) := hEr2.c k _ (map_get he) 7 _ rfl
          have x8 : Wc.cell? ⟨be, offe + k * 12 + 8, none⟩ = some (.slice e.s4.a e.s4.n e.s4.c) := hEr2.c k _ (map_get he) 8 _ rfl
          have x9 : Wc.cell? ⟨be, offe + k * 12 + 9, none⟩ = some (.int .i64 e.k5) := hEr2.c k _ (map_get he) 9 _ rfl
          have x10 : Wc.cell? ⟨be, offe + k * 12 + 10, none⟩ = some (.slice e.s6.a e.s6.n e.s6.c) := hEr2.c k _ (map_get he) 10 _ rfl
          have x11 : Wc.cell? ⟨be, offe + k * 12 + 11, none⟩ = some (.slice e.s7.a e.s7.n e.s7.c) := hEr2.c k _ (map_get he) 11 _ rfl
          have le := hEr2.lt
          have hed := HM.out.ed e (List.mem_of_getElem? he)
          have HED := Lib.hid hed
          have HEk := Lib.hid he
          have HLT := Lib.hid hlt
          clear hEr hEr2 hed he
          go_upto_region 12 with fail
          clear x0 x1 x2 x3 x4 x5 x6 x7 x8 x9 x10 x11 le hlt
          have hgw := hC.la.row.lt
          have hbx_ := blks1 Wc [.int .i64 (e.u : Nat), .int .i64 (e.v : Nat), .int .i64 e.c, .int .i64 e.st, .int .i64 e.k0, .slice e.s1.a e.s1.n e.s1.c, .int .i64 e.k2, .int .i64 e.k3, .slice e.s4.a e.s4.n e.s4.c, .int .i64 e.k5, .slice e.s6.a e.s6.n e.s6.c, .slice e.s7.a e.s7.n e.s7.c] 54
          replace hC := hC.keep hbx_.2
          have hoe : Wc.heap.size ≤ Wc.heap.size := by omega
          generalize Wc.alloc (.cells #[.int .i64 (e.u : Nat), .int .i64 (e.v : Nat), .int .i64 e.c, .int .i64 e.st, .int .i64 e.k0, .slice e.s1.a e.s1.n e.s1.c, .int .i64 e.k2, .int .i64 e.k3, .slice e.s4.a e.s4.n e.s4.c, .int .i64 e.k5, .slice e.s6.a e.s6.n e.s6.c, .slice e.s7.a e.s7.n e.s7.c] 54) = W3 at hbx_ hC ⊢
          obtain ⟨r8, hbel_⟩ := hbx_
          obtain ⟨n8, hn_⟩ : ∃ n, n = Wc.heap.size := ⟨_, rfl⟩
          rw [← hn_] at r8 ⊢
          replace hoe := Nat.le_of_eq hn_.symm
          clear hn_
          have hgn : g < n8 := by omega
          clear hoe
          have q0 : W3.cell? ⟨n2, 0, none⟩ = some (.slice m.op m.n m.cp) := hC.r2.c 0 _ rfl
          have q1 : W3.cell? ⟨n2, 1, none⟩ = some (.slice (some ⟨be, offe, none⟩) m.es.length m.ce) := hC.r2.c 1 _ rfl
          have y0 : W3.cell? ⟨n8, 0, none⟩ = some (.int .i64 (e.u : Nat)) := r8.c 0 _ rfl
          have y1 : W3.cell? ⟨n8, 1, none⟩ = some (.int .i64 (e.v : Nat)) := r8.c 1 _ rfl
          have y2 : W3.cell? ⟨n8, 2, none⟩ = some (.int .i64 e.c) := r8.c 2 _ rfl
          have y3 : W3.cell? ⟨n8, 3, none⟩ = some (.int .i64 e.st) := r8.c 3 _ rfl
          have y4 : W3.cell? ⟨n8, 4, none⟩ = some (.int .i64 e.k0) := r8.c 4 _ rfl
          have y5 : W3.cell? ⟨n8, 5, none⟩ = some (.slice e.s1.a e.s1.n e.s1.c) := r8.c 5 _ rfl
          have y6 : W3.cell? ⟨n8, 6, none⟩ = some (.int .i64 e.k2) := r8.c 6 _ rfl
          have y7 : W3.cell? ⟨n8, 7, none⟩ = some (.int .i64 e.k3) := r8.c 7 _ rfl
          have y8 : W3.cell? ⟨n8, 8, none⟩ = some (.slice e.s4.a e.s4.n e.s4.c) := r8.c 8 _ rfl
          have y9 : W3.cell? ⟨n8, 9, none⟩ = some (.int .i64 e.k5) := r8.c 9 _ rfl
          have y10 : W3.cell? ⟨n8, 10, none⟩ = some (.slice e.s6.a e.s6.n e.s6.c) := r8.c 10 _ rfl
          have y11 : W3.cell? ⟨n8, 11, none⟩ = some (.slice e.s7.a e.s7.n e.s7.c) := r8.c 11 _ rfl
          have lq := hC.r2.lt
          have ly := r8.lt
          have hends := ends_any { m with oe := some ⟨be, offe, none⟩ } e W3 (by have := HED.out; simp only; omega) HED.out.2.1
          unfold Mp.vals Ed.vals at hends
          dsimp only at hends
          have HEN := Lib.hid hends
          have HC := Lib.hid hC
          clear hends hC
          go_wp2_with fail
          with_reducible refine HEN.out.mono ?_
          rintro e1 W4 ⟨rfl, hb⟩
          clear q0 q1 y0 y1 y2 y3 y4 y5 y6 y7 y8 y9 y10 y11 lq ly
          replace r8 := r8.keep hb
          have hC := HC.out.keep hb
          clear hb HC HEN
          have q0 : W4.cell? ⟨n2, 0, none⟩ = some (.slice m.op m.n m.cp) := hC.r2.c 0 _ rfl
          have q1 : W4.cell? ⟨n2, 1, none⟩ = some (.slice (some ⟨be, offe, none⟩) m.es.length m.ce) := hC.r2.c 1 _ rfl
          have y0 : W4.cell? ⟨n8, 0, none⟩ = some (.int .i64 (e.u : Nat)) := r8.c 0 _ rfl
          have y1 : W4.cell? ⟨n8, 1, none⟩ = some (.int .i64 (e.v : Nat)) := r8.c 1 _ rfl
          have y2 : W4.cell? ⟨n8, 2, none⟩ = some (.int .i64 e.c) := r8.c 2 _ rfl
          have y3 : W4.cell? ⟨n8, 3, none⟩ = some (.int .i64 e.st) := r8.c 3 _ rfl
          have y4 : W4.cell? ⟨n8, 4, none⟩ = some (.int .i64 e.k0) := r8.c 4 _ rfl
          have y5 : W4.cell? ⟨n8, 5, none⟩ = some (.slice e.s1.a e.s1.n e.s1.c) := r8.c 5 _ rfl
          have y6 : W4.cell? ⟨n8, 6, none⟩ = some (.int .i64 e.k2) := r8.c 6 _ rfl
          have y7 : W4.cell? ⟨n8, 7, none⟩ = some (.int .i64 e.k3) := r8.c 7 _ rfl
          have y8 : W4.cell? ⟨n8, 8, none⟩ = some (.slice e.s4.a e.s4.n e.s4.c) := r8.c 8 _ rfl
          have y9 : W4.cell? ⟨n8, 9, none⟩ = some (.int .i64 e.k5) := r8.c 9 _ rfl
          have y10 : W4.cell? ⟨n8, 10, none⟩ = some (.slice e.s6.a e.s6.n e.s6.c) := r8.c 10 _ rfl
          have y11 : W4.cell? ⟨n8, 11, none⟩ = some (.slice e.s7.a e.s7.n e.s7.c) := r8.c 11 _ rfl
          have lq := hC.r2.lt
          have ly := r8.lt
          have hus := usable_any e.st W4
          have HUS := Lib.hid hus
          have HC := Lib.hid hC
          clear hus hC
          go_wp2_with fail
          with_reducible refine HUS.out.mono ?_
          rintro e1 W5 ⟨rfl, hb⟩
          clear q0 q1 y0 y1 y2 y3 y4 y5 y6 y7 y8 y9 y10 y11 lq ly
          replace r8 := r8.keep hb
          have hC := HC.out.keep hb
          clear hb HC HUS
          by_cases hst : e.st = 1
          · rw [decide_eq_true hst]
            obtain ⟨hd, hlen2⟩ := compE_ok HM.out k (by have := HLT.out; omega)
            have hed := HED.out
            have hul : e.u < (compE m k).length := by omega
            have hvl : e.v < (compE m k).length := by omega
            obtain ⟨hd1, hl1, ha1⟩ := rootF_desc (e.u + 1) (compE m k) e.u hd hul
            obtain ⟨hd3, hl3, ha3⟩ := rootF_desc (e.v + 1) (rootF (e.u + 1) (compE m k) e.u).2 e.v hd1 (by rw [hl1]; exact hvl)
            have hnext : compE m (k + 1) = (rootF (e.v + 1) (rootF (e.u + 1) (compE m k) e.u).2 e.v).2.set (max (rootF (e.u + 1) (compE m k) e.u).1 (rootF (e.v + 1) (rootF (e.u + 1) (compE m k) e.u).2 e.v).1) (min (rootF (e.u + 1) (compE m k) e.u).1 (rootF (e.v + 1) (rootF (e.u + 1) (compE m k) e.u).2 e.v).1) := by
              rw [compE_succ HEk.out]; unfold compStep; rw [if_pos hst]
            have hroot1 := fun X hX => root_any n4 g (compE m k) e.u X hX hd hul (by omega)
            have hroot2 := fun X hX => root_any n4 g (rootF (e.u + 1) (compE m k) e.u).2 e.v X hX hd1 (by rw [hl1]; exact hvl) (by omega)
            generalize hr1 : rootF (e.u + 1) (compE m k) e.u = r1 at *
            obtain ⟨x1, L1⟩ := r1
            dsimp only at *
            generalize hr3 : rootF (e.v + 1) L1 e.v = r3 at *
            obtain ⟨x3, L3⟩ := r3
            dsimp only at *
            have HN := Lib.hid hnext
            have HR1 := Lib.hid hroot1
            have HR3 := Lib.hid hroot2
            have HL3 := Lib.hid (And.intro (hl3.trans (hl1.trans hlen2)) (And.intro ha1 ha3))
            have hne8 : n8 ≠ g := by omega
            clear hr1 hr3 hnext hroot1 hroot2 hl1 hl3 hlen2 ha1 ha3 hd hd1 hd3 hul hvl hed
            go_upto_region 13 with fail
            have y0 := r8.c 0 _ rfl
            have y1 := r8.c 1 _ rfl
            have ly := r8.lt
            have HC := Lib.hid hC
            have HR8 := Lib.hid r8
            clear hC r8
            go_region_held3 (fun X => X.cell? ⟨n8, 0, none⟩ = some (.int .i64 (e.u : Nat)) ∧ X.cell? ⟨n8, 1, none⟩ = some (.int .i64 (e.v : Nat)))
              (first
                | assumption
                | exact ⟨by assumption, by assumption⟩)
              (first
                | (go_at_call 68
                   with_reducible refine (HR1.out _ (HC.out.la.keep (Below.refl _ _).drew)).mono ?_
                   rintro e1 X1 ⟨rfl, hLa, hga⟩
                   have HCA := Lib.hid ((HC.out.keep (Below.refl _ _).drew).root hLa hga)
                   have hr8a := (HR8.out.keep (Below.refl _ _).drew).keepG hga hne8
                   have z0 := hr8a.c 0 _ rfl
                   have z1 := hr8a.c 1 _ rfl
                   have HR8A := Lib.hid hr8a
                   clear hga hr8a hLa)
                | (go_at_call 68
                   have hxx := HCA; clear hxx
                   refine (HR3.out _ HCA.out.la).mono ?_
                   rintro e3 X3 ⟨rfl, hLb, hgb⟩
                   have HCB := Lib.hid (HCA.out.root hLb hgb)
                   have hr8b := HR8A.out.keepG hgb hne8
                   have z0 := hr8b.c 0 _ rfl
                   have z1 := hr8b.c 1 _ rfl
                   clear hgb hr8b hLb))
            all_goals
              clear y0 y1 ly z0 z1
              have hmx : max (x1 : Int) (x3 : Int) = ((max x1 x3 : Nat) : Int) := by omega
              have hmn : min (x1 : Int) (x3 : Int) = ((min x1 x3 : Nat) : Int) := by omega
              have hy : max x1 x3 < m.n := by have h1 := HL3.out; have h2 := HED.out; omega
              have HPUT := Lib.hid (HCB.out.put (max x1 x3) (min x1 x3))
              generalize max x1 x3 = y at hmx hy HN HPUT ⊢
              generalize min x1 x3 = z at hmn HN HPUT ⊢
              have x0 := HCB.out.la.box.c 0 _ rfl
              rw [HL3.out.1] at x0
              have lx := HCB.out.la.box.lt
              have c0 := HCB.out.la.row.c y _ (nflat_get (by rw [HL3.out.1]; exact hy))
              have f0 := HCB.out.la.row.f y
              have lg := HCB.out.la.row.lt
              have hyi : (y : Int) < (m.n : Int) := by omega
              go_wp2_with fail
              go_roundw
              case rel => exact ⟨k + 1, by simp, by have := HLT.out; omega, by rw [HN.out]; exact HPUT.out⟩
              case measure => have := HLT.out; simp [intOf]; omega
          · rw [decide_eq_false hst]
            go_wp2_with fail
            go_roundw
            case rel => exact ⟨k + 1, by simp, by have := HLT.out; omega, by rw [compE_succ HEk.out]; unfold compStep; rw [if_neg hst]; exact hC⟩
            case measure => have := HLT.out; simp [intOf]; omega
        · have hkl : k = m.es.length := by omega
          subst hkl
          have hde := compE_ok HM.out m.es.length (Nat.le_refl _)
          have x0 := hC.la.box.c 0 _ rfl
          rw [hde.2] at x0
          have lx := hC.la.box.lt
          have HC := Lib.hid hC
          have HDE := Lib.hid hde
          clear hC hde
          go_wp2_with fail
          clear x0 lx
          go_loopw [63] (fun i W => ∃ k : Nat, i = .int .i64 (k : Nat) ∧ k ≤ m.n ∧ CompW w W n2 n4 g [.slice m.op m.n m.cp, .slice oe m.es.length m.ce] (finE (compE m m.es.length) k)) (fun i _ => m.n - (intOf i).toNat)
          case atStart => exact ⟨0, rfl, Nat.zero_le _, HC.out⟩
          case round =>
            clear HC
            obtain ⟨k, rfl, hk, hC⟩ := hrel
            obtain ⟨Wd, rfl⟩ : ∃ X, X = wr := ⟨_, rfl⟩
            have hde := HDE.out
            obtain ⟨hd, hl⟩ := finE_ok hde.1 k (by omega)
            rw [hde.2] at hl
            by_cases hlt : k < m.n
            · have hroot1 := fun X hX => root_any n4 g (finE (compE m m.es.length) k) k X hX hd (by omega) (by omega)
              obtain ⟨hd1, hl1, ha1⟩ := rootF_desc (k + 1) (finE (compE m m.es.length) k) k hd (by omega)
              have hnext : finE (compE m m.es.length) (k + 1) = (rootF (k + 1) (finE (compE m m.es.length) k) k).2.set k (rootF (k + 1) (finE (compE m m.es.length) k) k).1 := rfl
              have x0 := hC.la.box.c 0 _ rfl
              rw [hl] at x0
              have hne := hC.la.ne
              generalize hr1 : rootF (k + 1) (finE (compE m m.es.length) k) k = r1 at *
              obtain ⟨x1, L1⟩ := r1
              dsimp only at *
              have HN := Lib.hid hnext
              have HR1 := Lib.hid hroot1
              have HL1 := Lib.hid (hl1.trans hl)
              have HLT := Lib.hid hlt
              have hki : (k : Int) < (m.n : Int) := by omega
              have lx := hC.la.box.lt
              have HC := Lib.hid hC
              clear hr1 hnext hroot1 hl1 hd1 ha1 hd hl hde hC
              go_upto_region 19 with fail
              go_region_held3 (fun X => X.cell? ⟨n4, 0, none⟩ = some (.slice (some ⟨g, 0, none⟩) m.n m.n))
                (first
                  | assumption
                  | exact (cell_set_ne hne).trans (by assumption))
                (first
                  | (go_at_call 68
                     with_reducible refine (HR1.out _ (HC.out.la.keep (Below.refl _ _).drew)).mono ?_
                     rintro e1 X1 ⟨rfl, hLa, hga⟩
                     have hca := (HC.out.keep (Below.refl _ _).drew).root hLa hga
                     have z0 := hca.la.box.c 0 _ rfl
                     rw [HL1.out] at z0
                     have zl := hca.la.box.lt
                     have c1 := hca.la.row.c k _ (nflat_get (by rw [HL1.out]; exact HLT.out))
                     have f1 := hca.la.row.f k
                     have lg1 := hca.la.row.lt
                     have HCA := Lib.hid hca
                     clear hca hLa hga))
              all_goals
                have HPUT := Lib.hid (HCA.out.put k x1)
                clear z0 zl c1 f1 lg1 x0 lx
                go_wp2_with fail
                go_roundw
                case rel => exact ⟨k + 1, by simp, by have := HLT.out; omega, by rw [HN.out]; first | exact HPUT.out | exact HPUT.out.keep (Below.refl _ _).drew⟩
                case measure => have := HLT.out; simp [intOf]; omega
            · have hkn : k = m.n := by omega
              subst hkn
              have x0 := hC.la.box.c 0 _ rfl
              rw [hl] at x0
              have lx := hC.la.box.lt
              have fx := hC.la.box.f 0
              have lg := hC.la.row.lt
              have HC := Lib.hid hC
              have HL := Lib.hid hl
              clear hC hl hd hde
              go_wp2_with fail
              have hla : (Wd.setCell ⟨n4, 0, none⟩ (.slice (some ⟨g, 0, none⟩) m.n m.n)).cell? ⟨n4, 0, none⟩ = some (.slice (some ⟨g, 0, none⟩) m.n m.n) := World.cell?_setCell_same Wd ⟨n4, 0, none⟩ _ x0
              refine leaves_cons (f := 67) (args := #[.pointer (some ⟨n4, 0, none⟩)]) (by simp) (by simp [go_sem]) ?_
              refine (catch67 _ _).mono ?_
              rintro e u' w'' ⟨rfl, rfl, rfl⟩
              simp [Leaves, settle, results, Try.results56, go_sem, hla]
              exact ⟨HC.out.la.row.keepG (grown_set Wd n4 0 _) (Ne.symm HC.out.la.ne), HL.out, HC.out.bel.setCell (p := ⟨n4, 0, none⟩) HL4.out _⟩
end Go.Proofs.Jn
end

section
/-
  Maps: the place of an entry and the writing of it (e.seen[b]++); counts of states.
-/
namespace Go.Proofs.Jn
open Go.RowKit Go.Instr

section
variable {α : Type} [DecidableEq α] {kt : TypeId} {enc : α → Value}
theorem putL_same {l : List (α × Value)} {a : α} {v : Value} : ∀ {n i : Nat}, findL l a n = some (i, v) → putL l a v = l := by
  induction l with
  | nil => intro n i h; cases h
  | cons x r ih =>
    obtain ⟨b, u⟩ := x
    intro n i h
    simp only [findL] at h
    split at h
    · rename_i hab
      injection h with h; injection h with h1 h2
      subst h2; simp [putL, hab]
    · rename_i hab
      simp only [putL, if_neg hab]
      rw [ih h]
theorem findL_put {l : List (α × Value)} {a : α} (v : Value) : ∀ (n : Nat), findL (putL l a v) a n = some (((findL l a n).map (·.1)).getD (n + l.length), v) := by
  induction l with
  | nil => intro n; simp [putL, findL]
  | cons x r ih =>
    obtain ⟨b, u⟩ := x
    intro n
    simp only [putL, findL]
    split
    · rename_i hab
      simp [findL, hab]
    · rename_i hab
      simp only [findL, if_neg hab, ih (n + 1), List.length_cons]
      rw [show n + 1 + r.length = n + (r.length + 1) by omega]
theorem putL_put {l : List (α × Value)} {a : α} (u v : Value) : putL (putL l a u) a v = putL l a v := by
  induction l with
  | nil => simp [putL]
  | cons x r ih =>
    obtain ⟨b, y⟩ := x
    simp only [putL]
    split
    · rename_i hab
      simp [putL, hab]
    · rename_i hab
      simp only [putL, if_neg hab, ih]
theorem findL_shift {l : List (α × Value)} {a : α} : ∀ (n m : Nat), (findL l a n).map (·.2) = (findL l a m).map (·.2) := by
  induction l with
  | nil => intro n m; rfl
  | cons y s ih2 => 
    intro n m
    simp only [findL]
    split
    · rfl
    · exact ih2 _ _
theorem findL_put_ne {l : List (α × Value)} {a b : α} (v : Value) (h : b ≠ a) : ∀ (n m : Nat), (findL (putL l a v) b n).map (·.2) = (findL l b m).map (·.2) := by
  induction l with
  | nil => intro n m; simp [putL, findL, h]
  | cons x r ih =>
    obtain ⟨c, u⟩ := x
    intro n m
    simp only [putL]
    split
    · rename_i hac
      subst hac
      simp only [findL, if_neg h]
      exact findL_shift _ _
    · rename_i hac
      simp only [findL]
      split
      · rfl
      · exact ih _ _
theorem run_mapEntry (K : KeyL kt enc) {t et : TypeId} {z : Value} (hu : Try.prog.underlying t = some (.map kt et)) (W : World) (g : Nat) (l : List (α × Value)) (a : α) (hz : (zeroValue et).run Try.prog W = .ok z W) (hm : MapIs W g enc l) :
    (mapEntry t (.map (some g)) (enc a)).run Try.prog W = .ok (.tuple #[((findL l a 0).map (·.2)).getD z, goInt ((((findL l a 0).map (·.1)).getD l.length : Nat) : Int)]) (wput W g enc (putL l a (((findL l a 0).map (·.2)).getD z))) := by
  unfold MapIs at hm
  unfold mapEntry
  simp [go_sem, run_underlying (h := hu), getObj, Sem.run, hm]
  rw [K.chk]
  simp only [Result.andThen_ok]
  rw [run_findKey K]
  simp only [Result.andThen_ok]
  cases h : findL l a 0 with
  | none =>
    have hz' : (zeroValue et).run Try.prog W = .ok z W := hz
    simp only [Option.map_none, Option.getD_none]
    rw [putL_none h, Go.Sem.run_bind, hz']
    simp [go_sem, setObj, hm, wput, entL_app, Sem.run, ]
  | some x =>
    obtain ⟨i, u⟩ := x
    have hlt := findL_lt h
    simp only [Nat.sub_zero, Nat.zero_le, true_and] at hlt
    simp only [Option.map_some, Option.getD_some]
    have hp := putL_some (v := u) h
    simp [entL_get, hlt, keyThatStays, K.bits, go_sem, setObj, hm, wput, Sem.run]
    rw [Nat.sub_zero] at hp
    rw [hp, ← entL_mod u l 0 i a (by simp [hlt]), List.length_modify]
    have h2 : (entL enc l 0)[i]? = some ⟨enc a, u, i⟩ := by rw [entL_get, hlt]; simp
    have h3 : ((entL enc l 0).modify i fun e => { key := enc a, val := e.val, born := e.born }) = (entL enc l 0).modify i fun e => { e with key := enc a, val := u } := by
      apply List.ext_getElem?
      intro j
      rw [List.getElem?_modify, List.getElem?_modify]
      by_cases e : i = j
      · subst e; rw [h2]; rfl
      · simp only [if_neg e]
    rw [h3]
theorem born_idx {α : Type} {enc : α → Value} (l : List (α × Value)) (i n : Nat) (hi : i < l.length) : (entL enc l n).findIdx? (fun e => ((e.born : Nat) : Int) == ((n + i : Nat) : Int)) = some i := by
  induction l generalizing i n with
  | nil => simp at hi
  | cons x r ih =>
    obtain ⟨b, u⟩ := x
    cases i with
    | zero => simp [entL, List.findIdx?_cons]
    | succ i =>
      have hne : (((n : Nat) : Int) == ((n + (i + 1) : Nat) : Int)) = false := by simp only [beq_eq_false_iff_ne, ne_eq, Int.natCast_inj]; omega
      simp only [entL, List.findIdx?_cons, hne]
      have := ih i (n + 1) (by simpa using hi)
      rw [show n + 1 + i = n + (i + 1) by omega] at this
      rw [this]; rfl
theorem run_entryStore {t : TypeId} (W : World) (g i : Nat) (l : List (α × Value)) (a : α) (u v : Value) (hf : findL l a 0 = some (i, u)) (hm : MapIs W g enc l) :
    (entryStore t (.map (some g)) (goInt (i : Nat)) v).run Try.prog W = .ok () (wput W g enc (putL l a v)) := by
  have hlt := findL_lt hf
  simp only [Nat.sub_zero, Nat.zero_le, true_and] at hlt
  have hi : i < l.length := (List.getElem?_eq_some_iff.1 hlt).1
  have hb := born_idx (enc := enc) l i 0 hi
  rw [Nat.zero_add] at hb
  have hp := putL_some (v := v) hf
  have hm' := hm
  unfold MapIs at hm
  unfold entryStore
  have ha : (entL enc l 0).toArray.findIdx? (fun e => ((e.born : Nat) : Int) == ((i : Nat) : Int)) = some i := by rw [List.findIdx?_toArray]; exact hb
  simp [go_sem, getObj, Sem.run, hm, goInt, asInt, hb, setObj]
  rw [Nat.sub_zero] at hp
  rw [hp]
  unfold wput
  rw [← entL_mod v l 0 i a (by simp [hlt]), List.length_modify]
  have h2 : (entL enc l 0)[i]? = some ⟨enc a, u, i⟩ := by rw [entL_get, hlt]; simp
  have h3 : ((entL enc l 0).modify i fun e => { key := e.key, val := v, born := e.born }) = (entL enc l 0).modify i fun e => { e with key := enc a, val := v } := by
    apply List.ext_getElem?
    intro j
    rw [List.getElem?_modify, List.getElem?_modify]
    by_cases e : i = j
    · subst e; rw [h2]; rfl
    · simp only [if_neg e]
  rw [h3]
theorem mapIs_drew {α : Type} {enc : α → Value} (W : World) (g : Nat) (l : List (α × Value)) : MapIs W.drew g enc l = MapIs W g enc l := rfl
theorem wput_cell {α : Type} {enc : α → Value} {W : World} {g b i : Nat} {l : List (α × Value)} (h : b ≠ g) : (wput W g enc l).cell? ⟨b, i, none⟩ = W.cell? ⟨b, i, none⟩ := by
  simp [World.cell?, wput_heap W g b l h]
end

/-- The count of a state in a list of counts, and one more. -/
def cntN : List (S4 × Nat) → S4 → Nat
  | [], _ => 0
  | (b, n) :: r, a => if a = b then n else cntN r a
def incN : List (S4 × Nat) → S4 → List (S4 × Nat)
  | [], a => [(a, 1)]
  | (b, n) :: r, a => if a = b then (b, n + 1) :: r else (b, n) :: incN r a
def cvals (l : List (S4 × Nat)) : List (S4 × Value) := l.map fun e => (e.1, .int .i64 (e.2 : Nat))
theorem find_cvals (l : List (S4 × Nat)) (a : S4) : ∀ n, ((findL (cvals l) a n).map (·.2)).getD (.int .i64 0) = .int .i64 (cntN l a : Nat) := by
  induction l with
  | nil => intro n; rfl
  | cons x r ih =>
    obtain ⟨b, k⟩ := x
    intro n
    simp only [cvals, List.map_cons, findL, cntN]
    split
    · rfl
    · exact ih _
theorem put_cvals (l : List (S4 × Nat)) (a : S4) : putL (cvals l) a (.int .i64 ((cntN l a : Nat) + 1 : Int)) = cvals (incN l a) := by
  induction l with
  | nil => rfl
  | cons x r ih =>
    obtain ⟨b, k⟩ := x
    simp only [cvals, List.map_cons, putL, cntN, incN]
    split
    · simp
    · simp only [List.map_cons]; congr 1
theorem cnt_inc (l : List (S4 × Nat)) (a b : S4) : cntN (incN l a) b = if b = a then cntN l a + 1 else cntN l b := by
  induction l with
  | nil => by_cases h : b = a <;> simp [incN, cntN, h]
  | cons x r ih =>
    obtain ⟨c, k⟩ := x
    simp only [incN, cntN]
    by_cases hac : a = c
    · subst hac
      by_cases hb : b = a <;> simp [cntN, hb]
    · rw [if_neg hac, if_neg hac]
      simp only [cntN, ih]
      by_cases hb : b = a
      · subst hb; simp [hac]
      · simp [hb]
/-- The beginning of a state. -/
def begF (s : S4) : Nat → S4
  | 0 => s4n
  | k + 1 => (begF s k).set k (s.get k)
def markN (s : S4) : Nat → List (S4 × Nat) → List (S4 × Nat)
  | 0, l => l
  | k + 1, l => incN (markN s k l) (begF s (k + 1))
theorem cnt_mark (s b : S4) (l : List (S4 × Nat)) : ∀ k, cntN l b ≤ cntN (markN s k l) b ∧ cntN (markN s k l) b ≤ cntN l b + k
  | 0 => ⟨Nat.le_refl _, Nat.le_refl _⟩
  | k + 1 => by
    obtain ⟨h1, h2⟩ := cnt_mark s b l k
    simp only [markN, cnt_inc]
    split
    · rename_i h; subst h; omega
    · omega
end Go.Proofs.Jn
end

section
/-
  The object of the joint search; open, mark.
-/
namespace Go.Proofs.Jn
open Go.RowKit Go.Shelf

def exL (on : Option Addr) (N cn gm : Nat) (st go : S4) (gb gs gc : Nat) : List Value := [.slice on N cn, .map (some gm), .int .i64 st.a, .int .i64 st.b, .int .i64 st.c, .int .i64 st.d, .int .i64 go.a, .int .i64 go.b, .int .i64 go.c, .int .i64 go.d, .map (some gb), .map (some gs), .slice (some ⟨gc, 0, none⟩) (N + 1) (N + 1)]
theorem zero3 (X : World) : (zeroValue 3).run Try.prog X = .ok (.int .i64 0) X := by kernel_rfl
theorem run_cnt (W : World) (gs : Nat) (l : List (S4 × Nat)) (t : S4) (hm : MapIs W gs S4.v (cvals l)) : (Instr.lookup 86 (.map (some gs)) t.v false).run Try.prog W = .ok (.int .i64 (cntN l t : Nat)) W := by
  have := run_lookup k84 Try.underlying86 W gs (cvals l) t (zero3 _) hm
  rw [find_cvals] at this
  exact this
set_option maxRecDepth 100000 in
set_option maxHeartbeats 4000000 in
theorem open_any (on : Option Addr) (N cn gm ne gb gs gc : Nat) (st go : S4) (seen : List (S4 × Nat)) (cnt : List Nat) (t : S4) (k : Nat) (w : World) (hX : Blk w ne (exL on N cn gm st go gb gs gc)) (hS : MapIs w gs S4.v (cvals seen)) (hC : Blk w gc (nflat cnt)) (hl : cnt.length = N + 1) (hk : k ≤ N) (hN : N ≤ 4) :
    Calls Try.prog 58 #[.pointer (some ⟨ne, 0, none⟩), t.v, .int .i64 (k : Nat)] w (BoolP (decide (cntN seen t < atOf cnt k)) w) := by
  unfold S4.v
  go_enter Try.func58, Try.ntmps58
  go_upto_region 1 with fail
  have hbx_ := boxes1 w [.int .i64 t.a, .int .i64 t.b, .int .i64 t.c, .int .i64 t.d] 84
  replace hX := hX.keep hbx_.2
  replace hS := hS.keep hbx_.2
  replace hC := hC.keep hbx_.2
  have HB := Lib.hid (hbx_.2)
  generalize w.alloc (.cells #[.int .i64 t.a, .int .i64 t.b, .int .i64 t.c, .int .i64 t.d] 84) = W0 at hbx_ hX hS hC HB ⊢
  obtain ⟨r4, hbel_⟩ := hbx_
  obtain ⟨n4, hn_⟩ : ∃ n, n = w.heap.size := ⟨_, rfl⟩
  rw [← hn_] at r4 ⊢
  clear hn_ hbel_
  have b0 : W0.cell? ⟨n4, 0, none⟩ = some (.int .i64 t.a) := r4.c 0 _ rfl
  have b1 : W0.cell? ⟨n4, 1, none⟩ = some (.int .i64 t.b) := r4.c 1 _ rfl
  have b2 : W0.cell? ⟨n4, 2, none⟩ = some (.int .i64 t.c) := r4.c 2 _ rfl
  have b3 : W0.cell? ⟨n4, 3, none⟩ = some (.int .i64 t.d) := r4.c 3 _ rfl
  have l4 := r4.lt
  have x11 : W0.cell? ⟨ne, 11, none⟩ = some (.map (some gs)) := hX.c 11 _ rfl
  have x12 : W0.cell? ⟨ne, 12, none⟩ = some (.slice (some ⟨gc, 0, none⟩) (N + 1 : Nat) (N + 1 : Nat)) := hX.c 12 _ rfl
  have lx := hX.lt
  have c0 := hC.c k _ (nflat_get (by omega))
  have lc := hC.lt
  have hlk : ∀ n, (Instr.lookup 86 (.map (some gs)) (.agg #[.int .i64 t.a, .int .i64 t.b, .int .i64 t.c, .int .i64 t.d]) false).run Try.prog (W0.drewN n) = .ok (.int .i64 (cntN seen t : Nat)) (W0.drewN n) := fun n => run_cnt (W0.drewN n) gs seen t (hS.keep (below_drew W0 n))
  have hd : decide ((cntN seen t : Int) < (atOf cnt k : Int)) = decide (cntN seen t < atOf cnt k) := decide_eq_decide.2 (by omega)
  have hkN : (k : Int) < ((N + 1 : Nat) : Int) := by omega
  clear hX hS hC r4
  go_quiet (fail)
  have HB2 := Lib.hid (below_call HB.out (below_drew W0 nq))
  clear b0 b1 b2 b3 l4 x11 x12 lx c0 lc hlk
  generalize W0.drewN nq = V at HB2 ⊢
  go_wp2
  go_ret
  exact boolP_mk rfl HB2.out

theorem grown_setN {w W : World} {o : Option Nat} (h : w.grownBy W o) {n : Nat} (hn : w.heap.size ≤ n) (i : Nat) (v : Value) : w.grownBy (W.setCell ⟨n, i, none⟩ v) o :=
  ⟨h.os, h.tape, h.output, Nat.le_trans h.size (by simp [World.setCell]), fun b hb hne => by rw [Below.heap_setCell W ⟨n, i, none⟩ v b (by show b ≠ n; omega)]; exact h.block b hb hne⟩
theorem MapIs.keepG {α : Type} [DecidableEq α] {enc : α → Value} {W W' : World} {g b : Nat} {l : List (α × Value)} (h : MapIs W g enc l) (hg : W.grownBy W' (some b)) (hne : g ≠ b) : MapIs W' g enc l :=
  h.keepN (hg.block g h.lt (fun e => hne (by injection e)))
/-- What stands while a state is marked. -/
structure MarkW (w : World) (n3 n4 ne gs : Nat) (s : S4) (xl : List Value) (seen : List (S4 × Nat)) (k : Nat) (W : World) : Prop where
  r3 : Blk W n3 s.l
  r4 : Blk W n4 (begF s k).l
  x : Blk W ne xl
  m : MapIs W gs S4.v (cvals (markN s k seen))
  g : w.grownBy W (some gs)
theorem wput_blk {W : World} {b g : Nat} {l : List Value} {α : Type} [DecidableEq α] {enc : α → Value} (h : Blk W b l) (hne : b ≠ g) (m : List (α × Value)) : Blk (wput W g enc m) b l := h.keepG (wput_grown W g m) hne
theorem wput_wput {α : Type} [DecidableEq α] {enc : α → Value} (W : World) (g : Nat) (l m : List (α × Value)) : wput (wput W g enc l) g enc m = wput W g enc m := by
  unfold wput; simp
theorem run_cntE (W : World) (gs : Nat) (l : List (S4 × Nat)) (t : S4) (hm : MapIs W gs S4.v (cvals l)) : ∃ i : Nat, (Instr.mapEntry 86 (.map (some gs)) t.v).run Try.prog W = .ok (.tuple #[.int .i64 (cntN l t : Nat), goInt (i : Nat)]) (wput W gs S4.v (putL (cvals l) t (.int .i64 (cntN l t : Nat)))) ∧
    (Instr.lookup 86 (.map (some gs)) t.v false).run Try.prog (wput W gs S4.v (putL (cvals l) t (.int .i64 (cntN l t : Nat)))) = .ok (.int .i64 (cntN l t : Nat)) (wput W gs S4.v (putL (cvals l) t (.int .i64 (cntN l t : Nat)))) ∧
    (Instr.entryStore 86 (.map (some gs)) (goInt (i : Nat)) (.int .i64 ((cntN l t : Nat) + 1 : Int))).run Try.prog (wput W gs S4.v (putL (cvals l) t (.int .i64 (cntN l t : Nat)))) = .ok () (wput W gs S4.v (cvals (incN l t))) := by
  have h1 := run_mapEntry k84 Try.underlying86 W gs (cvals l) t (zero3 _) hm
  have hf := find_cvals l t 0
  rw [hf] at h1
  refine ⟨_, h1, ?_, ?_⟩
  · have hm2 : MapIs (wput W gs S4.v (putL (cvals l) t (.int .i64 (cntN l t : Nat)))) gs S4.v (putL (cvals l) t (.int .i64 (cntN l t : Nat))) := hm.put
    have h2 := run_lookup k84 Try.underlying86 _ gs _ t (zero3 _) hm2
    rw [findL_put] at h2
    simpa using h2
  · have hm2 : MapIs (wput W gs S4.v (putL (cvals l) t (.int .i64 (cntN l t : Nat)))) gs S4.v (putL (cvals l) t (.int .i64 (cntN l t : Nat))) := hm.put
    have hfp := findL_put (l := cvals l) (a := t) (.int .i64 (cntN l t : Nat)) 0
    have h3 := run_entryStore (t := 86) _ gs _ _ t _ (.int .i64 ((cntN l t : Nat) + 1 : Int)) hfp hm2
    have e0 : 0 + (cvals l).length = (cvals l).length := Nat.zero_add _
    rw [putL_put, put_cvals, e0, wput_wput] at h3
    exact h3
set_option maxRecDepth 100000 in
set_option maxHeartbeats 4000000 in
theorem mark_any (on : Option Addr) (N cn gm ne gb gs gc : Nat) (st go : S4) (seen : List (S4 × Nat)) (s : S4) (w : World) (hX : Blk w ne (exL on N cn gm st go gb gs gc)) (hS : MapIs w gs S4.v (cvals seen)) (hne : ne ≠ gs) (hN : N ≤ 4) (hb : ∀ b, cntN seen b ≤ 1000000000000) :
    Calls Try.prog 57 #[.pointer (some ⟨ne, 0, none⟩), .agg #[.int .i64 s.a, .int .i64 s.b, .int .i64 s.c, .int .i64 s.d]] w fun e w' => e = .returned (.tuple #[]) ∧ MapIs w' gs S4.v (cvals (markN s N seen)) ∧ w.grownBy w' (some gs) := by
  have HBD := Lib.hid hb
  have hgs := hS.lt
  have hnew := hX.lt
  clear hb
  go_enter Try.func57, Try.ntmps57
  go_upto_region 1 with fail
  have hbx_ := blks1 w [.int .i64 s.a, .int .i64 s.b, .int .i64 s.c, .int .i64 s.d] 84
  replace hX := hX.keep hbx_.2
  replace hS := hS.keep hbx_.2
  have HB := Lib.hid (hbx_.2)
  have hod : w.heap.size ≤ w.heap.size := by omega
  generalize w.alloc (.cells #[.int .i64 s.a, .int .i64 s.b, .int .i64 s.c, .int .i64 s.d] 84) = W0 at hbx_ hX hS HB ⊢
  obtain ⟨r3, hbel_⟩ := hbx_
  obtain ⟨n3, hn_⟩ : ∃ n, n = w.heap.size := ⟨_, rfl⟩
  rw [← hn_] at r3 ⊢
  replace hod := Nat.le_of_eq hn_.symm
  clear hn_ hbel_
  have HNW := Lib.hid (nowhere_any W0)
  unfold S4.v s4n at HNW
  go_wp2_with fail
  refine HNW.out.mono ?_
  rintro e W1 ⟨rfl, hb⟩
  replace r3 := r3.keep hb
  replace hX := hX.keep hb
  replace hS := hS.keep hb
  have HB1 := Lib.hid (below_call HB.out hb)
  clear hb HB HNW
  go_upto_region 2 with fail
  have h3W := r3.lt
  have hbx_ := blks1 W1 [.int .i64 (-1), .int .i64 (-1), .int .i64 (-1), .int .i64 (-1)] 84
  replace r3 := r3.keep hbx_.2
  replace hX := hX.keep hbx_.2
  replace hS := hS.keep hbx_.2
  have HB2 := Lib.hid (below_call HB1.out (hbx_.2))
  have hoe : W1.heap.size ≤ W1.heap.size := by omega
  generalize W1.alloc (.cells #[.int .i64 (-1), .int .i64 (-1), .int .i64 (-1), .int .i64 (-1)] 84) = W2 at hbx_ r3 hX hS HB2 ⊢
  obtain ⟨r4, hbel_⟩ := hbx_
  obtain ⟨n4, hn_⟩ : ∃ n, n = W1.heap.size := ⟨_, rfl⟩
  rw [← hn_] at r4 ⊢
  replace hoe := Nat.le_of_eq hn_.symm
  clear hn_ hbel_
  have hsz := HB1.out.size
  have hM : MarkW w n3 n4 ne gs s (exL on N cn gm st go gb gs gc) seen 0 W2 := ⟨r3, r4, hX, hS, grown_of_below HB2.out⟩
  have hn34 : n3 ≠ n4 := by omega
  have h4w : w.heap.size ≤ n4 := by omega
  have hne4 : ne ≠ n4 := by omega
  have h3g : n3 ≠ gs := by omega
  have h4g : n4 ≠ gs := by omega
  have x0 : W2.cell? ⟨ne, 0, none⟩ = some (.slice on N cn) := hX.c 0 _ rfl
  have lx := hX.lt
  have HNE := Lib.hid (And.intro hn34 (And.intro h4w (And.intro hne4 (And.intro h3g (And.intro h4g hne)))))
  clear r3 r4 hX hS HB1 hod hoe hsz hn34 h4w hne4 h3g h4g hne hgs hnew HB2
  go_wp2_with fail
  clear x0 lx
  go_loopw [13] (fun i W => ∃ k : Nat, i = .int .i64 (k : Nat) ∧ k ≤ N ∧ MarkW w n3 n4 ne gs s (exL on N cn gm st go gb gs gc) seen k W) (fun i _ => N - (intOf i).toNat)
  case atStart => exact ⟨0, rfl, Nat.zero_le _, hM⟩
  case round =>
    clear hM
    obtain ⟨k, rfl, hk, hM⟩ := hrel
    by_cases hlt : k < N
    · have s3 := hM.r3.c k _ (s.l_get k (by omega))
      have s4 := hM.r4.c k _ (S4.l_get _ k (by omega))
      have f4 := hM.r4.f k
      have l3 := hM.r3.lt
      have l4 := hM.r4.lt
      have hr4 : Blk (wr.setCell ⟨n4, k, none⟩ (.int .i64 (s.get k))) n4 (begF s (k + 1)).l := by
        have := hM.r4.put k (.int .i64 (s.get k))
        rw [← S4.l_set _ k _ (by omega)] at this
        exact this
      have hM2 : MarkW w n3 n4 ne gs s (exL on N cn gm st go gb gs gc) seen k wr := hM
      have hX2 := hM.x.keepG (grown_set wr n4 k (.int .i64 (s.get k))) HNE.out.2.2.1
      have h32 := hM.r3.keepG (grown_set wr n4 k (.int .i64 (s.get k))) HNE.out.1
      have hm2 := hM.m.keepG (grown_set wr n4 k (.int .i64 (s.get k))) (Ne.symm HNE.out.2.2.2.2.1)
      have hg2 := grown_setN hM.g HNE.out.2.1 k (.int .i64 (s.get k))
      clear hM hM2
      go_upto_region 6 with fail
      clear s3 s4 f4 l3 l4
      generalize wr.setCell ⟨n4, k, none⟩ (.int .i64 (s.get k)) = Y at hr4 hX2 h32 hm2 hg2 ⊢
      have hmark : markN s (k + 1) seen = incN (markN s k seen) (begF s (k + 1)) := rfl
      have hcb := (cnt_mark s (begF s (k + 1)) seen k).2
      have hcb2 := HBD.out (begF s (k + 1))
      have hl1 := run_cnt Y.drew gs _ (begF s (k + 1)) (hm2.keep (Below.refl _ _).drew)
      obtain ⟨i, hl2, hl3, hl4⟩ := run_cntE Y.drew gs _ (begF s (k + 1)) (hm2.keep (Below.refl _ _).drew)
      rw [← hmark] at hl4
      have hm3 : MapIs (wput Y.drew gs S4.v (cvals (markN s (k + 1) seen))) gs S4.v (cvals (markN s (k + 1) seen)) := (hm2.keep (Below.refl _ _).drew).put
      have hX3 := wput_blk (enc := S4.v) (hX2.keep (Below.refl _ _).drew) HNE.out.2.2.2.2.2 (cvals (markN s (k + 1) seen))
      have h33 := wput_blk (enc := S4.v) (h32.keep (Below.refl _ _).drew) HNE.out.2.2.2.1 (cvals (markN s (k + 1) seen))
      have h43 := wput_blk (enc := S4.v) (hr4.keep (Below.refl _ _).drew) HNE.out.2.2.2.2.1 (cvals (markN s (k + 1) seen))
      have hg3 := grown_trans (grown_trans hg2 (grown_of_below (Below.refl _ _).drew)) (wput_grown (enc := S4.v) Y.drew gs (cvals (markN s (k + 1) seen)))
      have HM3 : Hid (MarkW w n3 n4 ne gs s (exL on N cn gm st go gb gs gc) seen (k + 1) (wput Y.drew gs S4.v (cvals (markN s (k + 1) seen)))) := Lib.hid ⟨h33, h43, hX3, hm3, hg3⟩
      clear h33 h43 hX3 hm3 hg3 hmark hm2 hg2 h32
      generalize cvals (markN s (k + 1) seen) = m9 at hl4 HM3
      generalize cntN (markN s k seen) (begF s (k + 1)) = c at hl1 hl2 hl3 hl4 hcb
      have hc9 : c ≤ 1000000000004 := by omega
      clear hcb hcb2
      obtain ⟨t, ht⟩ : ∃ t, t = begF s (k + 1) := ⟨_, rfl⟩
      rw [← ht] at hl1 hl2 hl3 hl4 hr4
      clear ht
      have hcz : ∀ b i, b ≠ gs → (wput Y.drew gs S4.v (putL (cvals (markN s k seen)) t (.int .i64 (c : Nat)))).cell? ⟨b, i, none⟩ = Y.cell? ⟨b, i, none⟩ := fun b i h => wput_cell h
      generalize wput Y.drew gs S4.v (putL (cvals (markN s k seen)) t (.int .i64 (c : Nat))) = Z at hl2 hl3 hl4 hcz
      unfold S4.v at hl1 hl2 hl3
      unfold goInt at hl2 hl4
      have b0 : Y.cell? ⟨n4, 0, none⟩ = some (.int .i64 t.a) := hr4.c 0 _ rfl
      have b1 : Y.cell? ⟨n4, 1, none⟩ = some (.int .i64 t.b) := hr4.c 1 _ rfl
      have b2 : Y.cell? ⟨n4, 2, none⟩ = some (.int .i64 t.c) := hr4.c 2 _ rfl
      have b3 : Y.cell? ⟨n4, 3, none⟩ = some (.int .i64 t.d) := hr4.c 3 _ rfl
      have l4 := hr4.lt
      have x11 : Y.cell? ⟨ne, 11, none⟩ = some (.map (some gs)) := hX2.c 11 _ rfl
      have lx := hX2.lt
      have hw1 : IntKind.i64.wrap ((c : Int) + 1) = (c : Int) + 1 := IntWalk.i64_in _ (by omega)
      have hS1 : Y.cell? ⟨ne, 11, none⟩ = some (.map (some gs)) ∧ Y.cell? ⟨n4, 0, none⟩ = some (.int .i64 t.a) ∧ Y.cell? ⟨n4, 1, none⟩ = some (.int .i64 t.b) ∧ Y.cell? ⟨n4, 2, none⟩ = some (.int .i64 t.c) ∧ Y.cell? ⟨n4, 3, none⟩ = some (.int .i64 t.d) := ⟨x11, b0, b1, b2, b3⟩
      have hS2 : Z.cell? ⟨ne, 11, none⟩ = some (.map (some gs)) ∧ Z.cell? ⟨n4, 0, none⟩ = some (.int .i64 t.a) ∧ Z.cell? ⟨n4, 1, none⟩ = some (.int .i64 t.b) ∧ Z.cell? ⟨n4, 2, none⟩ = some (.int .i64 t.c) ∧ Z.cell? ⟨n4, 3, none⟩ = some (.int .i64 t.d) := by
        have h := fun i => hcz n4 i HNE.out.2.2.2.2.1
        rw [hcz ne 11 HNE.out.2.2.2.2.2, h 0, h 1, h 2, h 3]; exact hS1
      have hS3 : (wput Y.drew gs S4.v m9).cell? ⟨ne, 11, none⟩ = some (.map (some gs)) ∧ (wput Y.drew gs S4.v m9).cell? ⟨n4, 0, none⟩ = some (.int .i64 t.a) ∧ (wput Y.drew gs S4.v m9).cell? ⟨n4, 1, none⟩ = some (.int .i64 t.b) ∧ (wput Y.drew gs S4.v m9).cell? ⟨n4, 2, none⟩ = some (.int .i64 t.c) ∧ (wput Y.drew gs S4.v m9).cell? ⟨n4, 3, none⟩ = some (.int .i64 t.d) := by
        have h := fun i => wput_cell (W := Y.drew) (enc := S4.v) (l := m9) (i := i) HNE.out.2.2.2.2.1
        rw [wput_cell HNE.out.2.2.2.2.2, h 0, h 1, h 2, h 3]; exact hS1
      clear hr4 hX2 hcz
      go_region_held3 (fun X => X.cell? ⟨ne, 11, none⟩ = some (.map (some gs)) ∧ X.cell? ⟨n4, 0, none⟩ = some (.int .i64 t.a) ∧ X.cell? ⟨n4, 1, none⟩ = some (.int .i64 t.b) ∧ X.cell? ⟨n4, 2, none⟩ = some (.int .i64 t.c) ∧ X.cell? ⟨n4, 3, none⟩ = some (.int .i64 t.d))
        (first
          | exact hS1
          | exact hS2
          | exact hS3)
        (fail)
      all_goals
        clear hS1 hS2 hS3 hl1 hl2 hl3 hl4 b0 b1 b2 b3 l4 x11 lx
        generalize wput Y.drew gs S4.v m9 = Y9 at HM3 ⊢
        go_wp2
        go_roundw
        case rel => exact ⟨k + 1, by simp, by omega, HM3.out⟩
        case measure => simp [intOf]; omega
    · have hkN : k = N := by omega
      subst hkN
      go_wp2
      go_end0
      exact ⟨rfl, hM.m, hM.g⟩
end Go.Proofs.Jn
end

