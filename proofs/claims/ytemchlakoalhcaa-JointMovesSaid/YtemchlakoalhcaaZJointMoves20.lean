/-
  Texts put together: Ej Ek Fa Fd.
-/
import Derived.Test.YtemchlakoalhcaaZJointMoves19
import Derived.StillTailTactics
import Derived.Test.YtemchlakoalhcaaZJointMoves17
import Derived.Test.YtemchlakoalhcaaZJointMoves18
set_option linter.unusedVariables false
section
/-
  Walks: plan, the walk.
-/
namespace Go.Proofs.Jn
open Go.RowKit Go.Shelf

/-- What stands while the plan is laid. -/
structure PlA (w W : World) (ne gb gp M : Nat) (xl : List Value) (bef : List (S4 × S4)) (gk : List Nat) (rest : Nat) (rows : List (List Int)) : Prop where
  x : Blk W ne xl
  m : MapIs W gb S4.v (bvals bef)
  pl : PlW W gp M gk rest rows
  bel : Below w.heap.size w W
theorem PlA.keep {w W W' : World} {ne gb gp M : Nat} {xl : List Value} {bef : List (S4 × S4)} {gk : List Nat} {rest : Nat} {rows : List (List Int)} (h : PlA w W ne gb gp M xl bef gk rest rows) (hb : Below W.heap.size W W') : PlA w W' ne gb gp M xl bef gk rest rows :=
  ⟨h.x.keep hb, h.m.keep hb, h.pl.keep hb, below_call h.bel hb⟩
theorem set_alloc (W : World) (o : Obj) (p : Addr) (v : Value) (h : p.block < W.heap.size) : (W.alloc o).setCell p v = (W.setCell p v).alloc o := by
  unfold World.setCell World.alloc
  congr 1
  apply Array.ext
  · simp
  · intro i h1 h2
    simp only [Array.getElem_modify, Array.getElem_push]
    simp at h1
    by_cases hi : i < W.heap.size
    · simp [hi]
    · have : p.block ≠ i := by omega
      simp [hi, this]
theorem run_make22b (n : Nat) (hn : n ≤ 1000) (u : World) : (Instr.makeSlice 22 (.int .i64 ((n : Int) + 1)) (.int .i64 ((n : Int) + 1))).run Try.prog u = .ok (.slice (some ⟨u.heap.size, 0, none⟩) (n + 1) (n + 1)) (u.alloc (.cells (Array.replicate (n + 1) (Value.int .i64 0)) 3)) := by
  obtain ⟨i, hi, hz, hs, hb⟩ := info_parts info3
  have := run_makeSlice (P := Try.prog) u 22 3 i (.int .i64 0) under22 hi hz .i64 .i64 (n + 1 : Nat) (n + 1 : Nat) (by omega) (Int.le_refl _) (by rw [hs]; simp; omega) (by rw [hb]; simp; omega) (by omega)
  rw [hs] at this
  simp only [Int.toNat_natCast, Nat.mul_one] at this
  have hc : madeCells (Value.int .i64 0).cells (n + 1) = Array.replicate (n + 1) (Value.int .i64 0) := made_zero (n + 1)
  rw [hc] at this
  exact this
set_option maxRecDepth 100000 in
set_option maxHeartbeats 4000000 in
theorem plan_any (on : Option Addr) (N cn gm ne gb gs gc n : Nat) (st go : S4) (bef : List (S4 × S4)) (w : World) (hX : Blk w ne (exL on N cn gm st go gb gs gc)) (hb : MapIs w gb S4.v (bvals bef)) (hN : N ≤ 4) (hn : n ≤ 100) :
    Calls Try.prog 33 #[.pointer (some ⟨ne, 0, none⟩), .int .i64 (n : Nat)] w fun e W => ∃ gp gk, e = .returned (.slice (some ⟨gp, 0, none⟩) N N) ∧ PlW W gp (n + 1) gk 0 (rowsJ bef go N n (n + 1) 0) ∧ Below w.heap.size w W := by
  have hm30 := run_make30 N (by omega)
  have hm22 := run_make22b n (by omega)
  have hlx := hX.lt
  have hlb := hb.lt
  go_enter Try.func33, Try.ntmps33
  have x0 : w.cell? ⟨ne, 0, none⟩ = some (.slice on N cn) := hX.c 0 _ rfl
  go_upto_region 2 with fail
  clear x0
  have hA : PlA w (w.alloc (.cells (Array.replicate N (Value.slice none 0 0)) 22)) ne gb w.heap.size (n + 1) (exL on N cn gm st go gb gs gc) bef [] N [] := by
    have hal : Below w.heap.size w (w.alloc (.cells (Array.replicate N (Value.slice none 0 0)) 22)) := (Below.refl _ _).alloc (Nat.le_refl _) _
    refine ⟨hX.keep hal, hb.keep hal, ⟨?_, rfl, by simp, List.nodup_nil, by simp⟩, hal⟩
    have := Blk.new w (List.replicate N (Value.slice none 0 0)) 22
    simpa using this
  generalize w.alloc (.cells (Array.replicate N (Value.slice none 0 0)) 22) = W1 at hA ⊢
  obtain ⟨gp, hgp⟩ : ∃ g, g = w.heap.size := ⟨_, rfl⟩
  rw [← hgp] at hA ⊢
  have HGP := Lib.hid hgp
  clear hX hb hgp hm30
  go_wp2_with fail
  go_loopw [19] (fun i W => ∃ (k : Nat) (gk : List Nat), i = .int .i64 (k : Nat) ∧ k ≤ N ∧ gk.length = k ∧ PlA w W ne gb gp (n + 1) (exL on N cn gm st go gb gs gc) bef gk (N - k) (List.replicate k (List.replicate (n + 1) 0))) (fun i _ => N - (intOf i).toNat)
  case atStart => exact ⟨0, [], rfl, Nat.zero_le _, rfl, hA⟩
  case round =>
    clear hA
    obtain ⟨k, gk, rfl, hk, hgl, hA⟩ := hrel
    have HG := Lib.hid hgl
    clear hgl
    by_cases hlt : k < N
    · have hm := hA.pl.p
      rw [show N - k = (N - (k + 1)) + 1 by omega] at hm
      have hpl := hA.pl
      rw [show N - k = (N - (k + 1)) + 1 by omega] at hpl
      have hmore := hpl.more
      have c0 : wr.cell? ⟨gp, k, none⟩ = some (.slice none 0 0) := hm.c k _ (by rw [List.getElem?_append_right (by simp [HG.out])]; simp [HG.out])
      have f0 := hm.f k
      have lg := hm.lt
      rw [HG.out] at hmore
      have hsz : (wr.alloc (.cells (Array.replicate (n + 1) (Value.int .i64 0)) 3)).heap.size = wr.heap.size + 1 := by simp
      have hbl : Below w.heap.size w ((wr.alloc (.cells (Array.replicate (n + 1) (Value.int .i64 0)) 3)).setCell ⟨gp, k, none⟩ (slv (n + 1) wr.heap.size)) := (hA.bel.alloc hA.bel.size _).setCell (p := ⟨gp, k, none⟩) (by show w.heap.size ≤ gp; have := HGP.out; omega) _
      have hal : Below wr.heap.size wr (wr.alloc (.cells (Array.replicate (n + 1) (Value.int .i64 0)) 3)) := (Below.refl _ _).alloc (Nat.le_refl _) _
      have hst : ∀ b, b ≠ gp → ((wr.alloc (.cells (Array.replicate (n + 1) (Value.int .i64 0)) 3)).setCell ⟨gp, k, none⟩ (slv (n + 1) wr.heap.size)).heap[b]? = (wr.alloc (.cells (Array.replicate (n + 1) (Value.int .i64 0)) 3)).heap[b]? := fun b hb => Below.heap_setCell _ ⟨gp, k, none⟩ _ b hb
      have hs : (wr.alloc (.cells (Array.replicate (n + 1) (Value.int .i64 0)) 3)).heap.size ≤ ((wr.alloc (.cells (Array.replicate (n + 1) (Value.int .i64 0)) 3)).setCell ⟨gp, k, none⟩ (slv (n + 1) wr.heap.size)).heap.size := by simp [World.setCell]
      have hrep : List.replicate k (List.replicate (n + 1) (0 : Int)) ++ [List.replicate (n + 1) 0] = List.replicate (k + 1) (List.replicate (n + 1) 0) := by rw [← List.replicate_succ']
      rw [hrep] at hmore
      have HA2 : Hid (PlA w ((wr.alloc (.cells (Array.replicate (n + 1) (Value.int .i64 0)) 3)).setCell ⟨gp, k, none⟩ (.slice (some ⟨wr.heap.size, 0, none⟩) (n + 1) (n + 1))) ne gb gp (n + 1) (exL on N cn gm st go gb gs gc) bef (gk ++ [wr.heap.size]) (N - (k + 1)) (List.replicate (k + 1) (List.replicate (n + 1) 0))) :=
        Lib.hid ⟨(hA.x.keep hal).keepN (hst ne (by have := HGP.out; omega)) hs, (hA.m.keep hal).keepN (hst gb (by have := HGP.out; omega)), hmore, hbl⟩
      have hw1 : IntKind.i64.wrap ((n : Int) + 1) = (n : Int) + 1 := IntWalk.i64_in _ (by omega)
      rw [set_alloc _ _ _ _ lg] at HA2
      clear hA hm hpl hmore hsz hbl hal hst hs hrep
      go_upto_region 6 with fail
      clear c0 f0 lg
      generalize (wr.setCell ⟨gp, k, none⟩ (.slice (some ⟨wr.heap.size, 0, none⟩) (n + 1) (n + 1))).alloc (.cells (Array.replicate (n + 1) (Value.int .i64 0)) 3) = W2 at HA2 ⊢
      go_wp2_with fail
      go_roundw
      case rel => exact ⟨k + 1, _, by simp, by omega, by simp [HG.out], HA2.out⟩
      case measure => simp [intOf]; omega
    · have hkN : N = k := by omega
      subst hkN
      have hA0 : PlA w wr ne gb gp (n + 1) (exL on N cn gm st go gb gs gc) bef gk 0 (rowsJ bef go N n 0 0) := by
        rw [rowsJ_zero]; have := hA; rw [Nat.sub_self] at this; exact this
      have x6 : wr.cell? ⟨ne, 6, none⟩ = some (.int .i64 go.a) := hA0.x.c 6 _ rfl
      have x7 : wr.cell? ⟨ne, 7, none⟩ = some (.int .i64 go.b) := hA0.x.c 7 _ rfl
      have x8 : wr.cell? ⟨ne, 8, none⟩ = some (.int .i64 go.c) := hA0.x.c 8 _ rfl
      have x9 : wr.cell? ⟨ne, 9, none⟩ = some (.int .i64 go.d) := hA0.x.c 9 _ rfl
      have lx := hA0.x.lt
      have lgp := hA0.pl.p.lt
      have hhi : ∀ g ∈ gk, g < wr.heap.size := fun g hg => (hA0.pl.hi g hg).2
      have HA0 := Lib.hid hA0
      clear hA hA0
      go_upto_region 8 with fail
      clear x6 x7 x8 x9 lx
      replace HA0 := HA0.out
      have hbx_ := blks1 wr [.int .i64 go.a, .int .i64 go.b, .int .i64 go.c, .int .i64 go.d] 84
      replace HA0 := HA0.keep hbx_.2
      have hoe : wr.heap.size ≤ wr.heap.size := by omega
      generalize wr.alloc (.cells #[.int .i64 go.a, .int .i64 go.b, .int .i64 go.c, .int .i64 go.d] 84) = V at hbx_ HA0 ⊢
      obtain ⟨r7, hbel_⟩ := hbx_
      obtain ⟨n7, hn_⟩ : ∃ n, n = wr.heap.size := ⟨_, rfl⟩
      rw [← hn_] at r7 ⊢
      replace hoe := Nat.le_of_eq hn_.symm
      clear hn_
      have hlow : w.heap.size ≤ n7 := by have := HGP.out; omega
      have h7g : ∀ g ∈ gk, g ≠ n7 := fun g hg => by have := hhi g hg; omega
      have h7p : gp ≠ n7 := by omega
      have H7 := Lib.hid (And.intro hlow (And.intro h7g h7p))
      clear hhi lgp hlow h7g h7p hoe
      go_wp2_with fail
      go_loopw [8] (fun i W => ∃ j : Nat, i = .int .i64 ((n : Int) - (j : Int)) ∧ j ≤ n + 1 ∧ PlA w W ne gb gp (n + 1) (exL on N cn gm st go gb gs gc) bef gk 0 (rowsJ bef go N n j 0) ∧ Blk W n7 (bk bef go j).l) (fun i _ => (intOf i + 1).toNat)
      case atStart => exact ⟨0, by simp, by omega, HA0, r7⟩
      case round =>
        clear HA0 r7
        obtain ⟨j, rfl, hj, hA, r7⟩ := hrel
        by_cases hjn : j ≤ n
        · obtain ⟨q, hq⟩ : ∃ q : Nat, q + j = n := ⟨n - j, by omega⟩
          have hi : (n : Int) - (j : Int) = (q : Int) := by omega
          rw [hi]
          have hge : decide ((q : Int) ≥ 0) = true := decide_eq_true (by omega)
          have HQ := Lib.hid hq
          have HJN := Lib.hid hjn
          clear hi hq hj hjn
          go_wp2_with fail
          go_loopw [40] (fun i W => ∃ k : Nat, i = .int .i64 (k : Nat) ∧ k ≤ N ∧ PlA w W ne gb gp (n + 1) (exL on N cn gm st go gb gs gc) bef gk 0 (rowsJ bef go N n j k) ∧ Blk W n7 (bk bef go j).l) (fun i _ => N - (intOf i).toNat)
          case atStart => exact ⟨0, rfl, Nat.zero_le _, hA, r7⟩
          case round =>
            clear hA r7
            obtain ⟨k, rfl, hk, hA, r7⟩ := hrel
            obtain ⟨Wb, rfl⟩ : ∃ X, X = wr := ⟨_, rfl⟩
            by_cases hlt : k < N
            · have hgl : k < gk.length := by rw [HG.out]; exact hlt
              obtain ⟨g, hg⟩ : ∃ g, gk[k]? = some g := ⟨_, List.getElem?_eq_getElem hgl⟩
              have hrow := rowsJ_get bef go N n j k hlt
              have hbg := hA.pl.r k g _ hg hrow
              have hput := hA.pl.put hg hrow q ((bk bef go j).get k)
              have hqn : q = n - j := by have := HQ.out; omega
              rw [hqn, rowsJ_step bef go N n j k hlt HJN.out, ← hqn] at hput
              have hgi := hA.pl.hi g (List.mem_of_getElem? hg)
              have h7 := H7.out.2.1 g (List.mem_of_getElem? hg)
              have p0 : Wb.cell? ⟨gp, k, none⟩ = some (slv (n + 1) g) := hA.pl.p.c k _ (by rw [List.getElem?_append_left (by simpa using hgl)]; simp [hg])
              unfold slv at p0
              have lp := hA.pl.p.lt
              have s7 := r7.c k _ (S4.l_get _ k (by omega))
              have l7 := r7.lt
              obtain ⟨x, hx⟩ : ∃ x, (pflat (rowJ bef go n j false k))[q]? = some x := ⟨_, List.getElem?_eq_getElem (by simp [pflat, rowJ_len]; have := HQ.out; omega)⟩
              have g0 := hbg.c q x hx
              have fg := hbg.f q
              have lg := hbg.lt
              have hqi : (q : Int) < ((n + 1 : Nat) : Int) := by have := HQ.out; omega
              have hqi2 : (q : Int) < (n : Int) + 1 := by have := HQ.out; omega
              have HK := Lib.hid hlt
              have HPA : Hid (PlA w ((Wb.setCell ⟨g, q, none⟩ (.int .i64 ((bk bef go j).get k))).drew) ne gb gp (n + 1) (exL on N cn gm st go gb gs gc) bef gk 0 (rowsJ bef go N n j (k + 1)) ∧ Blk ((Wb.setCell ⟨g, q, none⟩ (.int .i64 ((bk bef go j).get k))).drew) n7 (bk bef go j).l) := Lib.hid (by
                have hgw : w.heap.size ≤ g := by have := HGP.out; omega
                have hp2 : PlA w (Wb.setCell ⟨g, q, none⟩ (.int .i64 ((bk bef go j).get k))) ne gb gp (n + 1) (exL on N cn gm st go gb gs gc) bef gk 0 (rowsJ bef go N n j (k + 1)) :=
                  ⟨hA.x.keepG (grown_set Wb g q _) (by omega), hA.m.keepG (grown_set Wb g q _) (by omega), hput, hA.bel.setCell (p := ⟨g, q, none⟩) hgw _⟩
                exact ⟨hp2.keep (Below.refl _ _).drew, (r7.keepG (grown_set Wb g q _) (Ne.symm h7)).keep (Below.refl _ _).drew⟩)
              clear hA r7 hrow hbg hput hgi hx hg hgl hlt hqn h7
              have hki : (k : Int) < (N : Int) := by have := HK.out; omega
              have hk4 : (k : Int) < 4 := by omega
              go_upto_region 14 with fail
              go_still_tail 9, (by kernel_rfl)
              change wpList _ _ _ _ _ Wb.drew
              have g0d : Wb.drew.cell? ⟨g, q, none⟩ = some x := g0
              have fgd : Wb.drew.frozen? ⟨g, q, none⟩ = false := fg
              have lgd : g < Wb.drew.heap.size := lg
              clear p0 lp s7 l7 g0 fg lg
              go_upto_region 15 with fail
              clear g0d fgd lgd
              generalize (Wb.setCell ⟨g, q, none⟩ (.int .i64 ((bk bef go j).get k))).drew = V2 at HPA ⊢
              go_wp2_with fail
              go_roundw
              case rel => exact ⟨k + 1, by simp, by omega, HPA.out.1, HPA.out.2⟩
              case measure => have := HK.out; simp [intOf]; omega
            · have hkN : k = N := by omega
              rw [hkN, rowsJ_all] at hA
              have hlk := run_bef Wb.drew gb bef (bk bef go j) (hA.m.keep (Below.refl _ _).drew)
              have hnx : getB bef (bk bef go j) = bk bef go (j + 1) := rfl
              rw [hnx] at hlk
              clear hnx
              have x10 : Wb.cell? ⟨ne, 10, none⟩ = some (.map (some gb)) := hA.x.c 10 _ rfl
              have lx := hA.x.lt
              have hnn : ne < n7 := by have := H7.out.1; omega
              have hbn : gb < n7 := by have := H7.out.1; omega
              generalize bk bef go j = t at hlk r7
              obtain ⟨u, hu⟩ : ∃ u, u = bk bef go (j + 1) := ⟨_, rfl⟩
              rw [← hu] at hlk
              have hset : ∀ X : World, PlA w X ne gb gp (n + 1) (exL on N cn gm st go gb gs gc) bef gk 0 (rowsJ bef go N n (j + 1) 0) → ∀ i x, PlA w (X.setCell ⟨n7, i, none⟩ x) ne gb gp (n + 1) (exL on N cn gm st go gb gs gc) bef gk 0 (rowsJ bef go N n (j + 1) 0) := fun X hP i x => by
                have hs : X.heap.size ≤ (X.setCell ⟨n7, i, none⟩ x).heap.size := by simp [World.setCell]
                have hst : ∀ b, b ≠ n7 → (X.setCell ⟨n7, i, none⟩ x).heap[b]? = X.heap[b]? := fun b hb => Below.heap_setCell X ⟨n7, i, none⟩ x b hb
                exact ⟨hP.x.keepN (hst ne (by omega)) hs, hP.m.keepN (hst gb (by omega)), ⟨hP.pl.p.keepN (hst gp H7.out.2.2) hs, hP.pl.len, fun i g l h1 h2 => (hP.pl.r i g l h1 h2).keepN (hst g (H7.out.2.1 g (List.mem_of_getElem? h1))) hs, hP.pl.nd, fun g hg => ⟨(hP.pl.hi g hg).1, Nat.lt_of_lt_of_le (hP.pl.hi g hg).2 hs⟩⟩, hP.bel.setCell (p := ⟨n7, i, none⟩) H7.out.1 _⟩
              have HF : Hid (PlA w (((((Wb.setCell ⟨n7, 0, none⟩ (.int .i64 u.a)).setCell ⟨n7, 1, none⟩ (.int .i64 u.b)).setCell ⟨n7, 2, none⟩ (.int .i64 u.c)).setCell ⟨n7, 3, none⟩ (.int .i64 u.d)).drew) ne gb gp (n + 1) (exL on N cn gm st go gb gs gc) bef gk 0 (rowsJ bef go N n (j + 1) 0) ∧ Blk (((((Wb.setCell ⟨n7, 0, none⟩ (.int .i64 u.a)).setCell ⟨n7, 1, none⟩ (.int .i64 u.b)).setCell ⟨n7, 2, none⟩ (.int .i64 u.c)).setCell ⟨n7, 3, none⟩ (.int .i64 u.d)).drew) n7 u.l) :=
                Lib.hid ⟨(hset _ (hset _ (hset _ (hset _ hA 0 _) 1 _) 2 _) 3 _).keep (Below.refl _ _).drew, ((((r7.put 0 (.int .i64 u.a)).put 1 (.int .i64 u.b)).put 2 (.int .i64 u.c)).put 3 (.int .i64 u.d)).keep (Below.refl _ _).drew⟩
              rw [hu] at HF
              have HU := Lib.hid hu
              have b0 : Wb.cell? ⟨n7, 0, none⟩ = some (.int .i64 t.a) := r7.c 0 _ rfl
              have b1 : Wb.cell? ⟨n7, 1, none⟩ = some (.int .i64 t.b) := r7.c 1 _ rfl
              have b2 : Wb.cell? ⟨n7, 2, none⟩ = some (.int .i64 t.c) := r7.c 2 _ rfl
              have b3 : Wb.cell? ⟨n7, 3, none⟩ = some (.int .i64 t.d) := r7.c 3 _ rfl
              have l7 := r7.lt
              have g0 := r7.f 0
              have g1 := r7.f 1
              have g2 := r7.f 2
              have g3 := r7.f 3
              unfold S4.v at hlk
              rw [← HU.out] at HF
              clear hset hu hA r7 hnn hbn
              go_upto_region 16 with fail
              go_still_tail 6, (by kernel_rfl)
              change wpList _ _ _ _ _ Wb.drew
              have g0d : Wb.drew.frozen? ⟨n7, 0, none⟩ = false := g0
              have g1d : Wb.drew.frozen? ⟨n7, 1, none⟩ = false := g1
              have g2d : Wb.drew.frozen? ⟨n7, 2, none⟩ = false := g2
              have g3d : Wb.drew.frozen? ⟨n7, 3, none⟩ = false := g3
              have b0d : Wb.drew.cell? ⟨n7, 0, none⟩ = some (.int .i64 t.a) := b0
              have b1d : Wb.drew.cell? ⟨n7, 1, none⟩ = some (.int .i64 t.b) := b1
              have b2d : Wb.drew.cell? ⟨n7, 2, none⟩ = some (.int .i64 t.c) := b2
              have b3d : Wb.drew.cell? ⟨n7, 3, none⟩ = some (.int .i64 t.d) := b3
              have l7d : n7 < Wb.drew.heap.size := l7
              clear hlk x10 lx
              go_upto_region 10 with fail
              clear b0 b1 b2 b3 l7 g0 g1 g2 g3 g0d g1d g2d g3d b0d b1d b2d b3d l7d
              generalize ((((Wb.setCell ⟨n7, 0, none⟩ (.int .i64 u.a)).setCell ⟨n7, 1, none⟩ (.int .i64 u.b)).setCell ⟨n7, 2, none⟩ (.int .i64 u.c)).setCell ⟨n7, 3, none⟩ (.int .i64 u.d)).drew = V2 at HF ⊢
              rw [HU.out] at HF
              have hw2 : IntKind.i64.wrap ((q : Int) - 1) = (q : Int) - 1 := IntWalk.i64_in _ (by have := HQ.out; omega)
              go_wp2_with fail
              go_roundw
              case rel => exact ⟨j + 1, by have := HQ.out; congr 1; omega, by have := HJN.out; omega, HF.out.1, HF.out.2⟩
              case measure => have := HQ.out; simp [intOf]
        · have hjn2 : j = n + 1 := by omega
          subst hjn2
          have hi : decide ((n : Int) - ((n + 1 : Nat) : Int) ≥ 0) = false := decide_eq_false (by omega)
          have HA := Lib.hid hA
          clear hA r7
          go_wp2
          go_ret
          exact ⟨gp, gk, rfl, HA.out.pl, HA.out.bel⟩
end Go.Proofs.Jn
end

section
/-
  A region that draws its order, by what holds of what has been done: one step for each operation, whatever the order.
-/
namespace Go.Proofs.Jn
open Go.RowKit Go.Shelf

def Lof (listed : Array Bool) (k : Nat) : Bool := listed.getD k false
def upL' (L : Nat → Bool) (i k : Nat) : Bool := Nat.beq k i || L k
theorem countP_lt {α : Type} {p q : α → Bool} : ∀ {l : List α}, (∀ x ∈ l, q x = true → p x = true) → ∀ {i : α}, i ∈ l → p i = true → q i = false → l.countP q < l.countP p
  | [], _, _, hi, _, _ => by cases hi
  | a :: r, h, i, hi, hp, hq => by
    have hr : ∀ x ∈ r, q x = true → p x = true := fun x hx => h x (by simp [hx])
    rw [List.countP_cons, List.countP_cons]
    have hle : r.countP q ≤ r.countP p := List.countP_mono_left hr
    rcases List.mem_cons.1 hi with rfl | hi
    · simp [hp, hq]; omega
    · have := countP_lt hr hi hp hq
      have h1 := h a (by simp)
      by_cases e : q a = true
      · simp [e, h1 e]; omega
      · simp [e]; omega
/-- The operations wait for earlier ones only. -/
def ordOk (ops : Array Oper) : Bool := (List.range ops.size).all fun i => match ops[i]? with
  | some o => o.after.all fun e => decide (e.on < i)
  | none => true
theorem wpAny_inv {P : Program} {md : Region.Mode} {ops : Array Oper} {Q : Exit → Act → World → Prop} (hord : ordOk ops = true) (J : (Nat → Bool) → Act → World → Prop)
    (hstep : ∀ (i : Nat) (o : Oper), ops[i]? = some o → ∀ (L : Nat → Bool) (a : Act) (w : World), L i = false → (∀ e ∈ o.after, Region.binds md e = true → L e.on = true) → J L a w → wpOp P ops Q i (J (upL' L i)) a w)
    (hend : ∀ (L : Nat → Bool) (a : Act) (w : World), (∀ k, k < ops.size → L k = true) → J L a w → Q .normal a w) :
    ∀ (fuel : Nat) (listed : Array Bool) (a : Act) (w : World), listed.size = ops.size → (List.range ops.size).countP (fun k => !Lof listed k) ≤ fuel → J (Lof listed) a w → wpAny P md ops Q fuel listed a w := by
  have hall : ∀ (listed : Array Bool), listed.size = ops.size → Region.ready md ops listed = [] → ∀ k, k < ops.size → Lof listed k = true := by
    intro listed hs hr k
    induction k using Nat.strongRecOn with
    | _ k ih =>
      intro hk
      by_cases e : Lof listed k = true
      · exact e
      · exfalso
        have hm : k ∈ Region.ready md ops listed := by
          unfold Region.ready
          rw [List.mem_filter]
          refine ⟨List.mem_range.2 hk, ?_⟩
          have hkl : k < listed.size := by omega
          have h1 : listed.getD k true = false := by
            have : listed.getD k false = false := by simpa [Lof] using e
            simp [Array.getD, hkl] at this ⊢
            exact this
          have ho : ops[k]? = some ops[k] := Array.getElem?_eq_getElem hk
          rw [h1, ho]
          simp only [Bool.not_false, Bool.true_and, Option.map_some, Option.getD_some]
          rw [Array.all_eq_true_iff_forall_mem]
          intro x hx
          have hlt : x.on < k := by
            unfold ordOk at hord
            rw [List.all_eq_true] at hord
            have := hord k (List.mem_range.2 hk)
            rw [ho] at this
            simp only at this
            rw [Array.all_eq_true_iff_forall_mem] at this
            exact of_decide_eq_true (this x hx)
          have := ih x.on hlt (by omega)
          unfold Lof at this
          rw [this]; simp
        rw [hr] at hm; cases hm
  intro fuel
  induction fuel with
  | zero =>
    intro listed a w hs hc hJ
    have hl : ∀ k, k < ops.size → Lof listed k = true := fun k hk => by
      have h0 : (List.range ops.size).countP (fun k => !Lof listed k) = 0 := by omega
      rw [List.countP_eq_zero] at h0
      have := h0 k (List.mem_range.2 hk)
      simpa using this
    refine ⟨?_, hend _ a w hl hJ⟩
    unfold Region.ready
    rw [List.filter_eq_nil_iff]
    intro k hk
    have hk := List.mem_range.1 hk
    have hkl : k < listed.size := by omega
    have := hl k hk
    simp [Lof, Array.getD, hkl] at this
    simp [hkl, this]
  | succ fuel ih =>
    intro listed a w hs hc hJ
    refine ⟨fun hr => hend _ a w (hall listed hs hr) hJ, fun i hi => ?_⟩
    unfold Region.ready at hi
    rw [List.mem_filter] at hi
    obtain ⟨hi1, hi2⟩ := hi
    have hil := List.mem_range.1 hi1
    have ho : ops[i]? = some ops[i] := Array.getElem?_eq_getElem hil
    rw [ho, Bool.and_eq_true] at hi2
    obtain ⟨hu, hd⟩ := hi2
    simp only [Option.map_some, Option.getD_some] at hd
    rw [Array.all_eq_true_iff_forall_mem] at hd
    have hkl : i < listed.size := by omega
    have hset : Lof (listed.setIfInBounds i true) = upL' (Lof listed) i := by
      funext k
      unfold Lof upL'
      by_cases e : k = i
      · subst e; simp [Array.getD, hkl]
      · have : Nat.beq k i = false := by
          cases h : Nat.beq k i with
          | true => exact absurd (Nat.eq_of_beq_eq_true h) e
          | false => rfl
        rw [this, Bool.false_or]
        simp only [Array.getD, Array.size_setIfInBounds]
        split
        · rename_i hk
          exact Array.getElem_setIfInBounds_ne _ (Ne.symm e)
        · rfl
    refine wpOp_mono (fun a' w' h => ?_) (hstep i _ ho (Lof listed) a w (by
      simp [Array.getD, hkl] at hu
      simp [Lof, Array.getD, hkl, hu]) (fun e he hb => by
      have := hd e he
      rw [hb] at this
      simpa [Lof] using this) hJ)
    rw [← hset] at h
    refine ih _ a' w' (by simpa using hs) ?_ h
    have hlt := countP_lt (l := List.range ops.size) (p := fun k => !Lof listed k) (q := fun k => !Lof (listed.setIfInBounds i true) k) (fun k _ hk => by
      simp only [Bool.not_eq_true'] at hk ⊢
      rw [hset] at hk
      simp only [upL', Bool.or_eq_false_iff] at hk
      exact hk.2) hi1 (by
      simp only [Bool.not_eq_true'] at hu ⊢
      simp [Array.getD, hkl] at hu
      simp [Lof, Array.getD, hkl, hu]) (by
      simp [Lof, Array.getD, hkl])
    omega
theorem wp_region_inv {P : Program} {ops : Array Oper} {Q : Exit → Act → World → Prop} {id : Nat} {a : Act} {w : World} (hm : P.follows .mixedOrders = true) (hord : ordOk ops = true) (J : (Nat → Bool) → Act → World → Prop) (h0 : J (fun _ => false) a w.drew)
    (hstep : ∀ (i : Nat) (o : Oper), ops[i]? = some o → ∀ (L : Nat → Bool) (a : Act) (w : World), L i = false → (∀ e ∈ o.after, Region.binds .any e = true → L e.on = true) → J L a w → wpOp P ops Q i (J (upL' L i)) a w)
    (hend : ∀ (L : Nat → Bool) (a : Act) (w : World), (∀ k, k < ops.size → L k = true) → J L a w → Q .normal a w) : (Code.region id ops true).wp P Q a w := by
  refine wp_region_any hm (wpAny_inv hord J hstep hend ops.size _ a _ (by simp) ?_ ?_)
  · refine Nat.le_trans (List.countP_le_length) (by simp)
  · have : Lof (Array.replicate ops.size false) = fun _ => false := by
      funext k
      simp [Lof, Array.getD]
    rw [this]
    exact h0
end Go.Proofs.Jn
end

section
/-
  Plain law: Components gives both ends of a proved edge the same number.
-/
namespace Go.Proofs.Jn

/-- r gives each place the root of its tree. -/
structure RepI (L : List Nat) (r : Nat → Nat) : Prop where
  ds : Desc L
  par : ∀ x, x < L.length → r (atOf L x) = r x
  fix : ∀ x, x < L.length → atOf L x = x → r x = x
theorem RepI.le {L : List Nat} {r : Nat → Nat} (h : RepI L r) : ∀ x, x < L.length → r x ≤ x := by
  intro x
  induction x using Nat.strongRecOn with
  | _ x ih =>
    intro hx
    have hd := h.ds x hx
    by_cases e : atOf L x = x
    · rw [h.fix x hx e]; exact Nat.le_refl _
    · have := ih (atOf L x) (by omega) (by omega)
      rw [h.par x hx] at this
      omega
theorem RepI.root {L : List Nat} {r : Nat → Nat} (h : RepI L r) : ∀ x, x < L.length → atOf L (r x) = r x ∧ r (r x) = r x := by
  intro x
  induction x using Nat.strongRecOn with
  | _ x ih =>
    intro hx
    have hd := h.ds x hx
    by_cases e : atOf L x = x
    · have := h.fix x hx e
      rw [this]; exact ⟨e, this⟩
    · have := ih (atOf L x) (by omega) (by omega)
      rw [h.par x hx] at this
      exact this
theorem RepI.set {L : List Nat} {r : Nat → Nat} (h : RepI L r) {v y : Nat} (hv : v < L.length) (hy : y ≤ v) (e1 : r y = r v) (e2 : y = v → r v = v) : RepI (L.set v y) r := by
  refine ⟨h.ds.set hv hy, fun x hx => ?_, fun x hx hf => ?_⟩
  · rw [List.length_set] at hx
    rw [atOf_set L v x y hv]
    split
    · rename_i e; subst e; exact e1
    · exact h.par x hx
  · rw [List.length_set] at hx
    rw [atOf_set L v x y hv] at hf
    split at hf
    · rename_i e; subst e; exact e2 hf
    · exact h.fix x hx hf
theorem RepI.half {L : List Nat} {r : Nat → Nat} (h : RepI L r) {v : Nat} (hv : v < L.length) : RepI (L.set v (atOf L (atOf L v))) r := by
  have h2 := h.ds.two hv
  refine h.set hv (by omega) ?_ (fun e => ?_)
  · rw [h.par _ (by omega), h.par v hv]
  · exact h.fix v hv (by omega)
theorem rootF_rep : ∀ (f : Nat) (L : List Nat) (v : Nat) (r : Nat → Nat), RepI L r → v < L.length → v + 1 ≤ f → RepI (rootF f L v).2 r ∧ (rootF f L v).1 = r v ∧ (rootF f L v).2.length = L.length ∧ ∀ i, i < L.length → atOf L i = r i → atOf (rootF f L v).2 i = r i
  | 0, _, _, _, _, _, h => by omega
  | f + 1, L, v, r, h, hv, hf => by
    simp only [rootF]
    by_cases e : atOf L v = v
    · rw [if_pos e]
      exact ⟨h, (h.fix v hv e).symm, rfl, fun i _ hi => hi⟩
    · rw [if_neg e]
      have h2 := h.ds.two hv
      have hl : (L.set v (atOf L (atOf L v))).length = L.length := List.length_set
      obtain ⟨h3, h4, h5, h6⟩ := rootF_rep f (L.set v (atOf L (atOf L v))) (atOf L (atOf L v)) r (h.half hv) (by rw [hl]; omega) (by omega)
      refine ⟨h3, ?_, by rw [h5, hl], fun i hi hr => h6 i (by rw [hl]; exact hi) ?_⟩
      · rw [h4, h.par _ (by omega), h.par v hv]
      · rw [atOf_set L v i _ hv]
        split
        · rename_i e2
          subst e2
          rw [hr]
          exact (h.root i hi).1
        · exact hr
/-- The representative behind a union. -/
def uniR (r : Nat → Nat) (a b x : Nat) : Nat := if r x = max a b then min a b else r x
theorem compStep_rep {L : List Nat} {r : Nat → Nat} {e : Ed} (h : RepI L r) (hu : e.u < L.length) (hv : e.v < L.length) (hs : e.st = 1) : RepI (compStep L e) (uniR r (r e.u) (r e.v)) ∧ (compStep L e).length = L.length := by
  unfold compStep
  rw [if_pos hs]
  obtain ⟨h1, h2, h3, _⟩ := rootF_rep (e.u + 1) L e.u r h hu (Nat.le_refl _)
  obtain ⟨h4, h5, h6, _⟩ := rootF_rep (e.v + 1) _ e.v r h1 (by rw [h3]; exact hv) (Nat.le_refl _)
  rw [h2, h5]
  have ru := (h.root e.u hu).2
  have rv := (h.root e.v hv).2
  have lu := h.le e.u hu
  have lv := h.le e.v hv
  generalize (rootF (e.v + 1) (rootF (e.u + 1) L e.u).2 e.v).2 = L3 at h4 h6 ⊢
  have hl3 : L3.length = L.length := by rw [h6, h3]
  generalize r e.u = a at ru lu ⊢
  generalize r e.v = b at rv lv ⊢
  have hmx : max a b < L3.length := by omega
  have rmn : r (min a b) = min a b := by
    rcases Nat.le_total a b with h | h
    · rw [Nat.min_eq_left h]; exact ru
    · rw [Nat.min_eq_right h]; exact rv
  have rmx : r (max a b) = max a b := by
    rcases Nat.le_total a b with h | h
    · rw [Nat.max_eq_right h]; exact rv
    · rw [Nat.max_eq_left h]; exact ru
  refine ⟨⟨h4.ds.set hmx (by omega), fun x hx => ?_, fun x hx hf => ?_⟩, by rw [List.length_set, hl3]⟩
  · rw [List.length_set] at hx
    rw [atOf_set L3 _ x _ hmx]
    by_cases e : x = max a b
    · rw [if_pos e, e]
      unfold uniR
      rw [rmn, rmx, if_pos rfl]
      split
      · rfl
      · rfl
    · rw [if_neg e]
      unfold uniR
      rw [h4.par x hx]
  · rw [List.length_set] at hx
    rw [atOf_set L3 _ x _ hmx] at hf
    by_cases e : x = max a b
    · rw [if_pos e] at hf
      unfold uniR
      rw [e, rmx, if_pos rfl]
      omega
    · rw [if_neg e] at hf
      have := h4.fix x hx hf
      unfold uniR
      rw [this, if_neg e]
theorem range_rep (n : Nat) : RepI (List.range n) id := ⟨range_desc n, fun x hx => by simp at hx; simp [atOf, hx], fun x _ _ => rfl⟩
theorem compE_rep {m : Mp} (hm : MapOk m) : ∀ k, k ≤ m.es.length → ∃ r, RepI (compE m k) r ∧ (compE m k).length = m.n ∧ ∀ e ∈ m.es.take k, e.st = 1 → r e.u = r e.v
  | 0, _ => by rw [compE_zero]; exact ⟨id, range_rep _, List.length_range, by simp⟩
  | k + 1, hk => by
    obtain ⟨e, he⟩ : ∃ e, m.es[k]? = some e := ⟨_, List.getElem?_eq_getElem (by omega)⟩
    obtain ⟨r, h1, h2, h3⟩ := compE_rep hm k (by omega)
    have hed := hm.ed e (List.mem_of_getElem? he)
    rw [compE_succ he, List.take_add_one, he]
    by_cases hs : e.st = 1
    · obtain ⟨h4, h5⟩ := compStep_rep h1 (e := e) (by omega) (by omega) hs
      refine ⟨_, h4, by rw [h5, h2], fun d hd hds => ?_⟩
      simp only [Option.toList, List.mem_append, List.mem_singleton] at hd
      rcases hd with hd | rfl
      · unfold uniR; rw [h3 d hd hds]
      · unfold uniR
        rcases Nat.le_total (r d.u) (r d.v) with h | h
        · rw [Nat.max_eq_right h, Nat.min_eq_left h, if_pos rfl]
          split
          · rfl
          · rfl
        · rw [Nat.max_eq_left h, Nat.min_eq_right h, if_pos rfl]
          split
          · rfl
          · rfl
    · have : compStep (compE m k) e = compE m k := by unfold compStep; rw [if_neg hs]
      rw [this]
      refine ⟨r, h1, h2, fun d hd hds => ?_⟩
      simp only [Option.toList, List.mem_append, List.mem_singleton] at hd
      rcases hd with hd | rfl
      · exact h3 d hd hds
      · exact absurd hds hs
theorem finE_rep {L : List Nat} {r : Nat → Nat} (h : RepI L r) : ∀ k, k ≤ L.length → RepI (finE L k) r ∧ (finE L k).length = L.length ∧ ∀ i, i < k → atOf (finE L k) i = r i
  | 0, _ => ⟨h, rfl, fun i hi => by omega⟩
  | k + 1, hk => by
    obtain ⟨h1, h2, h3⟩ := finE_rep h k (by omega)
    obtain ⟨h4, h5, h6, h7⟩ := rootF_rep (k + 1) (finE L k) k r h1 (by omega) (Nat.le_refl _)
    have hr := h1.root k (by omega)
    have hle := h1.le k (by omega)
    have hfs : finE L (k + 1) = ((rootF (k + 1) (finE L k) k).2).set k (r k) := by
      show finStep (finE L k) k = _
      unfold finStep
      rw [h5]
    rw [hfs]
    refine ⟨h4.set (by omega) hle hr.2 (fun e => by rw [e]), by rw [List.length_set, h6, h2], fun i hi => ?_⟩
    rw [atOf_set _ k i _ (by omega)]
    split
    · rename_i e; subst e; rfl
    · exact h7 i (by omega) (h3 i (by omega))
/-- Both ends of a proved edge are of one component. -/
theorem comp_edge {m : Mp} (hm : MapOk m) : ∀ e ∈ m.es, e.st = 1 → atOf (compF m) e.u = atOf (compF m) e.v := by
  intro e he hs
  obtain ⟨r, h1, h2, h3⟩ := compE_rep hm m.es.length (Nat.le_refl _)
  obtain ⟨_, _, h6⟩ := finE_rep h1 m.n (by omega)
  have hed := hm.ed e he
  unfold compF
  rw [h6 e.u (by omega), h6 e.v (by omega)]
  exact h3 e (by rw [List.take_length]; exact he) hs
theorem compF_len {m : Mp} (hm : MapOk m) : (compF m).length = m.n := by
  have h := compE_ok hm m.es.length (Nat.le_refl _)
  unfold compF
  rw [(finE_ok h.1 m.n (by omega)).2, h.2]
/-- A move stays in its component. -/
theorem next_comp {T : Tm} {j : Nat} {m : Mp} (hm : MapOk m) (hj : T.ms[j]? = some m) {x y : Nat} (hx : x < m.n) (hy : y ∈ nextAt (T.ms.map nextOf) j x) : y < m.n ∧ atOf (compF m) y = atOf (compF m) x := by
  have h1 : nextAt (T.ms.map nextOf) j x = (((nextOf m))[x]?).getD [] := by simp [nextAt, hj]
  rw [h1] at hy
  have h2 : ((nextOf m)[x]?).getD [] = srt (((laid m m.es.length)[x]?).getD []) := by
    unfold nextOf
    have : x < (laid m m.es.length).length := by rw [laid_len]; exact hx
    simp [this]
  rw [h2, srt_mem, mem_laid hm _ (Nat.le_refl _), List.take_length] at hy
  rcases hy with ⟨h3, rfl⟩ | ⟨e, he, hs, h3⟩
  · exact ⟨h3, rfl⟩
  · have hed := hm.ed e he
    have hc := comp_edge hm e he hs
    rcases h3 with ⟨rfl, rfl⟩ | ⟨rfl, rfl⟩
    · exact ⟨by omega, hc.symm⟩
    · exact ⟨by omega, hc⟩
end Go.Proofs.Jn
end

section
/-
  Plain law: what the joint search answers, by lists of vertices.
-/
namespace Go.Proofs.Jn

/-- The own component of an arm. -/
def csOf (T : Tm) (ps : List Nat) (i : Nat) : List Nat := match T.ms[i]? with
  | some m => (List.range m.n).filter fun v => decide (atOf (compF m) v = atOf (compF m) (atOf ps i))
  | none => []
theorem mem_csOf {T : Tm} {ps : List Nat} {i : Nat} {m : Mp} (hm : T.ms[i]? = some m) (v : Nat) : v ∈ csOf T ps i ↔ v < m.n ∧ atOf (compF m) v = atOf (compF m) (atOf ps i) := by
  unfold csOf
  rw [hm]
  simp [List.mem_filter]
theorem cs_closed {T : Tm} (hO : TeamOk T) (ps : List Nat) : Closed T.ms.length (T.ms.map nextOf) (csOf T ps) := by
  intro i hi x hx v hv
  obtain ⟨m, hm⟩ : ∃ m, T.ms[i]? = some m := ⟨_, List.getElem?_eq_getElem hi⟩
  rw [mem_csOf hm] at hx ⊢
  obtain ⟨h1, h2⟩ := next_comp (hO.mo m (List.mem_of_getElem? hm)) hm hx.1 hv
  exact ⟨h1, h2.trans hx.2⟩
theorem stOf_out (ps : List Nat) (i : Nat) (hi : ps.length ≤ i) (h4 : i < 4) : (stOf ps).get i = -1 := by
  have : natAt ps i = -1 := by simp [natAt, List.getElem?_eq_none hi]
  rw [← this]
  match i, h4 with
  | 0, _ | 1, _ | 2, _ | 3, _ => rfl
theorem stOf_inb {T : Tm} (hO : TeamOk T) {ps qs : List Nat} (hq : InR T qs) (hc : ∀ (k : Nat) (m : Mp), T.ms[k]? = some m → atOf (compF m) (atOf qs k) = atOf (compF m) (atOf ps k)) : InB (csOf T ps) T.ms.length (stOf qs) := by
  have hn := hO.n2
  refine ⟨fun i hi => ?_, fun i hi h4 => stOf_out qs i (by rw [hq.1]; exact hi) h4⟩
  obtain ⟨m, hm⟩ : ∃ m, T.ms[i]? = some m := ⟨_, List.getElem?_eq_getElem hi⟩
  exact ⟨atOf qs i, stOf_get qs i (by rw [hq.1]; exact hi) (by rw [hq.1]; exact hn), (mem_csOf hm _).2 ⟨atOf_lt hq hm, hc i m hm⟩⟩
theorem row_st (ps : List Nat) (h4 : ps.length ≤ 4) : rowOf ps.length (stOf ps) = ps := by
  rw [rowOf_eq]
  exact ⟨rfl, fun i hi => by rw [stOf_get ps i hi h4]; simp⟩
theorem st_row {cs : Nat → List Nat} {N : Nat} {t : S4} (hN : N ≤ 4) (h : InB cs N t) : stOf (rowOf N t) = t := by
  apply S4.ext_get
  intro i hi
  by_cases e : i < N
  · rw [stOf_get _ i (by rw [rowOf_len]; exact e) (by rw [rowOf_len]; exact hN)]
    obtain ⟨x, h1, _⟩ := h.1 i e
    simp [atOf, rowOf, e, h1]
  · rw [stOf_out _ i (by rw [rowOf_len]; omega) hi, h.2 i (by omega) hi]
/-- The moves of a state, as lists. -/
theorem moves_succ (T : Tm) (ps : List Nat) (hp : ps.length = T.ms.length) (h4 : ps.length ≤ 4) : (movesE T ps).2 = (succS T.ms.length (T.ms.map nextOf) (clOf T.cs) (stOf ps)).map (rowOf T.ms.length) := by
  unfold movesE succS vxs
  rw [exp_en, ← hp, row_st ps h4]
  simp only [List.nil_append]
  exact enL_enS _ _ _ _ _ _ _
/-- Where all arms can be after n ticks, as lists. -/
def LReach (T : Tm) (ps : List Nat) : Nat → List Nat → Prop
  | 0, q => q = ps
  | n + 1, q => ∃ y, LReach T ps n y ∧ q ∈ (movesE T y).2
theorem LReach.len {T : Tm} {ps : List Nat} (hp : ps.length = T.ms.length) : ∀ {n q}, LReach T ps n q → q.length = T.ms.length
  | 0, q, h => by rw [show q = ps from h]; exact hp
  | n + 1, q, ⟨y, h1, h2⟩ => by rw [moves_len q h2]; exact LReach.len hp h1
where
  moves_len {T : Tm} {ps : List Nat} : ∀ r ∈ (movesE T ps).2, r.length = ps.length := by
    intro r hr
    unfold movesE at hr
    rw [exp_en, enL_enS] at hr
    simp only [List.nil_append, List.mem_map] at hr
    obtain ⟨t, _, rfl⟩ := hr
    exact rowOf_len _ _
theorem reach_l {T : Tm} (hO : TeamOk T) {ps : List Nat} (hp : InR T ps) : ∀ {n : Nat} {t : S4}, Reach T.ms.length (T.ms.map nextOf) (clOf T.cs) (stOf ps) n t → LReach T ps n (rowOf T.ms.length t)
  | 0, t, h => by
    show rowOf T.ms.length t = ps
    rw [show t = stOf ps from h, ← hp.1]
    exact row_st ps (by rw [hp.1]; exact hO.n2)
  | n + 1, t, ⟨y, h1, h2⟩ => by
    have hin := stOf_inb hO hp (fun k m _ => rfl)
    have hy := Reach.inb hO.n2 (cs_closed hO ps) hin h1
    refine ⟨_, reach_l hO hp h1, ?_⟩
    rw [moves_succ T _ (rowOf_len _ _) (by rw [rowOf_len]; exact hO.n2), st_row hO.n2 hy]
    exact List.mem_map_of_mem h2
theorem l_reach {T : Tm} (hO : TeamOk T) {ps : List Nat} (hp : InR T ps) : ∀ {n : Nat} {q : List Nat}, LReach T ps n q → Reach T.ms.length (T.ms.map nextOf) (clOf T.cs) (stOf ps) n (stOf q)
  | 0, q, h => by show stOf q = stOf ps; rw [show q = ps from h]
  | n + 1, q, ⟨y, h1, h2⟩ => by
    have hin := stOf_inb hO hp (fun k m _ => rfl)
    have hr := l_reach hO hp h1
    have hy := Reach.inb hO.n2 (cs_closed hO ps) hin hr
    have hyl := LReach.len hp.1 h1
    refine ⟨_, hr, ?_⟩
    rw [moves_succ T y hyl (by rw [hyl]; exact hO.n2), List.mem_map] at h2
    obtain ⟨t, ht, rfl⟩ := h2
    rw [st_row hO.n2 (succS_inb hO.n2 (cs_closed hO ps) hy t ht)]
    exact ht
/-- A plan of n ticks. -/
def IsPlan (T : Tm) (ps qs : List Nat) (n : Nat) (P : Nat → List Nat) : Prop := P 0 = ps ∧ P n = qs ∧ ∀ i, i < n → P (i + 1) ∈ (movesE T (P i)).2
theorem plan_reach {T : Tm} {ps qs : List Nat} {n : Nat} {P : Nat → List Nat} (h : IsPlan T ps qs n P) : LReach T ps n qs := by
  have : ∀ i, i ≤ n → LReach T ps i (P i) := by
    intro i
    induction i with
    | zero => intro _; exact h.1
    | succ i ih => intro hi; exact ⟨_, ih (by omega), h.2.2 i (by omega)⟩
  have := this n (Nat.le_refl _)
  rw [h.2.1] at this
  exact this
/-- The rows of a plan. -/
def rowsP (N n : Nat) (P : Nat → List Nat) : List (List Nat) := (List.range N).map fun k => (List.range (n + 1)).map fun i => atOf (P i) k
/-- What the joint search answers. -/
def SolveS (T : Tm) (ps qs : List Nat) (ticks : Nat) (r : Option (List (List Nat))) : Prop := match r with
  | none => ∀ n, 1 ≤ n → n ≤ ticks → ¬ LReach T ps n qs
  | some rows => ∃ n P, 1 ≤ n ∧ n ≤ ticks ∧ rows = rowsP T.ms.length n P ∧ IsPlan T ps qs n P ∧ ∀ m, 1 ≤ m → m < n → ¬ LReach T ps m qs
theorem no_comp {T : Tm} (hO : TeamOk T) {ps qs : List Nat} (hp : InR T ps) (hq : InR T qs) {k : Nat} {m : Mp} (hm : T.ms[k]? = some m) (hne : atOf (compF m) (atOf qs k) ≠ atOf (compF m) (atOf ps k)) : ∀ n, ¬ LReach T ps n qs := by
  intro n h
  have hr := l_reach hO hp h
  have hin := stOf_inb hO hp (fun k m _ => rfl)
  have hk := (List.getElem?_eq_some_iff.1 hm).1
  obtain ⟨x, h1, h2⟩ := (Reach.inb hO.n2 (cs_closed hO ps) hin hr).1 k hk
  rw [stOf_get qs k (by rw [hq.1]; exact hk) (by rw [hq.1]; exact hO.n2)] at h1
  have : x = atOf qs k := by omega
  rw [this, mem_csOf hm] at h2
  exact hne h2.2
/-- The way back is a plan. -/
theorem back_plan {T : Tm} (hO : TeamOk T) {ps qs : List Nat} (hp : InR T ps) (hq : InR T qs) (b : List (S4 × S4)) (n : Nat) (h0 : bk b (stOf qs) n = stOf ps) (hs : ∀ j, j < n → bk b (stOf qs) j ∈ succS T.ms.length (T.ms.map nextOf) (clOf T.cs) (bk b (stOf qs) (j + 1))) :
    IsPlan T ps qs n (fun i => rowOf T.ms.length (bk b (stOf qs) (n - i))) ∧ ∀ j, j ≤ n → InB (csOf T ps) T.ms.length (bk b (stOf qs) j) := by
  have hin := stOf_inb hO hp (fun k m _ => rfl)
  have hN := hO.n2
  have hall : ∀ i, i ≤ n → InB (csOf T ps) T.ms.length (bk b (stOf qs) (n - i)) := by
    intro i
    induction i with
    | zero => intro _; rw [Nat.sub_zero, h0]; exact hin
    | succ i ih =>
      intro hi
      have h1 := ih (by omega)
      have h2 := hs (n - (i + 1)) (by omega)
      rw [show n - (i + 1) + 1 = n - i by omega] at h2
      exact succS_inb hN (cs_closed hO ps) h1 _ h2
  refine ⟨⟨?_, ?_, fun i hi => ?_⟩, fun j hj => by have := hall (n - j) (by omega); rwa [show n - (n - j) = j by omega] at this⟩
  · show rowOf T.ms.length (bk b (stOf qs) (n - 0)) = ps
    rw [Nat.sub_zero, h0, ← hp.1]
    exact row_st ps (by rw [hp.1]; exact hN)
  · show rowOf T.ms.length (bk b (stOf qs) (n - n)) = qs
    rw [Nat.sub_self]
    show rowOf T.ms.length (stOf qs) = qs
    rw [← hq.1]
    exact row_st qs (by rw [hq.1]; exact hN)
  · show rowOf T.ms.length (bk b (stOf qs) (n - (i + 1))) ∈ (movesE T (rowOf T.ms.length (bk b (stOf qs) (n - i)))).2
    rw [moves_succ T _ (rowOf_len _ _) (by rw [rowOf_len]; exact hN), st_row hN (hall i (by omega))]
    have h2 := hs (n - (i + 1)) (by omega)
    rw [show n - (i + 1) + 1 = n - i by omega] at h2
    exact List.mem_map_of_mem h2
end Go.Proofs.Jn
end

