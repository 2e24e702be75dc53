/-
  Texts put together: El Fe.
-/
import Derived.Test.YtemchlakoalhcaaZJointMoves20
import Derived.StillTailTactics
set_option linter.unusedVariables false
section
/-
  Walks: explore, its first region.
-/
namespace Go.Proofs.Jn
open Go.RowKit Go.Shelf

/-- What holds of the first region's operations that have been done. -/
structure ExJ (T : Tm) (om oc oa ob : Option Addr) (cm cc ca cb n3 : Nat) (ps qs : List Nat) (W0 : World) (L : Nat → Bool) (w : World) (v15 v16 v17 v18 v19 v20 v21 v22 v23 v24 v25 v26 v27 v28 v29 v8 : Value) (on : Option Addr) (es : List NxE) (cn gm gb gs gc ne : Nat) : Prop where
  bel : Below W0.heap.size W0 w
  f0 : L 0 = true → v15 = .agg #[.slice om T.ms.length cm, .slice oc T.cs.length cc]
  f1 : L 1 = true → v16 = .agg #[.slice on es.length cn, .map (some gm)] ∧ CrewAt w on es gm (clOf T.cs) ∧ es.map NxE.ls = T.ms.map nextOf
  f2 : L 2 = true → v17 = .slice oa ps.length ca
  f3 : L 3 = true → v18 = .agg #[.int .i64 (stOf ps).a, .int .i64 (stOf ps).b, .int .i64 (stOf ps).c, .int .i64 (stOf ps).d]
  f4 : L 4 = true → v19 = .slice ob qs.length cb
  f5 : L 5 = true → v20 = .agg #[.int .i64 (stOf qs).a, .int .i64 (stOf qs).b, .int .i64 (stOf qs).c, .int .i64 (stOf qs).d]
  f6 : L 6 = true → v21 = .map (some gb) ∧ MapIs w gb S4.v [] ∧ W0.heap.size ≤ gb
  f7 : L 7 = true → v22 = .map (some gs) ∧ MapIs w gs S4.v [] ∧ W0.heap.size ≤ gs
  f8 : L 8 = true → v23 = .pointer (some ⟨n3, 0, none⟩)
  f9 : L 9 = true → v24 = .slice om T.ms.length cm
  f10 : L 10 = true → v25 = .int .i64 (T.ms.length : Nat)
  f11 : L 11 = true → v26 = .int .i64 ((T.ms.length : Int) + 1)
  f12 : L 12 = true → v27 = .slice (some ⟨gc, 0, none⟩) (T.ms.length + 1) (T.ms.length + 1) ∧ Blk w gc (nflat (List.replicate (T.ms.length + 1) 0)) ∧ W0.heap.size ≤ gc
  f13 : L 13 = true → v28 = .agg (exL on es.length cn gm (stOf ps) (stOf qs) gb gs gc).toArray ∧ L 1 = true ∧ L 6 = true ∧ L 7 = true ∧ L 12 = true
  f14 : L 14 = true → v29 = .pointer (some ⟨ne, 0, none⟩) ∧ Blk w ne (exL on es.length cn gm (stOf ps) (stOf qs) gb gs gc) ∧ L 13 = true ∧ ne ≠ gs ∧ ne ≠ gb ∧ ne ≠ gc
  f15 : L 15 = true → v8 = .pointer (some ⟨ne, 0, none⟩) ∧ L 14 = true
  d16 : L 1 = true → L 6 = true → ¬ crewUses on es gm gb
  d17 : L 1 = true → L 7 = true → ¬ crewUses on es gm gs
  d67 : L 6 = true → L 7 = true → gs ≠ gb
  d12b : L 12 = true → L 6 = true → gc ≠ gb
  d12s : L 12 = true → L 7 = true → gc ≠ gs
  d1c : L 1 = true → L 12 = true → ¬ crewUses on es gm gc
theorem ExJ.keep {T : Tm} {om oc oa ob : Option Addr} {cm cc ca cb n3 : Nat} {ps qs : List Nat} {W0 : World} {L : Nat → Bool} {w w1 : World} {v15 v16 v17 v18 v19 v20 v21 v22 v23 v24 v25 v26 v27 v28 v29 v8 : Value} {on : Option Addr} {es : List NxE} {cn gm gb gs gc ne : Nat} (h : ExJ T om oc oa ob cm cc ca cb n3 ps qs W0 L w v15 v16 v17 v18 v19 v20 v21 v22 v23 v24 v25 v26 v27 v28 v29 v8 on es cn gm gb gs gc ne) (hb : Below w.heap.size w w1) : ExJ T om oc oa ob cm cc ca cb n3 ps qs W0 L w1 v15 v16 v17 v18 v19 v20 v21 v22 v23 v24 v25 v26 v27 v28 v29 v8 on es cn gm gb gs gc ne where
  bel := below_call h.bel hb
  f0 := h.f0
  f1 := fun e => ⟨(h.f1 e).1, (h.f1 e).2.1.keep hb, (h.f1 e).2.2⟩
  f2 := h.f2
  f3 := h.f3
  f4 := h.f4
  f5 := h.f5
  f6 := fun e => ⟨(h.f6 e).1, (h.f6 e).2.1.keep hb, (h.f6 e).2.2⟩
  f7 := fun e => ⟨(h.f7 e).1, (h.f7 e).2.1.keep hb, (h.f7 e).2.2⟩
  f8 := h.f8
  f9 := h.f9
  f10 := h.f10
  f11 := h.f11
  f12 := fun e => ⟨(h.f12 e).1, (h.f12 e).2.1.keep hb, (h.f12 e).2.2⟩
  f13 := h.f13
  f14 := fun e => ⟨(h.f14 e).1, (h.f14 e).2.1.keep hb, (h.f14 e).2.2⟩
  f15 := h.f15
  d16 := h.d16
  d17 := h.d17
  d67 := h.d67
  d12b := h.d12b
  d12s := h.d12s
  d1c := h.d1c
def exJ (T : Tm) (om oc oa ob : Option Addr) (cm cc ca cb n3 : Nat) (ps qs : List Nat) (W0 : World) (L : Nat → Bool) (a : Act) (w : World) : Prop := ∃ (v15 v16 v17 v18 v19 v20 v21 v22 v23 v24 v25 v26 v27 v28 v29 v8 : Value) (on : Option Addr) (es : List NxE) (cn gm gb gs gc ne : Nat), a = ⟨#[.agg #[.slice om T.ms.length cm, .slice oc T.cs.length cc], .slice oa ps.length ca, .slice ob qs.length cb, .pointer (some ⟨n3, 0, none⟩), undef, undef, .pointer none, .bool false, v8, undef, undef, undef, undef, undef, undef, v15, v16, v17, v18, v19, v20, v21, v22, v23, v24, v25, v26, v27, v28, v29, undef, undef, undef, undef, undef, undef, undef, undef, undef, undef, undef, undef, undef, undef, undef, undef, undef, undef, undef, undef, undef, undef, undef, undef, undef, undef, undef, undef, undef, undef, undef, undef, undef, undef, undef, undef, undef, undef, undef, undef, undef, undef, undef, undef, undef, undef, undef, undef, undef, undef, undef, undef, undef, undef, undef, undef, undef, undef, undef, undef, undef, undef, undef, undef, undef, undef, undef, undef, undef, undef, undef, undef, undef, undef, undef, undef, undef, undef, undef, undef, undef, undef], []⟩ ∧ ExJ T om oc oa ob cm cc ca cb n3 ps qs W0 L w v15 v16 v17 v18 v19 v20 v21 v22 v23 v24 v25 v26 v27 v28 v29 v8 on es cn gm gb gs gc ne
theorem run_mkmap (t : TypeId) (u : World) (h : t = 85 ∨ t = 86) : (Instr.makeMap t none).run Try.prog u = .ok (.map (some u.heap.size)) (u.alloc (.map #[] 0)) := by
  rcases h with rfl | rfl <;> rfl
theorem map_new (u : World) : MapIs (u.alloc (.map #[] 0)) u.heap.size S4.v [] := by
  unfold MapIs
  show (u.heap.push (.map #[] 0))[u.heap.size]? = _
  rw [Array.getElem?_push_size]; rfl
set_option maxRecDepth 100000 in
set_option maxHeartbeats 4000000 in
/-- What stands behind the first region. -/
structure ExA (T : Tm) (ps qs : List Nat) (W0 w : World) (on : Option Addr) (es : List NxE) (cn gm gb gs gc ne : Nat) (cnt : List Nat) : Prop where
  crew : CrewAt w on es gm (clOf T.cs)
  hes : es.map NxE.ls = T.ms.map nextOf
  x : Blk w ne (exL on es.length cn gm (stOf ps) (stOf qs) gb gs gc)
  mb : MapIs w gb S4.v []
  ms : MapIs w gs S4.v []
  c : Blk w gc (nflat cnt)
  lb : W0.heap.size ≤ gb
  ls : W0.heap.size ≤ gs
  lc : W0.heap.size ≤ gc
  cb' : ¬ crewUses on es gm gb
  cs' : ¬ crewUses on es gm gs
  sb : gs ≠ gb
  gcb : gc ≠ gb
  gcs : gc ≠ gs
  cc' : ¬ crewUses on es gm gc
  ns : ne ≠ gs
  nb : ne ≠ gb
  nc : ne ≠ gc
  bel : Below W0.heap.size W0 w
theorem ExA.keep {T : Tm} {ps qs : List Nat} {W0 w w' : World} {on : Option Addr} {es : List NxE} {cn gm gb gs gc ne : Nat} {cnt : List Nat} (h : ExA T ps qs W0 w on es cn gm gb gs gc ne cnt) (hb : Below w.heap.size w w') : ExA T ps qs W0 w' on es cn gm gb gs gc ne cnt :=
  ⟨h.crew.keep hb, h.hes, h.x.keep hb, h.mb.keep hb, h.ms.keep hb, h.c.keep hb, h.lb, h.ls, h.lc, h.cb', h.cs', h.sb, h.gcb, h.gcs, h.cc', h.ns, h.nb, h.nc, below_call h.bel hb⟩
theorem ExA.put {T : Tm} {ps qs : List Nat} {W0 w : World} {on : Option Addr} {es : List NxE} {cn gm gb gs gc ne : Nat} {cnt : List Nat} (h : ExA T ps qs W0 w on es cn gm gb gs gc ne cnt) (i x : Nat) : ExA T ps qs W0 (w.setCell ⟨gc, i, none⟩ (.int .i64 (x : Nat))) on es cn gm gb gs gc ne (cnt.set i x) := by
  have hg := grown_set w gc i (.int .i64 (x : Nat))
  refine ⟨h.crew.keepC ⟨hg.size, fun b hb => hg.block b (h.crew.lt b hb) (fun e => h.cc' (by injection e with e; exact e ▸ hb))⟩, h.hes, h.x.keepG hg h.nc, h.mb.keepG hg h.gcb.symm, h.ms.keepG hg h.gcs.symm, ?_, h.lb, h.ls, h.lc, h.cb', h.cs', h.sb, h.gcb, h.gcs, h.cc', h.ns, h.nb, h.nc, h.bel.setCell (p := ⟨gc, i, none⟩) h.lc _⟩
  rw [nflat_set]; exact h.c.put i _
/-- The counts, as far as they have been made. -/
def cntJ (T : Tm) (ps : List Nat) (j : Nat) : List Nat := (List.range (T.ms.length + 1)).map fun i => if T.ms.length ≤ i + j then prodF (csOf T ps) (T.ms.length - i) i else 0
theorem cntJ_len (T : Tm) (ps : List Nat) (j : Nat) : (cntJ T ps j).length = T.ms.length + 1 := by simp [cntJ]
theorem cntJ_get (T : Tm) (ps : List Nat) (j i : Nat) (hi : i ≤ T.ms.length) : atOf (cntJ T ps j) i = if T.ms.length ≤ i + j then prodF (csOf T ps) (T.ms.length - i) i else 0 := by
  simp [atOf, cntJ, show i < T.ms.length + 1 by omega]
theorem cntJ_zero (T : Tm) (ps : List Nat) : (List.replicate (T.ms.length + 1) 0).set T.ms.length 1 = cntJ T ps 0 := by
  apply List.ext_getElem
  · simp [cntJ]
  · intro i h1 h2
    have hi : i < T.ms.length + 1 := by simpa [cntJ] using h2
    simp only [cntJ, List.getElem_set, List.getElem_replicate, List.getElem_map, List.getElem_range]
    by_cases e : T.ms.length = i
    · subst e; simp [prodF]
    · rw [if_neg e, if_neg (by omega)]
theorem cntJ_step (T : Tm) (ps : List Nat) (j k : Nat) (hk : k + 1 + j = T.ms.length) : (cntJ T ps j).set k (atOf (cntJ T ps j) (k + 1) * (csOf T ps k).length) = cntJ T ps (j + 1) := by
  rw [cntJ_get T ps j (k + 1) (by omega), if_pos (by omega)]
  apply List.ext_getElem
  · simp [cntJ]
  · intro i h1 h2
    have hi : i < T.ms.length + 1 := by simpa [cntJ] using h2
    simp only [cntJ, List.getElem_set, List.getElem_map, List.getElem_range]
    by_cases e : k = i
    · subst e
      rw [if_pos rfl, if_pos (by omega), show T.ms.length - k = (T.ms.length - (k + 1)) + 1 by omega]
      simp only [prodF]
      rw [Nat.mul_comm]
    · rw [if_neg e]
      by_cases h : T.ms.length ≤ i + j
      · rw [if_pos h, if_pos (by omega)]
      · rw [if_neg h, if_neg (by omega)]
theorem prodF_le {cs : Nat → List Nat} {B : Nat} (h : ∀ i, (cs i).length ≤ B) : ∀ d k, prodF cs d k ≤ B ^ d
  | 0, k => by simp [prodF]
  | d + 1, k => by
    simp only [prodF]
    rw [Nat.pow_succ, Nat.mul_comm]
    exact Nat.mul_le_mul (prodF_le h d (k + 1)) (h k)
theorem count_cs {T : Tm} {ps : List Nat} {k : Nat} {m : Mp} (hm : T.ms[k]? = some m) (hM : MapOk m) : (compF m).countP (fun c => decide (c = atOf (compF m) (atOf ps k))) = (csOf T ps k).length := by
  unfold csOf
  rw [hm]
  simp only
  rw [← List.countP_eq_length_filter]
  have e : compF m = (List.range m.n).map (atOf (compF m)) := by
    apply List.ext_getElem
    · simp [compF_len hM]
    · intro i h1 h2
      simp [atOf, h1]
  generalize hf : atOf (compF m) = f at e ⊢
  rw [e, List.countP_map]
  rfl
theorem csOf_len {T : Tm} {ps : List Nat} {B : Nat} (h : ∀ m ∈ T.ms, m.n ≤ B) (i : Nat) : (csOf T ps i).length ≤ B := by
  unfold csOf
  split
  · rename_i m hm
    have := h m (List.mem_of_getElem? hm)
    have h2 := List.length_filter_le (fun v => decide (atOf (compF m) v = atOf (compF m) (atOf ps i))) (List.range m.n)
    rw [List.length_range] at h2
    omega
  · simp
theorem neq84 (t u : S4) (w : World) : (binOp .neq 84 t.v u.v).run Try.prog w = .ok (.bool (!decide (t = u))) w := by
  have := k84.eqv t u w
  unfold S4.v at this ⊢
  simp only [binOp]
  simp [go_sem, this]
/-- What explore answers. -/
def ExpR (T : Tm) (ps qs : List Nat) (w : World) (e : Ending) (W : World) : Prop := Below w.heap.size w W ∧
  ((e = .returned (.tuple #[.pointer none, .bool false]) ∧ ∃ (k : Nat) (m : Mp), T.ms[k]? = some m ∧ atOf (compF m) (atOf qs k) ≠ atOf (compF m) (atOf ps k)) ∨
   (∃ (on : Option Addr) (es : List NxE) (cn gm gb gs gc ne : Nat), e = .returned (.tuple #[.pointer (some ⟨ne, 0, none⟩), .bool true]) ∧ CrewAt W on es gm (clOf T.cs) ∧ es.map NxE.ls = T.ms.map nextOf ∧ Blk W ne (exL on es.length cn gm (stOf ps) (stOf qs) gb gs gc) ∧ MapIs W gb S4.v [] ∧
      MapIs W gs S4.v (cvals (if stOf ps = stOf qs then [] else markN (stOf ps) T.ms.length [])) ∧ Blk W gc (nflat (cntJ T ps T.ms.length)) ∧ gs ≠ gb ∧ (∀ b, (crewUses on es gm b ∨ b = ne ∨ b = gc) → b ≠ gs ∧ b ≠ gb) ∧ w.heap.size ≤ gs ∧ w.heap.size ≤ gb ∧
      ∀ (k : Nat) (m : Mp), T.ms[k]? = some m → atOf (compF m) (atOf qs k) = atOf (compF m) (atOf ps k)))

theorem up_or {L : Nat → Bool} {i k : Nat} (h : L k = true) : upL' L i k = true := by unfold upL'; rw [h, Bool.or_true]
theorem zeros_new (w : World) (n : Nat) : Blk (w.alloc (.cells (Array.replicate n (Value.int .i64 0)) 3)) w.heap.size (nflat (List.replicate n 0)) := by
  have := Blk.new w (List.replicate n (Value.int .i64 0)) 3
  simpa [nflat] using this
set_option maxRecDepth 100000 in
set_option maxHeartbeats 16000000 in
theorem explore_any (om oc oa ob : Option Addr) (cm cc ca cb : Nat) (T : Tm) (ps qs : List Nat) (w : World) (hO : TeamOk T) (hps : InR T ps) (hqs : InR T qs) (hn16 : ∀ m ∈ T.ms, m.n ≤ 16) (hT : TeamAt w om oc T) (hA : Sl w oa 1 (nvals ps)) (hB : Sl w ob 1 (nvals qs)) :
    Calls Try.prog 31 #[T.val om oc cm cc, .slice oa ps.length ca, .slice ob qs.length cb] w (ExpR T ps qs w) := by
  unfold Tm.val
  have hn1 := hO.n1
  have hn2 := hO.n2
  have hN4 : ps.length ≤ 4 := by rw [hps.1]; exact hn2
  have hN1 : 1 ≤ ps.length := by rw [hps.1]; exact hn1
  have hQ4 : qs.length ≤ 4 := by rw [hqs.1]; exact hn2
  have hQ1 : 1 ≤ qs.length := by rw [hqs.1]; exact hn1
  go_enter Try.func31, Try.ntmps31
  go_upto_region 1 with fail
  have hbx_ := blks1 w [.slice om T.ms.length cm, .slice oc T.cs.length cc] 26
  replace hT := hT.keep hbx_.2
  replace hA := hA.keep hbx_.2
  replace hB := hB.keep hbx_.2
  have HB := Lib.hid (hbx_.2)
  have hod : w.heap.size ≤ w.heap.size := by omega
  generalize w.alloc (.cells #[.slice om T.ms.length cm, .slice oc T.cs.length cc] 26) = W0 at hbx_ hT hA hB HB ⊢
  obtain ⟨r3, hbel_⟩ := hbx_
  obtain ⟨n3, hn_⟩ : ∃ n, n = w.heap.size := ⟨_, rfl⟩
  rw [← hn_] at r3 ⊢
  replace hod := Nat.le_of_eq hn_.symm
  clear hn_ hbel_
  have hA0s := hA
  have hB0s := hB
  refine wp_region_inv (by kernel_rfl) (by kernel_rfl) (exJ T om oc oa ob cm cc ca cb n3 ps qs W0) ?_ ?_ ?_
  · exact ⟨_, _, _, _, _, _, _, _, _, _, _, _, _, _, _, _, none, [], 0, 0, 0, 0, 0, 0, rfl, ⟨(Below.refl _ _).drew, nofun, nofun, nofun, nofun, nofun, nofun, nofun, nofun, nofun, nofun, nofun, nofun, nofun, nofun, nofun, nofun, nofun, nofun, nofun, nofun, nofun, nofun⟩⟩
  · intro i o ho L a w hL hd hJ
    obtain ⟨v15, v16, v17, v18, v19, v20, v21, v22, v23, v24, v25, v26, v27, v28, v29, v8, on, es, cn, gm, gb, gs, gc, ne, rfl, k⟩ := hJ
    have HK := k
    have hi : i < 16 := by have := (Array.getElem?_eq_some_iff.1 ho).1; simpa using this
    match i, hi, ho, hL with
    | 0, _, ho, hL =>
      have ho2 := ho
      simp only [List.getElem?_toArray, List.getElem?_cons_zero,  Option.some.injEq] at ho
      subst ho
      refine wpOp_step ho2 (fun K hK => ?_)
      have r3 := r3.keep k.bel
      have a0 : w.cell? ⟨n3, 0, none⟩ = some (.slice om T.ms.length cm) := r3.c 0 _ rfl
      have a1 : w.cell? ⟨n3, 1, none⟩ = some (.slice oc T.cs.length cc) := r3.c 1 _ rfl
      have l3 := r3.lt
      go_simp
      exact hK _ _ ⟨_, _, _, _, _, _, _, _, _, _, _, _, _, _, _, _, on, es, cn, gm, gb, gs, gc, ne, rfl, ⟨k.bel, fun _ => rfl, k.f1, k.f2, k.f3, k.f4, k.f5, k.f6, k.f7, k.f8, k.f9, k.f10, k.f11, k.f12, fun e => ⟨(k.f13 e).1, up_or (k.f13 e).2.1, up_or (k.f13 e).2.2.1, up_or (k.f13 e).2.2.2.1, up_or (k.f13 e).2.2.2.2⟩, fun e => ⟨(k.f14 e).1, (k.f14 e).2.1, up_or (k.f14 e).2.2.1, (k.f14 e).2.2.2⟩, fun e => ⟨(k.f15 e).1, up_or (k.f15 e).2⟩, k.d16, k.d17, k.d67, k.d12b, k.d12s, k.d1c⟩⟩
    | 1, _, ho, hL =>
      have ho2 := ho
      simp only [List.getElem?_toArray, List.getElem?_cons_zero, List.getElem?_cons_succ, Option.some.injEq] at ho
      subst ho
      refine wpOp_step ho2 (fun K hK => ?_)
      obtain rfl := k.f0 (hd ⟨0, .data⟩ (by simp) rfl)
      have hnc := newCrew_any om oc cm cc T w hO (hT.keep k.bel)
      unfold Tm.val at hnc
      go_simp
      refine hnc.mono ?_
      rintro e X ⟨es2, on2, cn2, gm2, rfl, hC, hes, hb, hlo⟩
      replace k := k.keep hb
      exact hK _ _ ⟨_, _, _, _, _, _, _, _, _, _, _, _, _, _, _, _, on2, es2, cn2, gm2, gb, gs, gc, ne, rfl, ⟨k.bel, k.f0, fun _ => ⟨rfl, hC, hes⟩, k.f2, k.f3, k.f4, k.f5, k.f6, k.f7, k.f8, k.f9, k.f10, k.f11, k.f12, fun e => (by have := (k.f13 e).2.1; rw [hL] at this; cases this), fun e => (by have := (k.f13 (k.f14 e).2.2.1).2.1; rw [hL] at this; cases this), fun e => (by have := (k.f13 (k.f14 (k.f15 e).2).2.2.1).2.1; rw [hL] at this; cases this), fun _ e hu => (by have h1 := hlo _ hu; have h2 := HK.f6 e; have := h2.2.1.lt; omega), fun _ e hu => (by have h1 := hlo _ hu; have h2 := HK.f7 e; have := h2.2.1.lt; omega), k.d67, k.d12b, k.d12s, fun _ e hu => (by have h1 := hlo _ hu; have h2 := HK.f12 e; have := h2.2.1.lt; omega)⟩⟩
    | 2, _, ho, hL =>
      have ho2 := ho
      simp only [List.getElem?_toArray, List.getElem?_cons_zero, List.getElem?_cons_succ, Option.some.injEq] at ho
      subst ho
      refine wpOp_step ho2 (fun K hK => ?_)
      go_simp
      exact hK _ _ ⟨_, _, _, _, _, _, _, _, _, _, _, _, _, _, _, _, on, es, cn, gm, gb, gs, gc, ne, rfl, ⟨k.bel, k.f0, k.f1, fun _ => rfl, k.f3, k.f4, k.f5, k.f6, k.f7, k.f8, k.f9, k.f10, k.f11, k.f12, fun e => ⟨(k.f13 e).1, up_or (k.f13 e).2.1, up_or (k.f13 e).2.2.1, up_or (k.f13 e).2.2.2.1, up_or (k.f13 e).2.2.2.2⟩, fun e => ⟨(k.f14 e).1, (k.f14 e).2.1, up_or (k.f14 e).2.2.1, (k.f14 e).2.2.2⟩, fun e => ⟨(k.f15 e).1, up_or (k.f15 e).2⟩, k.d16, k.d17, k.d67, k.d12b, k.d12s, k.d1c⟩⟩
    | 3, _, ho, hL =>
      have ho2 := ho
      simp only [List.getElem?_toArray, List.getElem?_cons_zero, List.getElem?_cons_succ, Option.some.injEq] at ho
      subst ho
      refine wpOp_step ho2 (fun K hK => ?_)
      obtain rfl := k.f2 (hd ⟨2, .data⟩ (by simp) rfl)
      have hst := stateOf_any oa ca ps w hN4 hN1 (hA.keep k.bel)
      unfold S4.v at hst
      go_simp
      refine hst.mono ?_
      rintro e X ⟨rfl, hb⟩
      replace k := k.keep hb
      exact hK _ _ ⟨_, _, _, _, _, _, _, _, _, _, _, _, _, _, _, _, on, es, cn, gm, gb, gs, gc, ne, rfl, ⟨k.bel, k.f0, k.f1, k.f2, fun _ => rfl, k.f4, k.f5, k.f6, k.f7, k.f8, k.f9, k.f10, k.f11, k.f12, fun e => ⟨(k.f13 e).1, up_or (k.f13 e).2.1, up_or (k.f13 e).2.2.1, up_or (k.f13 e).2.2.2.1, up_or (k.f13 e).2.2.2.2⟩, fun e => ⟨(k.f14 e).1, (k.f14 e).2.1, up_or (k.f14 e).2.2.1, (k.f14 e).2.2.2⟩, fun e => ⟨(k.f15 e).1, up_or (k.f15 e).2⟩, k.d16, k.d17, k.d67, k.d12b, k.d12s, k.d1c⟩⟩
    | 4, _, ho, hL =>
      have ho2 := ho
      simp only [List.getElem?_toArray, List.getElem?_cons_zero, List.getElem?_cons_succ, Option.some.injEq] at ho
      subst ho
      refine wpOp_step ho2 (fun K hK => ?_)
      go_simp
      exact hK _ _ ⟨_, _, _, _, _, _, _, _, _, _, _, _, _, _, _, _, on, es, cn, gm, gb, gs, gc, ne, rfl, ⟨k.bel, k.f0, k.f1, k.f2, k.f3, fun _ => rfl, k.f5, k.f6, k.f7, k.f8, k.f9, k.f10, k.f11, k.f12, fun e => ⟨(k.f13 e).1, up_or (k.f13 e).2.1, up_or (k.f13 e).2.2.1, up_or (k.f13 e).2.2.2.1, up_or (k.f13 e).2.2.2.2⟩, fun e => ⟨(k.f14 e).1, (k.f14 e).2.1, up_or (k.f14 e).2.2.1, (k.f14 e).2.2.2⟩, fun e => ⟨(k.f15 e).1, up_or (k.f15 e).2⟩, k.d16, k.d17, k.d67, k.d12b, k.d12s, k.d1c⟩⟩
    | 5, _, ho, hL =>
      have ho2 := ho
      simp only [List.getElem?_toArray, List.getElem?_cons_zero, List.getElem?_cons_succ, Option.some.injEq] at ho
      subst ho
      refine wpOp_step ho2 (fun K hK => ?_)
      obtain rfl := k.f4 (hd ⟨4, .data⟩ (by simp) rfl)
      have hst := stateOf_any ob cb qs w hQ4 hQ1 (hB.keep k.bel)
      unfold S4.v at hst
      go_simp
      refine hst.mono ?_
      rintro e X ⟨rfl, hb⟩
      replace k := k.keep hb
      exact hK _ _ ⟨_, _, _, _, _, _, _, _, _, _, _, _, _, _, _, _, on, es, cn, gm, gb, gs, gc, ne, rfl, ⟨k.bel, k.f0, k.f1, k.f2, k.f3, k.f4, fun _ => rfl, k.f6, k.f7, k.f8, k.f9, k.f10, k.f11, k.f12, fun e => ⟨(k.f13 e).1, up_or (k.f13 e).2.1, up_or (k.f13 e).2.2.1, up_or (k.f13 e).2.2.2.1, up_or (k.f13 e).2.2.2.2⟩, fun e => ⟨(k.f14 e).1, (k.f14 e).2.1, up_or (k.f14 e).2.2.1, (k.f14 e).2.2.2⟩, fun e => ⟨(k.f15 e).1, up_or (k.f15 e).2⟩, k.d16, k.d17, k.d67, k.d12b, k.d12s, k.d1c⟩⟩
    | 6, _, ho, hL =>
      have ho2 := ho
      simp only [List.getElem?_toArray, List.getElem?_cons_zero, List.getElem?_cons_succ, Option.some.injEq] at ho
      subst ho
      refine wpOp_step ho2 (fun K hK => ?_)
      have hmm := run_mkmap 85 w (by simp)
      go_simp
      have hal : Below w.heap.size w (w.alloc (.map #[] 0)) := (Below.refl _ _).alloc (Nat.le_refl _) _
      have hnew := map_new w
      have hsz := k.bel.size
      replace k := k.keep hal
      exact hK _ _ ⟨_, _, _, _, _, _, _, _, _, _, _, _, _, _, _, _, on, es, cn, gm, w.heap.size, gs, gc, ne, rfl, ⟨k.bel, k.f0, k.f1, k.f2, k.f3, k.f4, k.f5, fun _ => ⟨rfl, hnew, hsz⟩, k.f7, k.f8, k.f9, k.f10, k.f11, k.f12, fun e => (by have := (k.f13 e).2.2.1; rw [hL] at this; cases this), fun e => (by have := (k.f13 (k.f14 e).2.2.1).2.2.1; rw [hL] at this; cases this), fun e => (by have := (k.f13 (k.f14 (k.f15 e).2).2.2.1).2.2.1; rw [hL] at this; cases this), fun e _ hu => Nat.lt_irrefl _ ((HK.f1 e).2.1.lt _ hu), k.d17, fun _ e h => Nat.lt_irrefl _ (h ▸ (HK.f7 e).2.1.lt), fun e _ h => Nat.lt_irrefl _ (h ▸ (HK.f12 e).2.1.lt), k.d12s, k.d1c⟩⟩
    | 7, _, ho, hL =>
      have ho2 := ho
      simp only [List.getElem?_toArray, List.getElem?_cons_zero, List.getElem?_cons_succ, Option.some.injEq] at ho
      subst ho
      refine wpOp_step ho2 (fun K hK => ?_)
      have hmm := run_mkmap 86 w (by simp)
      go_simp
      have hal : Below w.heap.size w (w.alloc (.map #[] 0)) := (Below.refl _ _).alloc (Nat.le_refl _) _
      have hnew := map_new w
      have hsz := k.bel.size
      replace k := k.keep hal
      exact hK _ _ ⟨_, _, _, _, _, _, _, _, _, _, _, _, _, _, _, _, on, es, cn, gm, gb, w.heap.size, gc, ne, rfl, ⟨k.bel, k.f0, k.f1, k.f2, k.f3, k.f4, k.f5, k.f6, fun _ => ⟨rfl, hnew, hsz⟩, k.f8, k.f9, k.f10, k.f11, k.f12, fun e => (by have := (k.f13 e).2.2.2.1; rw [hL] at this; cases this), fun e => (by have := (k.f13 (k.f14 e).2.2.1).2.2.2.1; rw [hL] at this; cases this), fun e => (by have := (k.f13 (k.f14 (k.f15 e).2).2.2.1).2.2.2.1; rw [hL] at this; cases this), k.d16, fun e _ hu => Nat.lt_irrefl _ ((HK.f1 e).2.1.lt _ hu), fun e _ h => Nat.lt_irrefl _ (h ▸ (HK.f6 e).2.1.lt), k.d12b, fun e _ h => Nat.lt_irrefl _ (h ▸ (HK.f12 e).2.1.lt), k.d1c⟩⟩
    | 8, _, ho, hL =>
      have ho2 := ho
      simp only [List.getElem?_toArray, List.getElem?_cons_zero, List.getElem?_cons_succ, Option.some.injEq] at ho
      subst ho
      refine wpOp_step ho2 (fun K hK => ?_)
      go_simp
      exact hK _ _ ⟨_, _, _, _, _, _, _, _, _, _, _, _, _, _, _, _, on, es, cn, gm, gb, gs, gc, ne, rfl, ⟨k.bel, k.f0, k.f1, k.f2, k.f3, k.f4, k.f5, k.f6, k.f7, fun _ => rfl, k.f9, k.f10, k.f11, k.f12, fun e => ⟨(k.f13 e).1, up_or (k.f13 e).2.1, up_or (k.f13 e).2.2.1, up_or (k.f13 e).2.2.2.1, up_or (k.f13 e).2.2.2.2⟩, fun e => ⟨(k.f14 e).1, (k.f14 e).2.1, up_or (k.f14 e).2.2.1, (k.f14 e).2.2.2⟩, fun e => ⟨(k.f15 e).1, up_or (k.f15 e).2⟩, k.d16, k.d17, k.d67, k.d12b, k.d12s, k.d1c⟩⟩
    | 9, _, ho, hL =>
      have ho2 := ho
      simp only [List.getElem?_toArray, List.getElem?_cons_zero, List.getElem?_cons_succ, Option.some.injEq] at ho
      subst ho
      refine wpOp_step ho2 (fun K hK => ?_)
      obtain rfl := k.f8 (hd ⟨8, .data⟩ (by simp) rfl)
      have r3 := r3.keep k.bel
      have a0 : w.cell? ⟨n3, 0, none⟩ = some (.slice om T.ms.length cm) := r3.c 0 _ rfl
      have l3 := r3.lt
      go_simp
      exact hK _ _ ⟨_, _, _, _, _, _, _, _, _, _, _, _, _, _, _, _, on, es, cn, gm, gb, gs, gc, ne, rfl, ⟨k.bel, k.f0, k.f1, k.f2, k.f3, k.f4, k.f5, k.f6, k.f7, k.f8, fun _ => rfl, k.f10, k.f11, k.f12, fun e => ⟨(k.f13 e).1, up_or (k.f13 e).2.1, up_or (k.f13 e).2.2.1, up_or (k.f13 e).2.2.2.1, up_or (k.f13 e).2.2.2.2⟩, fun e => ⟨(k.f14 e).1, (k.f14 e).2.1, up_or (k.f14 e).2.2.1, (k.f14 e).2.2.2⟩, fun e => ⟨(k.f15 e).1, up_or (k.f15 e).2⟩, k.d16, k.d17, k.d67, k.d12b, k.d12s, k.d1c⟩⟩
    | 10, _, ho, hL =>
      have ho2 := ho
      simp only [List.getElem?_toArray, List.getElem?_cons_zero, List.getElem?_cons_succ, Option.some.injEq] at ho
      subst ho
      refine wpOp_step ho2 (fun K hK => ?_)
      obtain rfl := k.f9 (hd ⟨9, .data⟩ (by simp) rfl)
      go_simp
      exact hK _ _ ⟨_, _, _, _, _, _, _, _, _, _, _, _, _, _, _, _, on, es, cn, gm, gb, gs, gc, ne, rfl, ⟨k.bel, k.f0, k.f1, k.f2, k.f3, k.f4, k.f5, k.f6, k.f7, k.f8, k.f9, fun _ => rfl, k.f11, k.f12, fun e => ⟨(k.f13 e).1, up_or (k.f13 e).2.1, up_or (k.f13 e).2.2.1, up_or (k.f13 e).2.2.2.1, up_or (k.f13 e).2.2.2.2⟩, fun e => ⟨(k.f14 e).1, (k.f14 e).2.1, up_or (k.f14 e).2.2.1, (k.f14 e).2.2.2⟩, fun e => ⟨(k.f15 e).1, up_or (k.f15 e).2⟩, k.d16, k.d17, k.d67, k.d12b, k.d12s, k.d1c⟩⟩
    | 11, _, ho, hL =>
      have ho2 := ho
      simp only [List.getElem?_toArray, List.getElem?_cons_zero, List.getElem?_cons_succ, Option.some.injEq] at ho
      subst ho
      refine wpOp_step ho2 (fun K hK => ?_)
      obtain rfl := k.f10 (hd ⟨10, .data⟩ (by simp) rfl)
      have hw1 : IntKind.i64.wrap ((T.ms.length : Int) + 1) = (T.ms.length : Int) + 1 := IntWalk.i64_in _ (by omega)
      go_simp
      exact hK _ _ ⟨_, _, _, _, _, _, _, _, _, _, _, _, _, _, _, _, on, es, cn, gm, gb, gs, gc, ne, rfl, ⟨k.bel, k.f0, k.f1, k.f2, k.f3, k.f4, k.f5, k.f6, k.f7, k.f8, k.f9, k.f10, fun _ => rfl, k.f12, fun e => ⟨(k.f13 e).1, up_or (k.f13 e).2.1, up_or (k.f13 e).2.2.1, up_or (k.f13 e).2.2.2.1, up_or (k.f13 e).2.2.2.2⟩, fun e => ⟨(k.f14 e).1, (k.f14 e).2.1, up_or (k.f14 e).2.2.1, (k.f14 e).2.2.2⟩, fun e => ⟨(k.f15 e).1, up_or (k.f15 e).2⟩, k.d16, k.d17, k.d67, k.d12b, k.d12s, k.d1c⟩⟩
    | 12, _, ho, hL =>
      have ho2 := ho
      simp only [List.getElem?_toArray, List.getElem?_cons_zero, List.getElem?_cons_succ, Option.some.injEq] at ho
      subst ho
      refine wpOp_step ho2 (fun K hK => ?_)
      obtain rfl := k.f11 (hd ⟨11, .data⟩ (by simp) rfl)
      have hmk := run_make22b T.ms.length (by omega) w
      go_simp
      have hal : Below w.heap.size w (w.alloc (.cells (Array.replicate (T.ms.length + 1) (Value.int .i64 0)) 3)) := (Below.refl _ _).alloc (Nat.le_refl _) _
      have hnew := zeros_new w (T.ms.length + 1)
      have hsz := k.bel.size
      replace k := k.keep hal
      exact hK _ _ ⟨_, _, _, _, _, _, _, _, _, _, _, _, _, _, _, _, on, es, cn, gm, gb, gs, w.heap.size, ne, rfl, ⟨k.bel, k.f0, k.f1, k.f2, k.f3, k.f4, k.f5, k.f6, k.f7, k.f8, k.f9, k.f10, k.f11, fun _ => ⟨rfl, hnew, hsz⟩, fun e => (by have := (k.f13 e).2.2.2.2; rw [hL] at this; cases this), fun e => (by have := (k.f13 (k.f14 e).2.2.1).2.2.2.2; rw [hL] at this; cases this), fun e => (by have := (k.f13 (k.f14 (k.f15 e).2).2.2.1).2.2.2.2; rw [hL] at this; cases this), k.d16, k.d17, k.d67, fun _ e h => Nat.lt_irrefl _ (h ▸ (HK.f6 e).2.1.lt), fun _ e h => Nat.lt_irrefl _ (h ▸ (HK.f7 e).2.1.lt), fun e _ hu => Nat.lt_irrefl _ ((HK.f1 e).2.1.lt _ hu)⟩⟩
    | 13, _, ho, hL =>
      have ho2 := ho
      simp only [List.getElem?_toArray, List.getElem?_cons_zero, List.getElem?_cons_succ, Option.some.injEq] at ho
      subst ho
      refine wpOp_step ho2 (fun K hK => ?_)
      have g1 := hd ⟨1, .data⟩ (by simp) rfl
      have g3 := hd ⟨3, .data⟩ (by simp) rfl
      have g5 := hd ⟨5, .data⟩ (by simp) rfl
      have g6 := hd ⟨6, .data⟩ (by simp) rfl
      have g7 := hd ⟨7, .data⟩ (by simp) rfl
      have g12 := hd ⟨12, .data⟩ (by simp) rfl
      obtain ⟨rfl, hc1, hc2⟩ := k.f1 g1
      obtain rfl := k.f3 g3
      obtain rfl := k.f5 g5
      obtain ⟨rfl, hc3⟩ := k.f6 g6
      obtain ⟨rfl, hc4⟩ := k.f7 g7
      obtain ⟨rfl, hc5⟩ := k.f12 g12
      have hel := Lib.hid (show es.length = T.ms.length from by have := congrArg List.length hc2; simpa using this)
      go_simp
      exact hK _ _ ⟨_, _, _, _, _, _, _, _, _, _, _, _, _, _, _, _, on, es, cn, gm, gb, gs, gc, ne, rfl, ⟨k.bel, k.f0, k.f1, k.f2, k.f3, k.f4, k.f5, k.f6, k.f7, k.f8, k.f9, k.f10, k.f11, k.f12, fun _ => ⟨by unfold exL; rw [hel.out], up_or g1, up_or g6, up_or g7, up_or g12⟩, fun e => ⟨(k.f14 e).1, (k.f14 e).2.1, up_or (k.f14 e).2.2.1, (k.f14 e).2.2.2⟩, fun e => ⟨(k.f15 e).1, up_or (k.f15 e).2⟩, k.d16, k.d17, k.d67, k.d12b, k.d12s, k.d1c⟩⟩
    | 14, _, ho, hL =>
      have ho2 := ho
      simp only [List.getElem?_toArray, List.getElem?_cons_zero, List.getElem?_cons_succ, Option.some.injEq] at ho
      subst ho
      refine wpOp_step ho2 (fun K hK => ?_)
      have g13 := hd ⟨13, .data⟩ (by simp) rfl
      obtain ⟨rfl, g1, g6, g7, g12⟩ := k.f13 g13
      unfold exL
      go_simp
      have hal : Below w.heap.size w (w.alloc (.cells (exL on es.length cn gm (stOf ps) (stOf qs) gb gs gc).toArray 88)) := (Below.refl _ _).alloc (Nat.le_refl _) _
      have hnew := Blk.new w (exL on es.length cn gm (stOf ps) (stOf qs) gb gs gc) 88
      have n1 := (k.f7 g7).2.1.lt
      have n2 := (k.f6 g6).2.1.lt
      have n5 := (k.f12 g12).2.1.lt
      replace k := k.keep hal
      exact hK _ _ ⟨_, _, _, _, _, _, _, _, _, _, _, _, _, _, _, _, on, es, cn, gm, gb, gs, gc, w.heap.size, rfl, ⟨k.bel, k.f0, k.f1, k.f2, k.f3, k.f4, k.f5, k.f6, k.f7, k.f8, k.f9, k.f10, k.f11, k.f12, fun e => ⟨(k.f13 e).1, up_or (k.f13 e).2.1, up_or (k.f13 e).2.2.1, up_or (k.f13 e).2.2.2.1, up_or (k.f13 e).2.2.2.2⟩, fun _ => ⟨rfl, hnew, up_or g13, by omega, by omega, by omega⟩, fun e => (by have := (k.f15 e).2; rw [hL] at this; cases this), k.d16, k.d17, k.d67, k.d12b, k.d12s, k.d1c⟩⟩
    | 15, _, ho, hL =>
      have ho2 := ho
      simp only [List.getElem?_toArray, List.getElem?_cons_zero, List.getElem?_cons_succ, Option.some.injEq] at ho
      subst ho
      refine wpOp_step ho2 (fun K hK => ?_)
      have g14 := hd ⟨14, .data⟩ (by simp) rfl
      obtain ⟨rfl, g⟩ := k.f14 g14
      go_simp
      exact hK _ _ ⟨_, _, _, _, _, _, _, _, _, _, _, _, _, _, _, _, on, es, cn, gm, gb, gs, gc, ne, rfl, ⟨k.bel, k.f0, k.f1, k.f2, k.f3, k.f4, k.f5, k.f6, k.f7, k.f8, k.f9, k.f10, k.f11, k.f12, fun e => ⟨(k.f13 e).1, up_or (k.f13 e).2.1, up_or (k.f13 e).2.2.1, up_or (k.f13 e).2.2.2.1, up_or (k.f13 e).2.2.2.2⟩, fun e => ⟨(k.f14 e).1, (k.f14 e).2.1, up_or (k.f14 e).2.2.1, (k.f14 e).2.2.2⟩, fun _ => ⟨rfl, up_or g14⟩, k.d16, k.d17, k.d67, k.d12b, k.d12s, k.d1c⟩⟩
  · intro L a w hL hJ
    obtain ⟨v15, v16, v17, v18, v19, v20, v21, v22, v23, v24, v25, v26, v27, v28, v29, v8, on, es, cn, gm, gb, gs, gc, ne, rfl, k⟩ := hJ
    obtain ⟨rfl, g14⟩ := k.f15 (hL 15 (by simp))
    obtain ⟨rfl, hX, g13, hn1', hn2', hn3'⟩ := k.f14 g14
    obtain ⟨rfl, g1, g6, g7, g12⟩ := k.f13 g13
    obtain ⟨rfl, hC, hes⟩ := k.f1 g1
    obtain ⟨rfl, hM6, hl6⟩ := k.f6 g6
    obtain ⟨rfl, hM7, hl7⟩ := k.f7 g7
    obtain ⟨rfl, hM12, hl12⟩ := k.f12 g12
    have d1 := k.d16 g1 g6
    have d2 := k.d17 g1 g7
    have d3 := k.d67 g6 g7
    have d4 := k.d12b g12 g6
    have d5 := k.d12s g12 g7
    have d6 := k.d1c g1 g12
    have hbl := k.bel
    have hA0 : ExA T ps qs W0 w on es cn gm gb gs gc ne (List.replicate (T.ms.length + 1) 0) := ⟨hC, hes, hX, hM6, hM7, hM12, hl6, hl7, hl12, d1, d2, d3, d4, d5, d6, hn1', hn2', hn3', hbl⟩
    clear k hL g1 g6 g7 g12 g13 g14 hC hes hX hM6 hM7 hM12 hl6 hl7 hl12 d1 d2 d3 d4 d5 d6 hn1' hn2' hn3' hbl
    have hel : es.length = T.ms.length := by have := congrArg List.length hA0.hes; simpa using this
    have HEL := Lib.hid hel
    clear hel
    have R3 := r3.keep hA0.bel
    have a0 : w.cell? ⟨n3, 0, none⟩ = some (.slice om T.ms.length cm) := R3.c 0 _ rfl
    have l3 := R3.lt
    have x12 : w.cell? ⟨ne, 12, none⟩ = some (.slice (some ⟨gc, 0, none⟩) (T.ms.length + 1) (T.ms.length + 1)) := by have := hA0.x.c 12 _ rfl; rw [HEL.out] at this; exact this
    have lx := hA0.x.lt
    have c0 := hA0.c.c T.ms.length _ (nflat_get (by simp))
    have f0 := hA0.c.f T.ms.length
    have lc := hA0.c.lt
    have hA1 : ExA T ps qs W0 (w.setCell ⟨gc, T.ms.length, none⟩ (.int .i64 1)).drew on es cn gm gb gs gc ne (cntJ T ps 0) := by
      have := (hA0.put T.ms.length 1).keep (Below.refl _ _).drew
      rw [cntJ_zero] at this
      exact this
    clear hA0 R3
    dsimp only
    have hii : (T.ms.length : Int) < (T.ms.length : Int) + 1 := by omega
    go_upto_region 2 with fail
    go_still_tail 8, (by kernel_rfl)
    change wpList _ _ _ _ _ w.drew
    have c0d : w.drew.cell? ⟨gc, T.ms.length, none⟩ = some (.int .i64 ((atOf (List.replicate (T.ms.length + 1) 0) T.ms.length : Nat) : Int)) := c0
    have f0d : w.drew.frozen? ⟨gc, T.ms.length, none⟩ = false := f0
    have lcd : gc < w.drew.heap.size := lc
    clear a0 l3 x12 lx
    go_upto_region 3 with fail
    clear c0 f0 lc c0d f0d lcd
    generalize (w.setCell ⟨gc, T.ms.length, none⟩ (.int .i64 1)).drew = W2 at hA1 ⊢
    have R3 := r3.keep hA1.bel
    have a0 := R3.c 0 _ rfl
    have l3 := R3.lt
    have hwn : IntKind.i64.wrap ((T.ms.length : Int) - 1) = (T.ms.length : Int) - 1 := IntWalk.i64_in _ (by omega)
    clear R3
    go_wp2_with fail
    clear a0 l3
    go_loopw [9] (fun i W => ∃ j : Nat, i = .int .i64 ((T.ms.length : Int) - 1 - (j : Int)) ∧ j ≤ T.ms.length ∧ ExA T ps qs W0 W on es cn gm gb gs gc ne (cntJ T ps j) ∧ ∀ (k : Nat) (m : Mp), T.ms.length ≤ k + j → T.ms[k]? = some m → atOf (compF m) (atOf qs k) = atOf (compF m) (atOf ps k)) (fun i _ => (intOf i + 1).toNat)
    case atStart => exact ⟨0, by simp, Nat.zero_le _, hA1, fun k m hk hm => by have := (List.getElem?_eq_some_iff.1 hm).1; omega⟩
    case round =>
      clear hA1
      obtain ⟨j, rfl, hj, hA, hsame⟩ := hrel
      obtain ⟨Wa, rfl⟩ : ∃ X, X = wr := ⟨_, rfl⟩
      have HS := Lib.hid hsame
      clear hsame
      by_cases hlt : j < T.ms.length
      · obtain ⟨k, hk⟩ : ∃ k : Nat, k + 1 + j = T.ms.length := ⟨T.ms.length - 1 - j, by omega⟩
        have hi : (T.ms.length : Int) - 1 - (j : Int) = (k : Int) := by omega
        rw [hi]
        have hge : decide ((k : Int) ≥ 0) = true := decide_eq_true (by omega)
        have HKJ := Lib.hid hk
        obtain ⟨m, hm⟩ : ∃ m, T.ms[k]? = some m := ⟨_, List.getElem?_eq_getElem (by omega)⟩
        have hkN : (k : Int) < (T.ms.length : Int) := by omega
        have hkP : (k : Int) < (ps.length : Int) := by rw [hps.1]; omega
        have hkQ : (k : Int) < (qs.length : Int) := by rw [hqs.1]; omega
        obtain ⟨bm, offm, rfl, hMr⟩ := (hT.keep hA.bel).ms (map_ne (show k < T.ms.length by omega))
        have R3 := r3.keep hA.bel
        have a0 := R3.c 0 _ rfl
        have l3 := R3.lt
        have x0 : Wa.cell? ⟨bm, offm + k * 2, none⟩ = some (.slice m.op m.n m.cp) := hMr.c k _ (map_get hm) 0 _ rfl
        have x1 : Wa.cell? ⟨bm, offm + k * 2 + 1, none⟩ = some (.slice m.oe m.es.length m.ce) := hMr.c k _ (map_get hm) 1 _ rfl
        have lm := hMr.lt
        have hmo := hO.mo m (List.mem_of_getElem? hm)
        have hcomp := comp_any m Wa hmo ((hT.keep hA.bel).es m (List.mem_of_getElem? hm))
        unfold Mp.vals at hcomp
        have HC := Lib.hid hcomp
        have HMO := Lib.hid hmo
        have HM := Lib.hid hm
        have HA := Lib.hid hA
        clear hcomp hmo hm hA hk hi hlt hj R3 hMr
        go_wp2_with fail
        with_reducible refine HC.out.mono ?_
        rintro e Wb ⟨gq, rfl, hG, hGl, hb⟩
        clear a0 l3 x0 x1 lm HC
        replace HA := Lib.hid (HA.out.keep hb)
        clear hb
        have hpl := atOf_lt hps HM.out
        have hql := atOf_lt hqs HM.out
        obtain ⟨ba, offa, rfl, hAr⟩ := (hA0s.keep HA.out.bel) (nvals_ne (k := k) (by rw [hps.1]; have := HKJ.out; omega))
        obtain ⟨bb, offb, rfl, hBr⟩ := (hB0s.keep HA.out.bel) (nvals_ne (k := k) (by rw [hqs.1]; have := HKJ.out; omega))
        have y0 : Wb.cell? ⟨ba, offa + k, none⟩ = some (.int .i64 (atOf ps k : Nat)) := by have := hAr.c k _ (nvals_get (atOf_get (by rw [hps.1]; have := HKJ.out; omega))) 0 _ rfl; simpa using this
        have z0 : Wb.cell? ⟨bb, offb + k, none⟩ = some (.int .i64 (atOf qs k : Nat)) := by have := hBr.c k _ (nvals_get (atOf_get (by rw [hqs.1]; have := HKJ.out; omega))) 0 _ rfl; simpa using this
        have la := hAr.lt
        have lb := hBr.lt
        have g1 := hG.c (atOf ps k) _ (nflat_get (by rw [hGl]; exact hpl))
        have g2 := hG.c (atOf qs k) _ (nflat_get (by rw [hGl]; exact hql))
        have lg := hG.lt
        have hpi : (atOf ps k : Int) < (m.n : Int) := by omega
        have hqi : (atOf qs k : Int) < (m.n : Int) := by omega
        have hne := int_bne (atOf (compF m) (atOf qs k) : Int) (atOf (compF m) (atOf ps k) : Int)
        have HG := Lib.hid hG
        have HGL := Lib.hid hGl
        clear hG hGl hAr hBr
        by_cases hcm : atOf (compF m) (atOf qs k) = atOf (compF m) (atOf ps k)
        · rw [decide_eq_false (by omega)] at hne
          have hrest := hcm
          have HCM := Lib.hid hcm
          clear hrest hcm
          go_wp2_with fail
          clear y0 z0 la lb g1 g2 hpi hqi hne
          obtain ⟨ow, how⟩ : ∃ x, x = atOf (compF m) (atOf ps k) := ⟨_, rfl⟩
          rw [← how]
          have HOW := Lib.hid how
          clear how
          go_loopw [70, 12] (fun i s W => ∃ q : Nat, i = .int .i64 (q : Nat) ∧ q ≤ m.n ∧ s = .int .i64 ((((compF m).take q).countP fun c => decide (c = ow) : Nat) : Int) ∧ W = Wb) (fun i _ _ => m.n - (intOf i).toNat)
          case atStart => exact ⟨0, rfl, Nat.zero_le _, by simp, rfl⟩
          case round =>
            obtain ⟨q, rfl, hq, rfl, hWW⟩ := hrel
            have hWW2 := hWW.symm
            subst hWW2
            clear hWW
            by_cases hql2 : q < m.n
            · have gq0 := HG.out.c q _ (nflat_get (by rw [HGL.out]; exact hql2))
              have hqi : (q : Int) < (m.n : Int) := by omega
              have hstep : ((compF m).take (q + 1)).countP (fun c => decide (c = ow)) = ((compF m).take q).countP (fun c => decide (c = ow)) + (if atOf (compF m) q = ow then 1 else 0) := by
                rw [List.take_add_one, atOf_get (by rw [HGL.out]; exact hql2), List.countP_append]
                simp [List.countP_cons]
              have hle : ((compF m).take q).countP (fun c => decide (c = ow)) ≤ q := Nat.le_trans List.countP_le_length (by simp; omega)
              have HST := Lib.hid hstep
              have hn2 := HMO.out.n2
              generalize ((compF m).take q).countP (fun c => decide (c = ow)) = ct at HST hle ⊢
              have heq := int_beq (atOf (compF m) q : Int) (ow : Int)
              have hw1 : IntKind.i64.wrap ((ct : Int) + 1) = (ct : Int) + 1 := IntWalk.i64_in _ (by omega)
              clear hstep
              by_cases he : atOf (compF m) q = ow
              · rw [decide_eq_true (by omega)] at heq
                have hst := HST.out
                rw [if_pos he] at hst
                have HS2 := Lib.hid hst
                clear hst
                go_wp2_with fail
                go_roundw
                case rel => exact ⟨q + 1, by simp, by omega, by rw [HS2.out]; simp, trivial⟩
                case measure => simp [intOf]; omega
              · rw [decide_eq_false (by omega)] at heq
                have hst := HST.out
                rw [if_neg he] at hst
                have HS2 := Lib.hid hst
                clear hst
                go_wp2_with fail
                go_roundw
                case rel => exact ⟨q + 1, by simp, by omega, by rw [HS2.out]; simp, trivial⟩
                case measure => simp [intOf]; omega
            · have hqn : q = m.n := by omega
              have hcount := count_cs (ps := ps) HM.out HMO.out
              rw [← HOW.out] at hcount
              rw [hqn, List.take_of_length_le (by rw [HGL.out]; exact Nat.le_refl _), hcount]
              have hA := HA.out
              have x12 : Wb.cell? ⟨ne, 12, none⟩ = some (.slice (some ⟨gc, 0, none⟩) (T.ms.length + 1) (T.ms.length + 1)) := by have := hA.x.c 12 _ rfl; rw [HEL.out] at this; exact this
              have lx := hA.x.lt
              have hkj := HKJ.out
              have c0 := hA.c.c k _ (nflat_get (by rw [cntJ_len]; omega))
              have c1 := hA.c.c (k + 1) _ (nflat_get (by rw [cntJ_len]; omega))
              have f0 := hA.c.f k
              have lc := hA.c.lt
              have hput := hA.put k (atOf (cntJ T ps j) (k + 1) * (csOf T ps k).length)
              rw [cntJ_step T ps j k hkj] at hput
              have hA2 := hput.keep (Below.refl _ _).drew
              have hb1 : atOf (cntJ T ps j) (k + 1) ≤ 65536 := by
                rw [cntJ_get T ps j (k + 1) (by omega), if_pos (by omega)]
                have h1 := prodF_le (cs := csOf T ps) (csOf_len hn16) (T.ms.length - (k + 1)) (k + 1)
                have h2 : 16 ^ (T.ms.length - (k + 1)) ≤ 16 ^ 4 := Nat.pow_le_pow_right (by omega) (by omega)
                omega
              have hb2 : (csOf T ps k).length ≤ 16 := csOf_len hn16 k
              have hb3 : atOf (cntJ T ps j) (k + 1) * (csOf T ps k).length ≤ 65536 * 16 := Nat.mul_le_mul hb1 hb2
              generalize atOf (cntJ T ps j) (k + 1) = ca' at c1 hA2 hb1 hb3
              generalize (csOf T ps k).length = sz at hA2 hb2 hb3 ⊢
              have hcast : ((ca' * sz : Nat) : Int) = (ca' : Int) * (sz : Int) := by simp
              rw [hcast] at hA2
              have hw2 : IntKind.i64.wrap ((ca' : Int) * (sz : Int)) = (ca' : Int) * (sz : Int) := IntWalk.i64_in _ (by rw [← hcast]; omega)
              have hw3 : IntKind.i64.wrap ((k : Int) + 1) = (k : Int) + 1 := IntWalk.i64_in _ (by omega)
              have c1i : Wb.cell? ⟨gc, k + 1, none⟩ = some (.int .i64 (ca' : Int)) := c1
              have hk1 : ((k : Int) + 1).toNat = k + 1 := by omega
              have hki : (k : Int) < (T.ms.length : Int) + 1 := by omega
              have hki1 : (k : Int) + 1 < (T.ms.length : Int) + 1 := by omega
              have hk0 : (0 : Int) ≤ (k : Int) + 1 := by omega
              have HA2 := Lib.hid hA2
              have HQ2 : Hid (∀ (k : Nat) (m : Mp), T.ms.length ≤ k + (j + 1) → T.ms[k]? = some m → atOf (compF m) (atOf qs k) = atOf (compF m) (atOf ps k)) := Lib.hid fun k2 m2 h2 hm2 => by
                by_cases e : T.ms.length ≤ k2 + j
                · exact HS.out k2 m2 e hm2
                · have hkk : k2 = k := by omega
                  subst hkk
                  rw [HM.out] at hm2
                  injection hm2 with hm2
                  subst hm2
                  exact HCM.out
              clear hA hput hb1 hb2 hb3 hcast hA2 hcount hkj
              go_upto_region 17 with fail
              go_still_tail 16, (by kernel_rfl)
              change wpList _ _ _ _ _ Wb.drew
              have c0d : Wb.drew.cell? ⟨gc, k, none⟩ = some (.int .i64 ((atOf (cntJ T ps j) k : Nat) : Int)) := c0
              have f0d : Wb.drew.frozen? ⟨gc, k, none⟩ = false := f0
              have lcd : gc < Wb.drew.heap.size := lc
              clear x12 lx c1 c1i
              go_upto_region 5 with fail
              clear c0 f0 lc c0d f0d lcd
              generalize (Wb.setCell ⟨gc, k, none⟩ (.int .i64 ((ca' : Int) * (sz : Int)))).drew = W3 at HA2 ⊢
              have hw4 : IntKind.i64.wrap ((k : Int) - 1) = (k : Int) - 1 := IntWalk.i64_in _ (by omega)
              go_wp2_with fail
              go_roundw
              case rel => exact ⟨j + 1, by have := HKJ.out; congr 1; omega, by have := HKJ.out; omega, HA2.out, HQ2.out⟩
              case measure => simp [intOf]
        · rw [decide_eq_true (by omega)] at hne
          go_wp2
          refine bodyPost_ret (v := .tuple #[.pointer none, .bool false]) (by simp [results, Try.results31, go_sem]) rfl ?_
          exact ⟨below_call HB.out HA.out.bel, .inl ⟨rfl, k, m, HM.out, hcm⟩⟩
      · have hjN : j = T.ms.length := by omega
        subst hjN
        have hi : decide ((T.ms.length : Int) - 1 - (T.ms.length : Int) ≥ 0) = false := decide_eq_false (by omega)
        have hneq := fun X => neq84 (stOf ps) (stOf qs) X
        unfold S4.v at hneq
        have x2 : Wa.cell? ⟨ne, 2, none⟩ = some (.int .i64 (stOf ps).a) := hA.x.c 2 _ rfl
        have x3 : Wa.cell? ⟨ne, 3, none⟩ = some (.int .i64 (stOf ps).b) := hA.x.c 3 _ rfl
        have x4 : Wa.cell? ⟨ne, 4, none⟩ = some (.int .i64 (stOf ps).c) := hA.x.c 4 _ rfl
        have x5 : Wa.cell? ⟨ne, 5, none⟩ = some (.int .i64 (stOf ps).d) := hA.x.c 5 _ rfl
        have x6 : Wa.cell? ⟨ne, 6, none⟩ = some (.int .i64 (stOf qs).a) := hA.x.c 6 _ rfl
        have x7 : Wa.cell? ⟨ne, 7, none⟩ = some (.int .i64 (stOf qs).b) := hA.x.c 7 _ rfl
        have x8 : Wa.cell? ⟨ne, 8, none⟩ = some (.int .i64 (stOf qs).c) := hA.x.c 8 _ rfl
        have x9 : Wa.cell? ⟨ne, 9, none⟩ = some (.int .i64 (stOf qs).d) := hA.x.c 9 _ rfl
        have lx := hA.x.lt
        have HAE := Lib.hid hA
        clear hA
        go_upto_region 18 with fail
        go_quiet (fail)
        have HA2 := Lib.hid (HAE.out.keep (below_drew Wa nq))
        clear x2 x3 x4 x5 x6 x7 x8 x9 lx hneq HAE
        generalize Wa.drewN nq = V at HA2 ⊢
        have hsz := HB.out.size
        by_cases hst : stOf ps = stOf qs
        · rw [decide_eq_true hst]
          go_wp2
          refine bodyPost_ret (v := .tuple #[.pointer (some ⟨ne, 0, none⟩), .bool true]) (by simp [results, Try.results31, go_sem]) rfl ?_
          have h := HA2.out
          exact ⟨below_call HB.out h.bel, .inr ⟨on, es, cn, gm, gb, gs, gc, ne, rfl, h.crew, h.hes, h.x, h.mb, by rw [if_pos hst]; exact h.ms, h.c, h.sb, fun b hb => ⟨by
            rcases hb with hb | rfl | rfl
            · exact fun e => h.cs' (e ▸ hb)
            · exact h.ns
            · exact h.gcs, by
            rcases hb with hb | rfl | rfl
            · exact fun e => h.cb' (e ▸ hb)
            · exact h.nb
            · exact h.gcb⟩, Nat.le_trans hsz h.ls, Nat.le_trans hsz h.lb, fun k m hm => HS.out k m (by omega) hm⟩⟩
        · rw [decide_eq_false hst]
          have h := HA2.out
          have x2 : V.cell? ⟨ne, 2, none⟩ = some (.int .i64 (stOf ps).a) := h.x.c 2 _ rfl
          have x3 : V.cell? ⟨ne, 3, none⟩ = some (.int .i64 (stOf ps).b) := h.x.c 3 _ rfl
          have x4 : V.cell? ⟨ne, 4, none⟩ = some (.int .i64 (stOf ps).c) := h.x.c 4 _ rfl
          have x5 : V.cell? ⟨ne, 5, none⟩ = some (.int .i64 (stOf ps).d) := h.x.c 5 _ rfl
          have lx := h.x.lt
          have hmk := mark_any on es.length cn gm ne gb gs gc (stOf ps) (stOf qs) [] (stOf ps) V h.x h.ms h.ns (by rw [HEL.out]; exact hn2) (fun b => Nat.zero_le _)
          have HMK := Lib.hid hmk
          clear h hmk
          go_wp2_with fail
          refine HMK.out.mono ?_
          rintro e X ⟨rfl, hM, hg⟩
          clear x2 x3 x4 x5 lx HMK
          have h := HA2.out
          have hM2 := Lib.hid hM
          have HG2 := Lib.hid hg
          clear hM hg
          rw [HEL.out] at hM2
          go_wp2
          refine bodyPost_ret (v := .tuple #[.pointer (some ⟨ne, 0, none⟩), .bool true]) (by simp [results, Try.results31, go_sem]) rfl ?_
          have hfr := grown_fresh (below_call HB.out h.bel) HG2.out (Nat.le_trans hsz h.ls)
          exact ⟨hfr, .inr ⟨on, es, cn, gm, gb, gs, gc, ne, rfl, h.crew.keepC ⟨HG2.out.size, fun b hb => HG2.out.block b (h.crew.lt b hb) (fun e => h.cs' (by injection e with e; exact e ▸ hb))⟩, h.hes, h.x.keepG HG2.out h.ns, h.mb.keepG HG2.out h.sb.symm, by rw [if_neg hst]; exact hM2.out, h.c.keepG HG2.out h.gcs, h.sb, fun b hb => ⟨by
            rcases hb with hb | rfl | rfl
            · exact fun e => h.cs' (e ▸ hb)
            · exact h.ns
            · exact h.gcs, by
            rcases hb with hb | rfl | rfl
            · exact fun e => h.cb' (e ▸ hb)
            · exact h.nb
            · exact h.gcb⟩, Nat.le_trans hsz h.ls, Nat.le_trans hsz h.lb, fun k m hm => HS.out k m (by omega) hm⟩⟩
end Go.Proofs.Jn
end

section
/-
  Plain law: what the layers tell about plans; the rows of a plan as they lie.
-/
namespace Go.Proofs.Jn
open Go.RowKit

theorem Lay.any {N : Nat} {nx : List (List (List Nat))} {l : List ((Mv × Mv) × Value)} {cs : Nat → List Nat} {start goal : S4} {n : Nat} {layer : List S4} {s : Ex} {V : List S4} (h : Lay N nx l cs start goal n layer s V) (x : List S4) : Lay N nx l cs start goal n layer ⟨s.seen, s.bef, x⟩ V :=
  ⟨h.inv.any _ _, h.inb, h.sub, h.path, h.ng, h.reach, h.clo⟩
theorem rowsP_len {N n : Nat} {P : Nat → List Nat} : ∀ r ∈ rowsP N n P, r.length = n + 1 := by
  intro r hr
  unfold rowsP at hr
  obtain ⟨k, _, rfl⟩ := List.mem_map.1 hr
  simp
section
variable {T : Tm} {ps qs : List Nat} {n tk : Nat} {layer : List S4} {s : Ex} {V : List S4}
theorem solve_none (hO : TeamOk T) (hp : InR T ps) (h : Lay T.ms.length (T.ms.map nextOf) (clOf T.cs) (csOf T ps) (stOf ps) (stOf qs) n layer s V) (he : n = tk ∨ layer = []) : SolveS T ps qs tk none := by
  intro m h1 h2 hr
  have hR := l_reach hO hp hr
  rcases he with rfl | rfl
  · exact h.ng (h.reach m h1 h2 _ hR)
  · exact h.ng (h.done m h1 _ hR)
theorem solve_found (hO : TeamOk T) (hp : InR T ps) (hq : InR T qs) (h : Lay T.ms.length (T.ms.map nextOf) (clOf T.cs) (csOf T ps) (stOf ps) (stOf qs) n layer s V) {q : Bool × Ex} {new : List S4} (g : TickS layer s V q new T.ms.length (T.ms.map nextOf) (clOf T.cs) (csOf T ps) (stOf qs)) (hy : q.1 = true) (hn : n + 1 ≤ tk) :
    ∃ rows, SolveS T ps qs tk (some rows) ∧ rows.length = T.ms.length ∧ (∀ r ∈ rows, r.length = n + 1 + 1) ∧ rowsJ q.2.bef (stOf qs) T.ms.length (n + 1) (n + 1 + 1) 0 = rows.map (fun r => r.map fun (x : Nat) => (x : Int)) := by
  obtain ⟨p1, p2⟩ := h.path2 g (stOf qs) (g.yes hy)
  obtain ⟨hP, hin⟩ := back_plan hO hp hq q.2.bef (n + 1) p1 (fun j hj => (p2 j hj).2)
  refine ⟨_, ⟨n + 1, _, by omega, hn, rfl, hP, fun m h1 h2 hr => h.ng (h.reach m h1 (by omega) _ (l_reach hO hp hr))⟩, by simp [rowsP], rowsP_len, ?_⟩
  unfold rowsJ rowsP
  rw [List.map_map]
  apply List.map_congr_left
  intro k hk
  have hk := List.mem_range.1 hk
  unfold rowJ
  simp only [Function.comp, List.map_map]
  apply List.map_congr_left
  intro i hi
  have hi := List.mem_range.1 hi
  rw [if_pos (by left; omega)]
  obtain ⟨x, h1, _⟩ := (hin (n + 1 - i) (by omega)).1 k hk
  simp only [Function.comp, h1, atOf, rowOf]
  simp [hk, h1]
end
theorem plw_ll {W : World} {gp M : Nat} {gk : List Nat} {rows : List (List Nat)} (h : PlW W gp M gk 0 (rows.map fun r => r.map fun (x : Nat) => (x : Int))) (hM : ∀ r ∈ rows, r.length = M) : LL W (some ⟨gp, 0, none⟩) rows := by
  have hlen : gk.length = rows.length := by have := h.len; simpa using this
  refine ⟨gk.map (slv M), ?_, by simp [hlen], fun i v l hv hl => ?_⟩
  · intro _
    refine ⟨gp, 0, rfl, h.p.lt, fun i r hi k v hv => ?_⟩
    simp only [List.getElem?_map, Option.map_eq_some_iff] at hi
    obtain ⟨v', ⟨g, hg, rfl⟩, rfl⟩ := hi
    have hk : k = 0 := by
      rcases Nat.eq_zero_or_pos k with h | h
      · exact h
      · rw [List.getElem?_eq_none (by simp; omega)] at hv; cases hv
    subst hk
    simp at hv
    subst hv
    have hgl := (List.getElem?_eq_some_iff.1 hg).1
    have := h.p.c i (slv M g) (by rw [List.getElem?_append_left (by simpa using hgl)]; simp [hg])
    simpa using this
  · simp only [List.getElem?_map, Option.map_eq_some_iff] at hv
    obtain ⟨g, hg, rfl⟩ := hv
    have hb := h.r i g (l.map fun (x : Nat) => (x : Int)) hg (by simp [hl])
    have hlm := hM l (List.mem_of_getElem? hl)
    refine ⟨some ⟨g, 0, none⟩, M, by rw [hlm]; rfl, fun _ => ⟨g, 0, rfl, hb.lt, fun j r hj k u hu => ?_⟩⟩
    simp only [nvals, List.getElem?_map, Option.map_eq_some_iff] at hj
    obtain ⟨x, hx, rfl⟩ := hj
    have hk : k = 0 := by
      rcases Nat.eq_zero_or_pos k with h | h
      · exact h
      · rw [List.getElem?_eq_none (by simp; omega)] at hu; cases hu
    subst hk
    simp at hu
    subst hu
    have := hb.c j (.int .i64 (x : Nat)) (by simp [pflat, hx])
    simpa using this
theorem new_len {N : Nat} {nx : List (List (List Nat))} {l : List ((Mv × Mv) × Value)} {cs : Nat → List Nat} {goal : S4} {layer V new : List S4} {s : Ex} {q : Bool × Ex} (g : TickS layer s V q new N nx l cs goal) (hN : N ≤ 4) : new.length ≤ prodF cs N 0 ∧ V.length ≤ prodF cs N 0 := by
  have := g.inv.low hN
  simp at this
  omega
end Go.Proofs.Jn
end

