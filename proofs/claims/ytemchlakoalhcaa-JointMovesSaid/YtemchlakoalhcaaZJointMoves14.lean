/-
  Texts put together: Db Dc Dd De.
-/
import Derived.Test.YtemchlakoalhcaaZJointMoves13
import Derived.Test.YtemchlakoalhcaaZJointMoves10
import Derived.Laws.CopyOwn
import Derived.Test.YtemchlakoalhcaaZJointMoves12
set_option linter.unusedVariables false
section
/-
  Walks: nowhere, stateOf.
-/
namespace Go.Am
def okN (r : Option (Value × Hp × List Nat)) : Bool := match r with
  | some (.agg ⟨[.int .i64 x, .int .i64 y, .int .i64 z, .int .i64 u]⟩, _, _) => x == -1 && y == -1 && z == -1 && u == -1
  | _ => false
theorem okN_some {r : Option (Value × Hp × List Nat)} (h : okN r = true) : ∃ H' md, r = some (.agg #[.int .i64 (-1), .int .i64 (-1), .int .i64 (-1), .int .i64 (-1)], H', md) := by
  unfold okN at h
  split at h
  · rename_i x y z u H' md
    simp only [Bool.and_eq_true, beq_iff_eq] at h
    obtain ⟨⟨⟨rfl, rfl⟩, rfl⟩, rfl⟩ := h
    exact ⟨H', md, rfl⟩
  · cases h
end Go.Am
namespace Go.Proofs.Jn
open Go.RowKit
def s4n : S4 := ⟨-1, -1, -1, -1⟩
theorem nowhere_ok : Go.Am.okN (Go.Am.fcall Try.prog Try.xt Try.esc 400 24 49 [] []) = true := by kernel_rfl
theorem nowhere_any (w : World) : Calls Try.prog 49 #[] w fun e w' => e = .returned s4n.v ∧ Below w.heap.size w w' := by
  obtain ⟨H', md, hc⟩ := Go.Am.okN_some nowhere_ok
  refine (Go.Am.fcall_calls Try.mixed Try.named Try.xt_good Try.defs_good hc rfl w).mono ?_
  rintro e w' ⟨h1, h2, h3, h4, h5, h6⟩
  exact ⟨h1, h2, h3, h4, h5, h6⟩
theorem info84 : (Try.prog.info? 84).map (fun i => (i.zero, i.size, i.bytes)) = some (some (.agg #[.int .i64 0, .int .i64 0, .int .i64 0, .int .i64 0]), 4, 32) := by kernel_rfl

/-- The state with these vertices. -/
def natAt (ps : List Nat) (k : Nat) : Int := match ps[k]? with
  | some p => p
  | none => -1
def stOf (ps : List Nat) : S4 := ⟨natAt ps 0, natAt ps 1, natAt ps 2, natAt ps 3⟩
theorem nat_cells (ps : List Nat) (hl : ps.length ≤ 4) (i : Nat) (hi : i < 4) : ((#[Value.int .i64 (-1), .int .i64 (-1), .int .i64 (-1), .int .i64 (-1)] : Array Value).toList.take 0 ++ ((ps.map fun p => Value.int .i64 (p : Nat)) ++ (#[Value.int .i64 (-1), .int .i64 (-1), .int .i64 (-1), .int .i64 (-1)] : Array Value).toList.drop (0 + (ps.map fun p => Value.int .i64 (p : Nat)).length))).toArray[i]? = some (.int .i64 (natAt ps i)) := by
  match ps, hl with
  | [], _ => match i, hi with
    | 0, _ | 1, _ | 2, _ | 3, _ => rfl
  | [a], _ => match i, hi with
    | 0, _ | 1, _ | 2, _ | 3, _ => rfl
  | [a, b], _ => match i, hi with
    | 0, _ | 1, _ | 2, _ | 3, _ => rfl
  | [a, b, c], _ => match i, hi with
    | 0, _ | 1, _ | 2, _ | 3, _ => rfl
  | [a, b, c, d], _ => match i, hi with
    | 0, _ | 1, _ | 2, _ | 3, _ => rfl
theorem wpList_copy4 {ops : Array Oper} {rest : List Oper} {o : Oper} {a : Act} {w : World} {Q : Exit → Act → World → Prop} (hgd : o.guard = none) (d s : Operand) (ho : o.op = .call { callee := .builtin .copy, args := #[d, s], argTypes := #[22, 22] })
    (g b off ca : Nat) (ps : List Nat) (hl : ps.length ≤ 4) (hd : a.eval d = .slice (some ⟨g, 0, none⟩) 4 4) (hs : a.eval s = .slice (some ⟨b, off, none⟩) ps.length ca) (hg : w.heap[g]? = some (.cells #[.int .i64 (-1), .int .i64 (-1), .int .i64 (-1), .int .i64 (-1)] 84))
    (hA : RowsAt w b off 1 (nvals ps)) (h : ∀ X, (∀ i, i < 4 → X.cell? ⟨g, i, none⟩ = some (.int .i64 (natAt ps i))) → w.grownBy X (some g) → wpList Try.prog ops Q rest (a.put o.dst (.int .i64 ps.length)) X) : wpList Try.prog ops Q (o :: rest) a w := by
  refine wpList_copy_own hgd d s 22 22 ho 3 under22 (by kernel_rfl) g 0 4 4 ⟨b, off, none⟩ ps.length ca hd hs _ _ hg (ps.map fun p => Value.int .i64 (p : Nat)) ?_ ?_ ?_ ?_ ?_
  · rw [List.length_map]; exact (Nat.min_eq_left hl).symm
  · intro j v hv
    simp at hv
    obtain ⟨p, hp, rfl⟩ := hv
    have := hA.c j _ (nvals_get hp) 0 _ rfl
    rw [← this]
    congr 1
    unfold Addr.add
    split <;> simp_all
  · simp; omega
  · intro v hv; simp at hv; obtain ⟨p, _, rfl⟩ := hv; rfl
  · rw [List.length_map]
    refine h _ (fun i hi => ?_) ⟨rfl, rfl, rfl, by simp, fun k _ hn => setRow_other w g k _ (fun e => hn (by rw [e]))⟩
    rw [cell_setRow_same w g i _ _ _ _ hg]
    have := nat_cells ps hl i hi
    rw [List.length_map] at this
    exact this
set_option maxRecDepth 100000 in
set_option maxHeartbeats 4000000 in
theorem stateOf_any (oa : Option Addr) (ca : Nat) (ps : List Nat) (w : World) (hl : ps.length ≤ 4) (hpos : 0 < ps.length) (hA : Sl w oa 1 (nvals ps)) :
    Calls Try.prog 48 #[.slice oa ps.length ca] w fun e w' => e = .returned (stOf ps).v ∧ Below w.heap.size w w' := by
  go_enter Try.func48, Try.ntmps48
  go_wp2_with fail
  have hb0 : Below w.heap.size w (w.alloc (.cells #[.int .i64 0, .int .i64 0, .int .i64 0, .int .i64 0] 84)) := (Below.refl _ _).alloc (Nat.le_refl _) _
  have r2 := Blk.new w [.int .i64 0, .int .i64 0, .int .i64 0, .int .i64 0] 84
  replace hA := hA.keep hb0
  generalize w.alloc (.cells #[.int .i64 0, .int .i64 0, .int .i64 0, .int .i64 0] 84) = W0 at hb0 r2 hA ⊢
  have hge : w.heap.size ≤ w.heap.size := Nat.le_refl _
  generalize hn2 : w.heap.size = n2 at r2 ⊢
  have HN2 := Lib.hid hn2
  refine (nowhere_any W0).mono ?_
  rintro e W1 ⟨rfl, hb⟩
  unfold S4.v s4n
  replace r2 := r2.keep hb
  replace hA := hA.keep hb
  replace hb0 := below_call hb0 hb
  clear hb hn2
  have hb1 : Below W1.heap.size W1 (W1.alloc (.cells #[.int .i64 (-1), .int .i64 (-1), .int .i64 (-1), .int .i64 (-1)] 84)) := (Below.refl _ _).alloc (Nat.le_refl _) _
  go_upto_region 2 with fail
  have hblk : (W1.alloc (.cells #[.int .i64 (-1), .int .i64 (-1), .int .i64 (-1), .int .i64 (-1)] 84)).heap[W1.heap.size]? = some (.cells #[.int .i64 (-1), .int .i64 (-1), .int .i64 (-1), .int .i64 (-1)] 84) := Array.getElem?_push_size
  have hl2 := r2.lt
  replace r2 := r2.keep hb1
  replace hA := hA.keep hb1
  have HB := Lib.hid (below_call hb0 hb1)
  have hge : w.heap.size ≤ W1.heap.size := hb0.size
  clear hb1 hb0
  generalize W1.alloc (.cells #[.int .i64 (-1), .int .i64 (-1), .int .i64 (-1), .int .i64 (-1)] 84) = W2 at hblk r2 hA HB ⊢
  generalize W1.heap.size = n3 at hblk hge hl2 ⊢
  obtain ⟨b, off, rfl, hAr⟩ := hA (nvals_ne hpos)
  have HAr := Lib.hid hAr
  clear hA hAr
  go_wp2_with (refine wpList_copy4 rfl _ _ rfl n3 b off ca ps hl rfl rfl hblk HAr.out ?_)
  intro X hcell hgr
  replace r2 : Blk X n2 _ := r2.keepG hgr (by omega)
  replace HB := Lib.hid (show Below w.heap.size w X from grown_fresh HB.out hgr (by omega))
  clear hblk hgr
  have x0 := hcell 0 (by omega)
  have x1 := hcell 1 (by omega)
  have x2 := hcell 2 (by omega)
  have x3 := hcell 3 (by omega)
  clear hcell
  have c0 := r2.c 0 _ rfl
  have c1 := r2.c 1 _ rfl
  have c2 := r2.c 2 _ rfl
  have c3 := r2.c 3 _ rfl
  have f0 := r2.f 0
  have f1 := r2.f 1
  have f2 := r2.f 2
  have f3 := r2.f 3
  have l2 := r2.lt
  go_wp2_with fail
  have r9 := (((r2.put 0 (.int .i64 (natAt ps 0))).put 1 (.int .i64 (natAt ps 1))).put 2 (.int .i64 (natAt ps 2))).put 3 (.int .i64 (natAt ps 3))
  have hn2 : w.heap.size ≤ n2 := Nat.le_of_eq HN2.out
  refine bodyPost_ret (v := (stOf ps).v) (by simp [results, Try.results48, go_sem, r9.c 0 _ rfl, r9.c 1 _ rfl, r9.c 2 _ rfl, r9.c 3 _ rfl, S4.v, stOf]) rfl ⟨rfl, (((HB.out.setCell (p := ⟨n2, 0, none⟩) hn2 _).setCell (p := ⟨n2, 1, none⟩) hn2 _).setCell (p := ⟨n2, 2, none⟩) hn2 _).setCell (p := ⟨n2, 3, none⟩) hn2 _⟩
end Go.Proofs.Jn
end

section
/-
  Walks: free.
-/
namespace Go.Proofs.Jn
open Go.RowKit

def S4.l (s : S4) : List Value := [.int .i64 s.a, .int .i64 s.b, .int .i64 s.c, .int .i64 s.d]
def S4.get (s : S4) : Nat → Int
  | 0 => s.a
  | 1 => s.b
  | 2 => s.c
  | _ => s.d
theorem S4.l_get (s : S4) (k : Nat) (h : k < 4) : s.l[k]? = some (.int .i64 (s.get k)) := by
  match k, h with
  | 0, _ | 1, _ | 2, _ | 3, _ => rfl
def S4.set (s : S4) (k : Nat) (v : Int) : S4 := match k with
  | 0 => { s with a := v }
  | 1 => { s with b := v }
  | 2 => { s with c := v }
  | _ => { s with d := v }
theorem S4.l_set (s : S4) (k : Nat) (v : Int) (h : k < 4) : (s.set k v).l = s.l.set k (.int .i64 v) := by
  match k, h with
  | 0, _ | 1, _ | 2, _ | 3, _ => rfl
theorem S4.get_set (s : S4) (k j : Nat) (v : Int) (h : k < 4) (hj : j < 4) : (s.set k v).get j = if j = k then v else s.get j := by
  match k, h with
  | 0, _ | 1, _ | 2, _ | 3, _ =>
    match j, hj with
    | 0, _ | 1, _ | 2, _ | 3, _ => rfl

/-- No move of an arm ahead of arm k clashes with that of arm k. -/
def freeB (l : List ((Mv × Mv) × Value)) (xs ys : Nat → Nat) (k : Nat) : Bool := (List.range k).all fun i => (findL l (⟨i, xs i, ys i⟩, ⟨k, xs k, ys k⟩) 0).isNone
theorem findL_val {α : Type} [DecidableEq α] {l : List (α × Value)} {a : α} (hv : ∀ e ∈ l, e.2 = .bool true) : ((findL l a 0).map (·.2)).getD (.bool false) = .bool (findL l a 0).isSome := by
  cases h : findL l a 0 with
  | none => rfl
  | some x =>
    obtain ⟨i, v⟩ := x
    have := (findL_lt h).2
    have h2 := hv _ (List.mem_of_getElem? this)
    simp at h2
    simp [h2]

set_option maxRecDepth 100000 in
set_option maxHeartbeats 4000000 in
theorem free_any (on : Option Addr) (N cn g : Nat) (l : List ((Mv × Mv) × Value)) (s t : S4) (k : Nat) (xs ys : Nat → Nat) (w : World) (hk : k < 4) (hx : ∀ i, i ≤ k → s.get i = (xs i : Nat)) (hy : ∀ i, i ≤ k → t.get i = (ys i : Nat)) (hm : MapIs w g enc2 l) (hv : ∀ e ∈ l, e.2 = .bool true) :
    Calls Try.prog 64 #[.agg #[.slice on N cn, .map (some g)], s.v, t.v, .int .i64 (k : Nat)] w (BoolP (freeB l xs ys k) w) := by
  unfold S4.v
  have hz : ∀ X : World, (zeroValue 4).run Try.prog X = .ok (.bool false) X := fun X => by kernel_rfl
  go_enter Try.func64, Try.ntmps64
  go_upto_region 1 with fail
  have hbx_ := boxes3 w [.slice on N cn, .map (some g)] [.int .i64 s.a, .int .i64 s.b, .int .i64 s.c, .int .i64 s.d] [.int .i64 t.a, .int .i64 t.b, .int .i64 t.c, .int .i64 t.d] 82 84 84
  replace hm := hm.keep hbx_.2.2.2
  have HB := Lib.hid (hbx_.2.2.2)
  generalize ((w.alloc (.cells #[.slice on N cn, .map (some g)] 82)).alloc (.cells #[.int .i64 s.a, .int .i64 s.b, .int .i64 s.c, .int .i64 s.d] 84)).alloc (.cells #[.int .i64 t.a, .int .i64 t.b, .int .i64 t.c, .int .i64 t.d] 84) = W0 at hbx_ hm HB ⊢
  obtain ⟨r4, r5, r6, hbel_⟩ := hbx_
  generalize w.heap.size + 1 + 1 = n6 at r6  ⊢
  generalize w.heap.size + 1 = n5 at r5  ⊢
  obtain ⟨n4, hn_⟩ : ∃ n, n = w.heap.size := ⟨_, rfl⟩
  rw [← hn_] at r4 ⊢
  clear hn_ hbel_
  have a0 : W0.cell? ⟨n4, 0, none⟩ = some (.slice on N cn) := r4.c 0 _ rfl
  have a1 : W0.cell? ⟨n4, 1, none⟩ = some (.map (some g)) := r4.c 1 _ rfl
  have l4 := r4.lt
  have hlen := run_lenM (kt := 130) (ty := 3) Try.underlying80 W0 g l hm
  by_cases hl : l.length = 0
  · have hl0 : l = [] := List.length_eq_zero_iff.1 hl
    subst hl0
    go_wp2_with fail
    go_ret
    exact boolP_mk (by simp [freeB, findL]) HB.out
  · have hl1 : ((l.length : Int) == 0) = false := nat_bne (b := 0) hl
    go_upto_region 3 with fail
    clear hlen hl hl1
    have y0 : W0.cell? ⟨n5, k, none⟩ = some (.int .i64 (xs k : Nat)) := by rw [← hx k (Nat.le_refl _)]; exact r5.c k _ (s.l_get k hk)
    have y1 : W0.cell? ⟨n6, k, none⟩ = some (.int .i64 (ys k : Nat)) := by rw [← hy k (Nat.le_refl _)]; exact r6.c k _ (t.l_get k hk)
    have l5 := r5.lt
    have l6 := r6.lt
    have hk4 : (k : Int) < 4 := by omega
    go_cut [9] (fun s9 X => ∃ n9 : Nat, s9 = .pointer (some ⟨n9, 0, none⟩) ∧ Row X n9 [.int .i64 (k : Nat), .int .i64 (xs k : Nat), .int .i64 (ys k : Nat)] ∧ Below W0.heap.size W0 X)
    case first =>
      go_region_held3 (fun X => X.cell? ⟨n5, k, none⟩ = some (.int .i64 (xs k : Nat)) ∧ X.cell? ⟨n6, k, none⟩ = some (.int .i64 (ys k : Nat)))
        (first
          | exact ⟨y0, y1⟩
          | simp [y0, y1, l5, l6, World.cell?_alloc_lt])
        (fail)
      all_goals go_wp2_with fail
      all_goals go_meet
      all_goals exact ⟨_, rfl, (Row.new W0 [.int .i64 (k : Nat), .int .i64 (xs k : Nat), .int .i64 (ys k : Nat)] 65).keep (Below.refl _ _).drew, ((Below.refl _ _).alloc (Nat.le_refl _) _).drew⟩
    case rest =>
      obtain ⟨n9, rfl, r9, hb⟩ := hcut
      replace r4 := r4.keep hb
      replace r5 := r5.keep hb
      replace r6 := r6.keep hb
      replace hm := hm.keep hb
      replace HB := Lib.hid (below_call HB.out hb)
      clear y0 y1 l5 l6 a0 a1 l4 hb
      obtain ⟨V0, rfl⟩ : ∃ X, X = wc := ⟨_, rfl⟩
      go_wp2_with fail
      go_loopw [24, 10] (fun i _ X => ∃ j : Nat, j ≤ k ∧ i = .int .i64 (j : Nat) ∧ Below V0.heap.size V0 X ∧ ((List.range j).all fun i => (findL l (⟨i, xs i, ys i⟩, ⟨k, xs k, ys k⟩) 0).isNone) = true) (fun i _ _ => k - (intOf i).toNat)
      case atStart => exact ⟨0, by omega, rfl, Below.refl _ _, by simp⟩
      case round =>
        obtain ⟨j, hj, rfl, hW, hF⟩ := hrel
        have R4 := r4.keep hW
        have R5 := r5.keep hW
        have R6 := r6.keep hW
        have R9 := r9.keep hW
        have HM := hm.keep hW
        have HF := Lib.hid hF
        clear hF
        by_cases hlt : j < k
        · have a1 : wr.cell? ⟨n4, 1, none⟩ = some (.map (some g)) := R4.c 1 _ rfl
          have y0 : wr.cell? ⟨n5, j, none⟩ = some (.int .i64 (xs j : Nat)) := by rw [← hx j hj]; exact R5.c j _ (s.l_get j (by omega))
          have y1 : wr.cell? ⟨n6, j, none⟩ = some (.int .i64 (ys j : Nat)) := by rw [← hy j hj]; exact R6.c j _ (t.l_get j (by omega))
          have l4 := R4.lt
          have l5 := R5.lt
          have l6 := R6.lt
          have b0 : wr.cell? ⟨n9, 0, none⟩ = some (.int .i64 (k : Nat)) := R9.c 0 _ rfl
          have b1 : wr.cell? ⟨n9, 1, none⟩ = some (.int .i64 (xs k : Nat)) := R9.c 1 _ rfl
          have b2 : wr.cell? ⟨n9, 2, none⟩ = some (.int .i64 (ys k : Nat)) := R9.c 2 _ rfl
          have l9 := R9.lt
          have hlk : ∀ n, (Instr.lookup 80 (.map (some g)) (.agg #[.int .i64 (j : Nat), .int .i64 (xs j : Nat), .int .i64 (ys j : Nat), .int .i64 (k : Nat), .int .i64 (xs k : Nat), .int .i64 (ys k : Nat)]) false).run Try.prog (wr.drewN n) = .ok (.bool (findL l (⟨j, xs j, ys j⟩, ⟨k, xs k, ys k⟩) 0).isSome) (wr.drewN n) := fun n => by
            have := run_lookup k130 Try.underlying80 (wr.drewN n) g l (⟨j, xs j, ys j⟩, ⟨k, xs k, ys k⟩) (hz _) (HM.keep (below_drew wr n))
            rw [findL_val hv] at this
            exact this
          have hstep : ((List.range (j + 1)).all fun i => (findL l (⟨i, xs i, ys i⟩, ⟨k, xs k, ys k⟩) 0).isNone) = (findL l (⟨j, xs j, ys j⟩, ⟨k, xs k, ys k⟩) 0).isNone := by
            rw [List.range_succ, List.all_append, HF.out]; simp
          have HS := Lib.hid hstep
          have HJ := Lib.hid hlt
          have HW := Lib.hid hW
          clear hstep R4 R5 R6 R9 HM hx hy hm hW
          cases hf : findL l (⟨j, xs j, ys j⟩, ⟨k, xs k, ys k⟩) 0 with
          | none =>
            rw [hf] at hlk HS
            have HFF := Lib.hid hf
            clear hf
            simp only [Option.isSome_none] at hlk
            go_wp2_with fail
            go_quiet (fail)
            have HB2 := Lib.hid (below_call HW.out (below_drew wr nq))
            clear a1 y0 y1 l4 l5 l6 b0 b1 b2 l9 hlk
            generalize wr.drewN nq = V at HB2 ⊢
            go_wp2
            go_roundw
            case rel => exact ⟨j + 1, by omega, by simp, HB2.out, HS.out⟩
            case measure => simp [intOf]; omega
          | some e =>
            rw [hf] at hlk HS
            have HFF := Lib.hid hf
            clear hf
            simp only [Option.isSome_some] at hlk
            go_wp2_with fail
            go_quiet (fail)
            have HB2 := Lib.hid (below_call HB.out (below_call HW.out (below_drew wr nq)))
            clear a1 y0 y1 l4 l5 l6 b0 b1 b2 l9 hlk
            generalize wr.drewN nq = V at HB2 ⊢
            go_wp2
            go_ret
            refine boolP_mk ?_ HB2.out
            unfold freeB
            symm
            rw [List.all_eq_false]
            exact ⟨j, List.mem_range.2 HJ.out, by rw [HFF.out]; simp⟩
        · have hjk : j = k := by omega
          have HJ := Lib.hid hjk
          clear hjk
          go_wp2
          go_ret
          refine boolP_mk ?_ (below_call HB.out hW)
          have := HF.out
          rw [HJ.out] at this
          exact this.symm
end Go.Proofs.Jn
end

section
/-
  The sort of an owned row of numbers; the lists that are made.
-/
namespace Go.Proofs.Jn
open Go.RowKit Go.Shelf Go.Sort

def nflat (l : List Nat) : List Value := l.map fun x => .int .i64 (x : Nat)
def srt (l : List Nat) : List Nat := l.mergeSort fun x y => decide (x ≤ y)
theorem srt_len (l : List Nat) : (srt l).length = l.length := by unfold srt; simp
theorem srt_mem (l : List Nat) (x : Nat) : x ∈ srt l ↔ x ∈ l := by unfold srt; simp
theorem srt_int (l : List Nat) : (l.map fun (x : Nat) => (x : Int)).mergeSort (fun x y => decide (x ≤ y)) = (srt l).map fun (x : Nat) => (x : Int) := by
  unfold srt
  rw [← List.map_mergeSort]
  intro a _ b _
  simp
theorem nflat_len (l : List Nat) : (nflat l).length = l.length := by simp [nflat]
theorem nvals_flat (l : List Nat) : (nvals l).flatten = nflat l := by
  induction l with
  | nil => rfl
  | cons a t ih => simp only [nvals, nflat, List.map_cons, List.flatten_cons] at ih ⊢; rw [ih]; rfl
theorem take_put (cur : Array Value) (zs : List Int) (h : zs.length ≤ cur.size) : (putCells (Value.int .i64) 0 zs.toArray cur).toList.take zs.length = zs.map (Value.int .i64) := by
  apply List.ext_getElem?
  intro j
  rw [List.getElem?_take]
  split
  · rename_i hj
    have hc : j < cur.size := by omega
    simp [putCells, hj, hc]
  · rename_i hj
    rw [List.getElem?_eq_none (by simp; omega)]
theorem sort_own (base : Nat) (v : Value) (l : List Nat) (w : World) (h : w.ownsRow base 3 1 v l.length (nflat l)) (h0 : 0 < l.length) (hl : l.length ≤ 3000) :
    Calls Try.prog 63 #[v] w fun e w' => e = .returned (.tuple #[]) ∧ w'.ownsRow base 3 1 v l.length (nflat (srt l)) ∧ w.grownBy w' v.ownBlock := by
  obtain ⟨hn, h⟩ := h
  rcases h with ⟨_, h1⟩ | ⟨g, cap, cur, rfl, hbg, hg, hc, hm, hs, ht⟩
  · omega
  have hlt : g < w.heap.size := by
    rcases Nat.lt_or_ge g w.heap.size with h | h
    · exact h
    · rw [Array.getElem?_eq_none h] at hg; cases hg
  simp only [Nat.mul_one] at hs ht
  have hH : Holds (Value.int .i64) w g 0 (l.map fun (x : Nat) => (x : Int)).toArray := by
    intro j hj
    have hj : j < l.length := by simpa using hj
    refine ⟨?_, by simp [World.frozen?, hg]⟩
    have : (nflat l)[j]? = some (.int .i64 ((l[j] : Nat) : Int)) := by simp only [nflat, List.getElem?_map, List.getElem?_eq_getElem hj, Option.map_some]
    rw [← ht, List.getElem?_take, if_pos hj] at this
    simp [World.cell?, hg, hj]
    simpa using this
  have hS := Any.slices_Sort_int Try.sortL g 0 cap (l.map fun (x : Nat) => (x : Int)) w hH hlt (by simp; omega)
  change Calls Try.prog 63 _ _ _ at hS
  rw [srt_int, List.length_map] at hS
  refine hS.mono ?_
  rintro e w' ⟨rfl, n, os, rfl⟩
  refine ⟨rfl, ⟨by rw [nflat_len, srt_len]; omega, .inr ⟨g, cap, putCells (Value.int .i64) 0 ((srt l).map fun (x : Nat) => (x : Int)).toArray cur, rfl, hbg, ?_, hc, hm, by simp [putCells, hs], ?_⟩⟩, ⟨rfl, rfl, rfl, by simp [Sort.ahead], fun k hk hne => ?_⟩⟩
  · rw [heap_grow_old _ _ (by simp [Sort.ahead]; exact hlt)]
    simp [putRow, mapBlock, Sort.ahead, Array.getElem?_modify, hg, onCells]
  · have := take_put cur ((srt l).map fun (x : Nat) => (x : Int)) (by rw [List.length_map, srt_len]; omega)
    rw [List.length_map, srt_len] at this
    rw [Nat.mul_one, this]
    simp [nflat]
  · rw [heap_grow_old _ _ (by simp [Sort.ahead]; exact hk)]
    simp only [putRow, mapBlock, Sort.ahead, Array.getElem?_modify]
    rw [if_neg (fun e => hne (by simp [Value.ownBlock, e]))]

/-- Lists that are being made: the block that holds their slices, each list a row of its own. -/
structure NB (W : World) (base g : Nat) (vs : List Value) (ls : List (List Nat)) : Prop where
  len : vs.length = ls.length
  box : W.heap[g]? = some (.cells vs.toArray 22)
  low : g < base
  own : ∀ (i : Nat) (v : Value) (l : List Nat), vs[i]? = some v → ls[i]? = some l → W.ownsRow base 3 1 v l.length (nflat l)
  apt : ∀ (i j : Nat) (v u : Value) (b : Nat), i ≠ j → vs[i]? = some v → vs[j]? = some u → v.ownBlock = some b → u.ownBlock ≠ some b
theorem NB.lt {W : World} {base g : Nat} {vs : List Value} {ls : List (List Nat)} (h : NB W base g vs ls) : g < W.heap.size := by
  rcases Nat.lt_or_ge g W.heap.size with h1 | h1
  · exact h1
  · have := h.box; rw [Array.getElem?_eq_none h1] at this; cases this
theorem set_box {W : World} {g : Nat} {vs : List Value} (h : W.heap[g]? = some (.cells vs.toArray 22)) (i : Nat) (v : Value) (hi : i < vs.length) : (W.setCell ⟨g, i, none⟩ v).heap[g]? = some (.cells (vs.set i v).toArray 22) := by
  have hg : g < W.heap.size := by
    rcases Nat.lt_or_ge g W.heap.size with h1 | h1
    · exact h1
    · rw [Array.getElem?_eq_none h1] at h; cases h
  simp [World.setCell, Array.getElem?_modify, h]
theorem NB.set {W W' : World} {base g : Nat} {vs : List Value} {ls : List (List Nat)} (h : NB W base g vs ls) (hb : base ≤ W.heap.size) (i : Nat) (v v' : Value) (l l' : List Nat) (hv : vs[i]? = some v) (hl : ls[i]? = some l)
    (ho : W'.ownsRow base 3 1 v' l'.length (nflat l')) (hg : W.grownBy W' v.ownBlock) (hn : ∀ b, v'.ownBlock = some b → v.ownBlock = some b ∨ W.heap.size ≤ b) : NB (W'.setCell ⟨g, i, none⟩ v') base g (vs.set i v') (ls.set i l') := by
  have hi : i < vs.length := (List.getElem?_eq_some_iff.1 hv).1
  have hgl := h.lt
  have hvb := h.own i v l hv hl
  have hbox : W'.heap[g]? = some (.cells vs.toArray 22) := by
    rw [hg.block g hgl (fun e => by have := (own_lt hvb g e.symm).2; have := h.low; omega)]; exact h.box
  have hS : ∀ k, k ≠ g → (W'.setCell ⟨g, i, none⟩ v').heap[k]? = W'.heap[k]? := fun k hk => Below.heap_setCell W' ⟨g, i, none⟩ v' k hk
  refine ⟨by simp [h.len], set_box hbox i v' hi, h.low, fun j u m hu hm => ?_, fun j k u x b hjk hu hx hub hxb => ?_⟩
  · rw [List.getElem?_set] at hu hm
    by_cases e : i = j
    · subst e
      simp [hi] at hu
      have : i < ls.length := by rw [← h.len]; exact hi
      simp [this] at hm
      subst hu hm
      exact own_blk ho fun b _ _ hbb => hS b (by have := h.low; omega)
    · rw [if_neg e] at hu hm
      have := h.own j u m hu hm
      refine own_blk this fun b hub hbl hbb => ?_
      rw [hS b (by have := h.low; omega), hg.block b hbl (fun e2 => h.apt i j v u b e hv hu e2.symm hub)]
  · rw [List.getElem?_set] at hu hx
    have old : ∀ (j : Nat) (u : Value) (b : Nat), vs[j]? = some u → u.ownBlock = some b → b < W.heap.size := fun j u b hu hub => by
      have hj : j < ls.length := by rw [← h.len]; exact (List.getElem?_eq_some_iff.1 hu).1
      exact (own_lt (h.own j u ls[j] hu (List.getElem?_eq_getElem hj)) b hub).1
    by_cases e : i = j
    · subst e
      simp [hi] at hu
      subst hu
      rw [if_neg hjk] at hx
      have hx1 := old k x b hx hxb
      rcases hn b hub with h1 | h1
      · exact h.apt i k v x b hjk hv hx h1 hxb
      · omega
    · rw [if_neg e] at hu
      by_cases e2 : i = k
      · subst e2
        simp [hi] at hx
        subst hx
        have hu1 := old j u b hu hub
        rcases hn b hxb with h1 | h1
        · exact h.apt j i u v b hjk hu hv hub h1
        · omega
      · rw [if_neg e2] at hx
        exact h.apt j k u x b hjk hu hx hub hxb
theorem NB.keep {W W' : World} {base g : Nat} {vs : List Value} {ls : List (List Nat)} (h : NB W base g vs ls) (hb : Below W.heap.size W W') : NB W' base g vs ls :=
  ⟨h.len, (hb.block g h.lt).trans h.box, h.low, fun i v l h1 h2 => own_keep (h.own i v l h1 h2) hb, h.apt⟩
end Go.Proofs.Jn
end

section
/-
  The crew as data; what stands while it is made.
-/
namespace Go.Proofs.Jn
open Go.RowKit

/-- The points that follow each point of an arm, as they are laid. -/
def addAt (ls : List (List Nat)) (i x : Nat) : List (List Nat) := ls.set i ((ls[i]?).getD [] ++ [x])
def addE (ls : List (List Nat)) (e : Ed) : List (List Nat) := if e.st = 1 then addAt (addAt ls e.u e.v) e.v e.u else ls
def selfL (n : Nat) : List (List Nat) := (List.range n).map fun i => [i]
def laid (m : Mp) (k : Nat) : List (List Nat) := (m.es.take k).foldl addE (selfL m.n)
def nextOf (m : Mp) : List (List Nat) := (laid m m.es.length).map srt
def keyOf (c : Cf) : Mv × Mv := if c.a.arm < c.b.arm then (c.a, c.b) else (c.b, c.a)
def putC (l : List ((Mv × Mv) × Value)) (c : Cf) : List ((Mv × Mv) × Value) := putL l (keyOf c) (.bool true)
def clOf (cs : List Cf) : List ((Mv × Mv) × Value) := cs.foldl putC []
theorem addAt_len (ls : List (List Nat)) (i x : Nat) : (addAt ls i x).length = ls.length := by simp [addAt]
theorem addE_len (ls : List (List Nat)) (e : Ed) : (addE ls e).length = ls.length := by
  unfold addE; split
  · rw [addAt_len, addAt_len]
  · rfl
/-- Lists that are not empty and not long. -/
def Fair (ls : List (List Nat)) (k : Nat) : Prop := ∀ l ∈ ls, 0 < l.length ∧ l.length ≤ k
theorem Fair.addAt {ls : List (List Nat)} {k i x : Nat} (h : Fair ls k) (hi : i < ls.length) : Fair (addAt ls i x) (k + 1) := by
  intro l hl
  unfold Jn.addAt at hl
  rcases List.mem_or_eq_of_mem_set hl with h1 | h1
  · have := h l h1; omega
  · have := h ls[i] (List.getElem_mem hi)
    rw [List.getElem?_eq_getElem hi] at h1
    simp at h1
    rw [h1]; simp; omega
theorem Fair.mono {ls : List (List Nat)} {k j : Nat} (h : Fair ls k) (hj : k ≤ j) : Fair ls j := fun l hl => by have := h l hl; omega
theorem Fair.addE {ls : List (List Nat)} {k : Nat} {e : Ed} (h : Fair ls k) (hu : e.u < ls.length) (hv : e.v < ls.length) : Fair (addE ls e) (k + 2) := by
  unfold Jn.addE; split
  · exact (h.addAt hu).addAt (by rw [addAt_len]; exact hv)
  · exact h.mono (by omega)
theorem laid_zero (m : Mp) : laid m 0 = selfL m.n := by simp [laid]
theorem laid_succ {m : Mp} {k : Nat} {e : Ed} (h : m.es[k]? = some e) : laid m (k + 1) = addE (laid m k) e := by
  unfold laid
  rw [List.take_add_one, h]
  simp
theorem laid_len (m : Mp) (k : Nat) : (laid m k).length = m.n := by
  unfold laid
  suffices h : ∀ (es : List Ed) (ls : List (List Nat)), (es.foldl addE ls).length = ls.length by rw [h]; simp [selfL]
  intro es
  induction es with
  | nil => intro ls; rfl
  | cons e r ih => intro ls; rw [List.foldl_cons, ih, addE_len]
theorem laid_fair {m : Mp} (hm : MapOk m) (k : Nat) (hk : k ≤ m.es.length) : Fair (laid m k) (1 + 2 * k) := by
  induction k with
  | zero =>
    rw [laid_zero]
    intro l hl
    unfold selfL at hl
    obtain ⟨i, _, rfl⟩ := List.mem_map.1 hl
    simp
  | succ k ih =>
    obtain ⟨e, he⟩ : ∃ e, m.es[k]? = some e := ⟨_, List.getElem?_eq_getElem (by omega)⟩
    rw [laid_succ he]
    have := hm.ed e (List.mem_of_getElem? he)
    exact (ih (by omega)).addE (by rw [laid_len]; omega) (by rw [laid_len]; omega)
theorem laid_eq {m : Mp} {k : Nat} (e : Ed) (he : m.es[k]? = some e) (h : e.st ≠ 1) : laid m (k + 1) = laid m k := by
  rw [laid_succ he]; unfold addE; rw [if_neg h]

/-- The lists of one arm, where they lie. -/
structure NxE where
  base : Nat
  g : Nat
  cap : Nat
  vs : List Value
  ls : List (List Nat)
def NxE.v (e : NxE) : Value := .slice (some ⟨e.g, 0, none⟩) e.ls.length e.cap
def NxE.uses (e : NxE) (b : Nat) : Prop := b = e.g ∨ ∃ u ∈ e.vs, u.ownBlock = some b
def EOk (W : World) (e : NxE) : Prop := NB W e.base e.g e.vs e.ls
theorem EOk.lt {W : World} {e : NxE} (h : EOk W e) (b : Nat) (hb : e.uses b) : b < W.heap.size ∧ e.g ≤ b := by
  rcases hb with rfl | ⟨u, hu, hub⟩
  · exact ⟨NB.lt h, Nat.le_refl _⟩
  · obtain ⟨i, hi⟩ := List.getElem?_of_mem hu
    have hj : i < e.ls.length := by rw [← h.len]; exact (List.getElem?_eq_some_iff.1 hi).1
    have := own_lt (h.own i u e.ls[i] hi (List.getElem?_eq_getElem hj)) b hub
    have := h.low
    omega
theorem EOk.keepQ {W W' : World} {e : NxE} (h : EOk W e) (hb : ∀ b, e.uses b → W'.heap[b]? = W.heap[b]?) : EOk W' e :=
  ⟨h.len, (hb e.g (.inl rfl)).trans h.box, h.low, fun i v l h1 h2 => own_blk (h.own i v l h1 h2) fun g hg _ _ => hb g (.inr ⟨v, List.mem_of_getElem? h1, hg⟩), h.apt⟩
theorem EOk.keep {W W' : World} {e : NxE} (h : EOk W e) (hb : Below W.heap.size W W') : EOk W' e := h.keepQ fun b hu => hb.block b (h.lt b hu).1

theorem Blk.keepN {W W' : World} {b : Nat} {l : List Value} (h : Blk W b l) (e : W'.heap[b]? = W.heap[b]?) (hs : W.heap.size ≤ W'.heap.size) : Blk W' b l :=
  ⟨fun i v hi => by rw [← h.c i v hi]; simp [World.cell?, e], fun i => by rw [← h.f i]; simp [World.frozen?, e], Nat.lt_of_lt_of_le h.lt hs⟩
theorem MapIs.keepN {α : Type} [DecidableEq α] {enc : α → Value} {W W' : World} {g : Nat} {l : List (α × Value)} (h : MapIs W g enc l) (e : W'.heap[g]? = W.heap[g]?) : MapIs W' g enc l := by
  unfold MapIs at *; rw [e]; exact h

/-- The crew that is being made: its box, the row of its arms, its map. -/
structure XR (w : World) (nx gm : Nat) (l : List ((Mv × Mv) × Value)) (es : List NxE) (vx : Value) (W : World) : Prop where
  x : Blk W nx [vx, .map (some gm)]
  own : W.ownsRow (nx + 1) 30 1 vx es.length (es.map NxE.v)
  map : MapIs W gm enc2 l
  ok : ∀ e ∈ es, EOk W e
  ap : ∀ e ∈ es, ∀ b, e.uses b → nx < b ∧ vx.ownBlock ≠ some b
  bel : Below w.heap.size w W
  low : w.heap.size ≤ gm ∧ gm < nx
theorem XR.keep {w : World} {nx gm : Nat} {l : List ((Mv × Mv) × Value)} {es : List NxE} {vx : Value} {W W' : World} (h : XR w nx gm l es vx W) (hb : Below W.heap.size W W') : XR w nx gm l es vx W' :=
  ⟨h.x.keep hb, own_keep h.own hb, h.map.keep hb, fun e he => (h.ok e he).keep hb, h.ap, below_call h.bel hb, h.low⟩
theorem XR.app {w : World} {nx gm : Nat} {l : List ((Mv × Mv) × Value)} {es : List NxE} {vx : Value} {W W' : World} (h : XR w nx gm l es vx W) (e : NxE) (g c : Nat)
    (ho : W'.ownsRow (nx + 1) 30 1 (.slice (some ⟨g, 0, none⟩) (es.length + 1) c) (es.length + 1) (es.map NxE.v ++ [e.v])) (hg : W.grownBy W' vx.ownBlock) (hat : vx.ownBlock = some g ∨ W.heap.size ≤ g)
    (hok : EOk W e) (hap : ∀ b, e.uses b → nx < b ∧ vx.ownBlock ≠ some b) : XR w nx gm l (es ++ [e]) (.slice (some ⟨g, 0, none⟩) (es.length + 1) c) (W'.setCell ⟨nx, 0, none⟩ (.slice (some ⟨g, 0, none⟩) (es.length + 1) c)) := by
  have hxl := h.x.lt
  have hS : ∀ k, k ≠ nx → (W'.setCell ⟨nx, 0, none⟩ (.slice (some ⟨g, 0, none⟩) (es.length + 1) c)).heap[k]? = W'.heap[k]? := fun k hk => Below.heap_setCell W' ⟨nx, 0, none⟩ _ k hk
  have hv : ∀ k, k ≤ nx → vx.ownBlock ≠ some k := fun k hk e => by have := (own_lt h.own k e).2; omega
  have hml := h.map.lt
  have hlow := h.low
  refine ⟨?_, ?_, ?_, fun a ha => ?_, fun a ha b hb => ?_, ?_, h.low⟩
  · have hx := h.x.keepN (hg.block nx hxl (fun e => hv nx (Nat.le_refl _) e.symm)) hg.size
    exact hx.put 0 (.slice (some ⟨g, 0, none⟩) (es.length + 1) c)
  · rw [List.length_append, List.map_append]
    exact own_blk ho fun b _ _ hbb => hS b (by omega)
  · refine (h.map.keepN (hg.block gm hml (fun e => hv gm (by omega) e.symm))).keepN (hS gm (by omega))
  · rcases List.mem_append.1 ha with ha | ha
    · exact (h.ok a ha).keepQ fun b hb => by
        rw [hS b (by have := (h.ap a ha b hb).1; omega), hg.block b ((h.ok a ha).lt b hb).1 (fun e => (h.ap a ha b hb).2 e.symm)]
    · simp at ha; subst ha
      exact hok.keepQ fun b hb => by
        rw [hS b (by have := (hap b hb).1; omega), hg.block b (hok.lt b hb).1 (fun e => (hap b hb).2 e.symm)]
  · have key : ∀ (a : NxE), EOk W a → (∀ b, a.uses b → nx < b ∧ vx.ownBlock ≠ some b) → a.uses b → nx < b ∧ (Value.slice (some ⟨g, 0, none⟩) (es.length + 1) c).ownBlock ≠ some b := fun a h1 h2 hb => by
      refine ⟨(h2 b hb).1, fun e2 => ?_⟩
      simp [Value.ownBlock] at e2
      subst e2
      rcases hat with h3 | h3
      · exact (h2 _ hb).2 h3
      · have := (h1.lt _ hb).1; omega
    rcases List.mem_append.1 ha with ha | ha
    · exact key a (h.ok a ha) (h.ap a ha) hb
    · simp at ha; subst ha; exact key a hok hap hb
  · have h1 := grown_below h.own hg (by omega)
    have hwx : w.heap.size ≤ nx + 1 := by omega
    exact (h.bel.trans (h1.mono hwx)).setCell (p := ⟨nx, 0, none⟩) (by show w.heap.size ≤ nx; omega) _

theorem XR.new {w W : World} (hb : Below w.heap.size w W) : XR w (W.heap.size + 1) W.heap.size [] [] (.slice none 0 0) ((W.alloc (.map #[] 0)).alloc (.cells #[.slice none 0 0, .map (some W.heap.size)] 82)) := by
  have e : (W.alloc (.map #[] 0)).heap.size = W.heap.size + 1 := by simp
  have hm : MapIs (W.alloc (.map #[] 0)) W.heap.size enc2 [] := by
    unfold MapIs
    show (W.heap.push (.map #[] 0))[W.heap.size]? = _
    rw [Array.getElem?_push_size]; rfl
  have r := Blk.new (W.alloc (.map #[] 0)) [.slice none 0 0, .map (some W.heap.size)] 82
  rw [e] at r
  exact ⟨r, World.ownsRow_nil _ _ _ _, hm.keep ((Below.refl _ _).alloc (Nat.le_refl _) _), by simp, by simp, (hb.alloc hb.size _).alloc (by rw [e]; have := hb.size; omega) _, ⟨hb.size, by omega⟩⟩
theorem NB.new (W : World) (n : Nat) : NB (W.alloc (.cells (Array.replicate n (Value.slice none 0 0)) 22)) (W.heap.size + 1) W.heap.size (List.replicate n (Value.slice none 0 0)) (List.replicate n []) := by
  rw [← List.toArray_replicate]
  refine ⟨by simp, Array.getElem?_push_size, by omega, fun i v l hv hl => ?_, fun i j v u b _ hv _ hb => ?_⟩
  · have h1 := List.eq_of_mem_replicate (List.mem_of_getElem? hv)
    have h2 := List.eq_of_mem_replicate (List.mem_of_getElem? hl)
    subst h1 h2
    exact World.ownsRow_nil _ _ _ _
  · have h1 := List.eq_of_mem_replicate (List.mem_of_getElem? hv)
    subst h1
    cases hb
theorem NB.cell {W : World} {base g : Nat} {vs : List Value} {ls : List (List Nat)} (h : NB W base g vs ls) {i : Nat} {v : Value} (hv : vs[i]? = some v) : W.cell? ⟨g, i, none⟩ = some v := by
  simp [World.cell?, h.box, hv]
theorem NB.fz {W : World} {base g : Nat} {vs : List Value} {ls : List (List Nat)} (h : NB W base g vs ls) (i : Nat) : W.frozen? ⟨g, i, none⟩ = false := by
  simp [World.frozen?, h.box]
/-- The lists of themselves, as far as they have been made. -/
def selfTo (n j : Nat) : List (List Nat) := (List.range n).map fun x => if x < j then [x] else []
theorem selfTo_zero (n : Nat) : selfTo n 0 = List.replicate n [] := by
  apply List.ext_getElem?
  intro i
  simp [selfTo, List.getElem?_replicate]
  by_cases h : i < n <;> simp [h]
theorem selfTo_all (n : Nat) : selfTo n n = selfL n := by
  unfold selfTo selfL
  apply List.map_congr_left
  intro x hx
  rw [if_pos (List.mem_range.1 hx)]
theorem selfTo_step (n j : Nat) : selfTo n (j + 1) = (selfTo n j).set j [j] := by
  apply List.ext_getElem?
  intro i
  rw [List.getElem?_set]
  by_cases h : j = i
  · subst h
    simp only [selfTo, List.length_map, List.length_range, if_true]
    by_cases h2 : j < n
    · simp [h2]
    · simp [h2]
  · rw [if_neg h]
    simp only [selfTo, List.getElem?_map]
    by_cases h2 : i < n
    · simp only [List.getElem?_range h2, Option.map_some]
      have : (i < j + 1) = (i < j) := by apply propext; omega
      simp only [this]
    · rw [List.getElem?_eq_none (by simp; omega)]; rfl
theorem own_fresh1 (W : World) (base x : Nat) (hb : base ≤ W.heap.size) : (W.alloc (.cells #[.int .i64 (x : Nat)] 3)).ownsRow base 3 1 (.slice (some ⟨W.heap.size, 0, none⟩) 1 1) [x].length (nflat [x]) :=
  ⟨by simp [nflat], .inr ⟨W.heap.size, 1, #[.int .i64 (x : Nat)], rfl, hb, Array.getElem?_push_size, by simp, by decide, by simp, by simp [nflat]⟩⟩
theorem nb_make {V W : World} {g n j : Nat} {vs : List Value} (hb : NB W (g + 1) g vs (selfTo n j)) (hg : V.heap.size = g) (hV : Below V.heap.size V W) (v : Value) (hv : vs[j]? = some v) (hj : j < n) :
    NB ((W.alloc (.cells #[.int .i64 (j : Nat)] 3)).setCell ⟨g, j, none⟩ (.slice (some ⟨W.heap.size, 0, none⟩) 1 1)) (g + 1) g (vs.set j (.slice (some ⟨W.heap.size, 0, none⟩) 1 1)) (selfTo n (j + 1)) ∧ Below V.heap.size V ((W.alloc (.cells #[.int .i64 (j : Nat)] 3)).setCell ⟨g, j, none⟩ (.slice (some ⟨W.heap.size, 0, none⟩) 1 1)) := by
  have hlt := hb.lt
  rw [selfTo_step]
  refine ⟨hb.set (by omega) j v _ [] [j] hv (by simp [selfTo, hj]) (own_fresh1 W _ j (by omega)) (World.grownBy_alloc W _ _) (fun b h => .inr ?_), (hV.alloc (by omega) _).setCell (p := ⟨g, j, none⟩) (by show V.heap.size ≤ g; omega) _⟩
  simp [Value.ownBlock] at h
  omega

theorem RowsAt.low {w w' : World} {b off n base : Nat} {l : List (List Value)} (h : RowsAt w b off n l) (hlt : b < base) (hb : Below base w w') : RowsAt w' b off n l :=
  ⟨Nat.lt_of_lt_of_le h.lt hb.size, fun i r hi k v hv => by
    rw [← h.c i r hi k v hv]
    simp [World.cell?, hb.block b hlt]⟩
theorem nb_app {V W W9 : World} {g i x g' c' : Nat} {vs : List Value} {ls : List (List Nat)} {vu : Value} {lu : List Nat} (hN : NB W (g + 1) g vs ls) (hg : V.heap.size = g) (hV : Below V.heap.size V W) (hv : vs[i]? = some vu) (hl : ls[i]? = some lu)
    (ho : W9.ownsRow (g + 1) 3 1 (.slice (some ⟨g', 0, none⟩) (lu.length + 1) c') (lu.length + 1) (nflat lu ++ [.int .i64 (x : Nat)])) (hgr : W.grownBy W9 vu.ownBlock) (hat : vu.ownBlock = some g' ∨ W.heap.size ≤ g') :
    NB (W9.setCell ⟨g, i, none⟩ (.slice (some ⟨g', 0, none⟩) (lu.length + 1) c')) (g + 1) g (vs.set i (.slice (some ⟨g', 0, none⟩) (lu.length + 1) c')) (addAt ls i x) ∧ Below V.heap.size V (W9.setCell ⟨g, i, none⟩ (.slice (some ⟨g', 0, none⟩) (lu.length + 1) c')) := by
  have hlt := hN.lt
  have e1 : (lu ++ [x]).length = lu.length + 1 := by simp
  have e2 : nflat (lu ++ [x]) = nflat lu ++ [.int .i64 (x : Nat)] := by simp [nflat]
  rw [← e2, ← e1] at ho
  have e3 : addAt ls i x = ls.set i (lu ++ [x]) := by simp [addAt, hl]
  rw [e3, ← e1]
  refine ⟨hN.set (by omega) i vu _ lu _ hv hl ho hgr (fun b h => ?_), ?_⟩
  · simp [Value.ownBlock] at h
    subst h
    exact hat
  · have h1 := grown_below (hN.own i vu lu hv hl) hgr (by omega)
    exact (hV.trans (h1.mono (by omega))).setCell (p := ⟨g, i, none⟩) (by show V.heap.size ≤ g; omega) _

theorem cell_set_ne {W : World} {b i c j : Nat} {v : Value} (h : b ≠ c) : (W.setCell ⟨c, j, none⟩ v).cell? ⟨b, i, none⟩ = W.cell? ⟨b, i, none⟩ := by
  simp [World.cell?, Below.heap_setCell W ⟨c, j, none⟩ v b h]

/-- The first j lists sorted. -/
def sorted (ls : List (List Nat)) (j : Nat) : List (List Nat) := (ls.take j).map srt ++ ls.drop j
theorem sorted_zero (ls : List (List Nat)) : sorted ls 0 = ls := by simp [sorted]
theorem sorted_len (ls : List (List Nat)) (j : Nat) : (sorted ls j).length = ls.length := by simp [sorted]; omega
theorem sorted_all (ls : List (List Nat)) (j : Nat) (h : ls.length ≤ j) : sorted ls j = ls.map srt := by
  unfold sorted; rw [List.take_of_length_le h, List.drop_eq_nil_of_le h]; simp
theorem sorted_get {ls : List (List Nat)} {j : Nat} {l : List Nat} (h : ls[j]? = some l) : (sorted ls j)[j]? = some l := by
  have hj := (List.getElem?_eq_some_iff.1 h).1
  unfold sorted
  rw [List.getElem?_append_right (by simp; omega)]
  simp [Nat.min_eq_left (Nat.le_of_lt hj), h]
theorem sorted_step {ls : List (List Nat)} {j : Nat} {l : List Nat} (h : ls[j]? = some l) : sorted ls (j + 1) = (sorted ls j).set j (srt l) := by
  have hj := (List.getElem?_eq_some_iff.1 h).1
  have e : l = ls[j] := by rw [List.getElem?_eq_getElem hj] at h; exact (Option.some.inj h).symm
  unfold sorted
  rw [List.set_append_right _ _ (by simp; omega), List.take_add_one, h]
  have : ls.drop j = l :: ls.drop (j + 1) := by rw [e]; exact List.drop_eq_getElem_cons hj
  rw [this]
  simp [Nat.min_eq_left (Nat.le_of_lt hj)]
theorem nb_sort {V W W9 : World} {g j : Nat} {vs : List Value} {ls : List (List Nat)} {v : Value} {l : List Nat} (hN : NB W (g + 1) g vs (sorted ls j)) (hg : V.heap.size = g) (hV : Below V.heap.size V W) (hv : vs[j]? = some v) (hl : ls[j]? = some l)
    (ho : W9.ownsRow (g + 1) 3 1 v l.length (nflat (srt l))) (hgr : W.grownBy W9 v.ownBlock) : NB W9 (g + 1) g vs (sorted ls (j + 1)) ∧ Below V.heap.size V W9 := by
  have hlt := hN.lt
  have hj := (List.getElem?_eq_some_iff.1 hv).1
  have hvb := hN.own j v l hv (sorted_get hl)
  refine ⟨⟨by rw [hN.len, sorted_len, sorted_len], ?_, hN.low, fun i u m hu hm => ?_, hN.apt⟩, ?_⟩
  · rw [hgr.block g hlt (fun e => by have := (own_lt hvb g e.symm).2; omega)]; exact hN.box
  · rw [sorted_step hl, List.getElem?_set] at hm
    by_cases e : j = i
    · subst e
      rw [hv] at hu; injection hu with hu; subst hu
      have h2 : j < (sorted ls j).length := by rw [← hN.len]; exact hj
      simp [h2] at hm
      subst hm
      rw [srt_len]; exact ho
    · rw [if_neg e] at hm
      exact own_blk (hN.own i u m hu hm) fun b hub hbl _ => hgr.block b hbl (fun e2 => hN.apt j i v u b e hv hu e2.symm hub)
  · have h1 := grown_below hvb hgr (by omega)
    exact hV.trans (h1.mono (by omega))

/-- A crew as it lies. -/
structure CrewAt (W : World) (on : Option Addr) (es : List NxE) (gm : Nat) (l : List ((Mv × Mv) × Value)) : Prop where
  nx : Sl W on 1 (es.map fun e => [e.v])
  ok : ∀ e ∈ es, EOk W e
  map : MapIs W gm enc2 l
theorem CrewAt.keep {W W' : World} {on : Option Addr} {es : List NxE} {gm : Nat} {l : List ((Mv × Mv) × Value)} (h : CrewAt W on es gm l) (hb : Below W.heap.size W W') : CrewAt W' on es gm l :=
  ⟨h.nx.keep hb, fun e he => (h.ok e he).keep hb, h.map.keep hb⟩

theorem nextOf_len (m : Mp) : (nextOf m).length = m.n := by unfold nextOf; rw [List.length_map, laid_len]
theorem set2_heapD (W : World) (n : Nat) (x y : Value) (q : Nat) (h : q ≠ n) : ((W.setCell ⟨n, 0, none⟩ x).setCell ⟨n, 1, none⟩ y).heap[q]? = W.heap[q]? :=
  (Below.heap_setCell _ ⟨n, 1, none⟩ _ q h).trans (Below.heap_setCell W ⟨n, 0, none⟩ _ q h)
/-- The entry of one arm. -/
def nxOf (g : Nat) (m : Mp) (vs : List Value) : NxE := ⟨g + 1, g, m.n, vs, nextOf m⟩
theorem nxOf_v (g : Nat) (m : Mp) (vs : List Value) : (nxOf g m vs).v = .slice (some ⟨g, 0, none⟩) m.n m.n := by
  show Value.slice (some ⟨g, 0, none⟩) (nextOf m).length m.n = _
  rw [nextOf_len]
theorem nxOf_ok {W : World} {g : Nat} {m : Mp} {vs : List Value} (h : NB W (g + 1) g vs (sorted (laid m m.es.length) m.n)) : EOk W (nxOf g m vs) := by
  rw [sorted_all _ _ (by rw [laid_len]; exact Nat.le_refl _)] at h
  exact h
theorem nxOf_ap {w V W : World} {nx gm g : Nat} {l : List ((Mv × Mv) × Value)} {es : List NxE} {vx : Value} {m : Mp} {vs : List Value} {L : List (List Nat)} (hg : V.heap.size = g) (h : NB W (g + 1) g vs L) (hX : XR w nx gm l es vx V) : ∀ b, (nxOf g m vs).uses b → nx < b ∧ vx.ownBlock ≠ some b := by
  intro b hb
  have hge : g ≤ b := by
    rcases hb with rfl | ⟨u, hu, hub⟩
    · exact Nat.le_refl _
    · obtain ⟨i, hi⟩ := List.getElem?_of_mem hu
      have hi' : vs[i]? = some u := hi
      have hj : i < L.length := by rw [← h.len]; exact (List.getElem?_eq_some_iff.1 hi').1
      have := own_lt (h.own i u L[i] hi' (List.getElem?_eq_getElem hj)) b hub
      omega
  have hl := hX.x.lt
  refine ⟨by omega, fun e => ?_⟩
  have := (own_lt hX.own b e).1
  omega
theorem XR.put {w : World} {nx gm : Nat} {l l' : List ((Mv × Mv) × Value)} {es : List NxE} {vx : Value} {W : World} (h : XR w nx gm l es vx W) : XR w nx gm l' es vx (wput W gm enc2 l') := by
  have hb : ∀ q, q ≠ gm → (wput W gm enc2 l').heap[q]? = W.heap[q]? := fun q hq => wput_heap W gm q l' hq
  have hs : W.heap.size ≤ (wput W gm enc2 l').heap.size := by simp [wput]
  have hlow := h.low
  refine ⟨h.x.keepN (hb nx (by omega)) hs, own_blk h.own fun g _ _ hg => hb g (by omega), h.map.put, fun e he => (h.ok e he).keepQ fun b hu => hb b (by have := (h.ap e he b hu).1; omega), h.ap, ?_, h.low⟩
  refine h.bel.trans ⟨rfl, rfl, rfl, hs, fun k hk => hb k (by omega)⟩
theorem nx_flat (es : List NxE) : (es.map fun e => [e.v]).flatten = es.map NxE.v := by
  induction es with
  | nil => rfl
  | cons a t ih => simp only [List.map_cons, List.flatten_cons, ih]; rfl
theorem XR.crew {w : World} {nx gm : Nat} {l : List ((Mv × Mv) × Value)} {es : List NxE} {on : Option Addr} {cn : Nat} {W W' : World} (h : XR w nx gm l es (.slice on es.length cn) W) (hb : ∀ q, w.heap.size ≤ q → W'.heap[q]? = W.heap[q]?) : CrewAt W' on es gm l := by
  have hlow := h.low
  refine ⟨?_, fun e he => (h.ok e he).keepQ fun b hu => hb b (by have := (h.ap e he b hu).1; omega), h.map.keepN (hb gm (by omega))⟩
  have ho := own_blk (W' := W') h.own fun g _ _ hg => hb g (by omega)
  have e1 := nx_flat es
  have e2 : (es.map fun e => [e.v]).length = es.length := by simp
  rw [← e1, ← e2] at ho
  intro hne
  obtain ⟨oa, cap, hv, hs⟩ := own_rows (fun r hr => by obtain ⟨e, _, rfl⟩ := List.mem_map.1 hr; rfl) ho
  injection hv with hv _ _
  rw [hv]
  exact hs hne
theorem clOf_step {cs : List Cf} {k : Nat} {c : Cf} (h : cs[k]? = some c) : clOf (cs.take (k + 1)) = putC (clOf (cs.take k)) c := by
  unfold clOf
  rw [List.take_add_one, h]
  simp

/-- The blocks of a crew. -/
def crewUses (on : Option Addr) (es : List NxE) (gm b : Nat) : Prop := (es ≠ [] ∧ ∃ off s, on = some ⟨b, off, s⟩) ∨ b = gm ∨ ∃ e ∈ es, e.uses b
theorem XR.usesLow {w : World} {nx gm : Nat} {l : List ((Mv × Mv) × Value)} {es : List NxE} {on : Option Addr} {cn : Nat} {W : World} (h : XR w nx gm l es (.slice on es.length cn) W) : ∀ b, crewUses on es gm b → w.heap.size ≤ b := by
  have hlow := h.low
  rintro b (⟨_, off, s, ho⟩ | rfl | ⟨e, he, hb⟩)
  · have := (own_lt h.own b (by rw [ho]; rfl)).2
    omega
  · exact hlow.1
  · have := (h.ap e he b hb).1
    omega
/-- What newCrew answers. -/
def CrewE (T : Tm) (w : World) (e : Ending) (W : World) : Prop := ∃ (es : List NxE) (on : Option Addr) (cn gm : Nat), e = .returned (.agg #[.slice on es.length cn, .map (some gm)]) ∧ CrewAt W on es gm (clOf T.cs) ∧ es.map NxE.ls = T.ms.map nextOf ∧ Below w.heap.size w W ∧ ∀ b, crewUses on es gm b → w.heap.size ≤ b

theorem made_nil (n : Nat) : madeCells #[Value.slice none 0 0] n = Array.replicate n (Value.slice none 0 0) := by
  apply Array.ext
  · simp [madeCells]
  · intro i h1 h2
    simp [madeCells, Nat.mod_one]
theorem run_make30 (n : Nat) (hn : n ≤ 1000) (u : World) : (Instr.makeSlice 30 (.int .i64 (n : Nat)) (.int .i64 (n : Nat))).run Try.prog u = .ok (.slice (some ⟨u.heap.size, 0, none⟩) n n) (u.alloc (.cells (Array.replicate n (Value.slice none 0 0)) 22)) := by
  obtain ⟨i, hi, hz, hs, hb⟩ := info_parts info22
  have := run_makeSlice (P := Try.prog) u 30 22 i (.slice none 0 0) under30 hi hz .i64 .i64 n n (by omega) (Int.le_refl _) (by rw [hs]; simp; omega) (by rw [hb]; simp; omega) (by omega)
  rw [hs] at this
  simp only [Int.toNat_natCast, Nat.mul_one] at this
  have hc : madeCells (Value.slice none 0 0).cells n = Array.replicate n (Value.slice none 0 0) := made_nil n
  rw [this, hc]
end Go.Proofs.Jn
end

