/-
  Texts put together: To Tx Tp.
-/
import Derived.Test.YthcmkpcefiiiaaaGreatDoorZFormatCanonicalCard21
import Derived.Test.YthcmkpcefiiiaaaGreatDoorZFormatCanonicalCard6
set_option linter.unusedVariables false
section
/-
 Walks: signed numbers and the box that is made.
-/
namespace Go.Proofs.Ng
open Go.RowKit
set_option maxRecDepth 100000 in
set_option maxHeartbeats 4000000 in
theorem signed62 {n2 nS cap : Nat} {os : Option Addr} {xs : List Int} {W : World} (h : SrS n2 nS os cap xs W) :
  Calls Tryz.prog 62 #[.pointer (some ⟨nS, 0, none⟩), .int .i64 40] W (fun e W' => ∃ r : Int, -40 ≤ r ∧ r ≤ 40 ∧ e = .returned (.int .i64 r) ∧ W.grownBy W' (some nS) ∧ SrS n2 nS os cap xs W') := by
 have H := Lib.hid (next20 81 h (by decide) (by decide))
 clear h
 go_enter Tryz.func62, Tryz.ntmps62
 go_wp2_with fail
 refine H.out.mono ?_
 rintro e W1 ⟨r, hr, rfl, hg, hs⟩
 have HG := Lib.hid hg
 have HS := Lib.hid hs
 clear hg hs
 go_wp2
 go_ret
 exact ⟨(r : Int) - 40, by omega, by omega, by first | rfl | simp, HG.out, HS.out⟩
def MkBox (b : Fm.BoxD) : Prop := ∀ a ∈ b, -40 ≤ a.1 ∧ a.1 ≤ a.2 ∧ a.2 ≤ 100
theorem ivs_app (b : Fm.BoxD) (a : Int × Int) : (ivs (b ++ [a])).flatten = (ivs b).flatten ++ [.int .i64 a.1, .int .i64 a.2] := by simp [ivs, iv2]
theorem mkBox_valid {b : Fm.BoxD} (h : MkBox b) : b.all Fm.validI = true := by
 rw [List.all_eq_true]
 intro a ha
 have := h a ha
 exact decide_eq_true (by omega)
set_option maxRecDepth 100000 in
set_option maxHeartbeats 8000000 in
theorem root36 {n2 nS cap : Nat} {os : Option Addr} {xs : List Int} {W : World} (h : SrS n2 nS os cap xs W) (hn2 : n2 ≤ W.heap.size) :
  Calls Tryz.prog 36 #[.pointer (some ⟨nS, 0, none⟩)] W (fun e W' => ∃ oa cp b, e = .returned (.slice oa b.length cp) ∧ 1 ≤ b.length ∧ b.length ≤ 3 ∧ MkBox b ∧ New W.heap.size W' (fun X => Sl X oa 2 (ivs b)) ∧ W.grownBy W' (some nS) ∧ SrS n2 nS os cap xs W') := by
 have H := Lib.hid (next20 3 h (by decide) (by decide))
 have hnS := src_lt h.src
 clear h
 go_enter Tryz.func36, Tryz.ntmps36
 go_wp2_with fail
 refine H.out.mono ?_
 rintro e W1 ⟨r, hr, rfl, hg, hs⟩
 have HG := Lib.hid hg
 have HS := Lib.hid hs
 clear hg hs H
 obtain ⟨n, hn⟩ : ∃ n : Nat, n = 1 + r := ⟨_, rfl⟩
 have hn1 : (1 : Int) + (r : Int) = (n : Nat) := by omega
 have hnl : 1 ≤ n ∧ n ≤ 3 := by omega
 clear hn
 go_wp2_with fail
 go_loopw [3, 4] (fun v i X => ∃ (k : Nat) (b : Fm.BoxD), k ≤ n ∧ i = .int .i64 (k : Nat) ∧ b.length + k = n ∧ MkBox b ∧ X.ownsRow W.heap.size 79 2 v b.length (ivs b).flatten ∧ SrS n2 nS os cap xs X ∧ W.grownBy X (some nS)) (fun _ i _ => (intOf i).toNat)
 case atStart => exact ⟨n, [], Nat.le_refl _, rfl, by simp, nofun, World.ownsRow_nil _ _ _ _, HS.out, HG.out⟩
 case round =>
  obtain ⟨k, b, hk, rfl, hbl, hmk, hO, hS, hG⟩ := hrel
  by_cases hlt : 0 < k
  ·have hd : decide ((0 : Int) < (k : Int)) = true := decide_eq_true (by omega)
   have HC := Lib.hid (signed62 hS)
   have HMK := Lib.hid hmk
   have HO := Lib.hid hO
   have HG2 := Lib.hid hG
   have HBL := Lib.hid hbl
   clear hmk hO hS hG hbl
   go_wp2_with fail
   refine HC.out.mono ?_
   clear HC hd
   rintro e Wa ⟨lo, hlo1, hlo2, rfl, hg, hs⟩
   have HC := Lib.hid (next20 60 hs (by decide) (by decide))
   have ho2 := own_blk (W' := Wa) HO.out fun g _ hl hb => hg.block g hl (by intro e; injection e with e; omega)
   have HO2 := Lib.hid ho2
   have HG3 := Lib.hid (grown_trans HG2.out hg)
   clear ho2 hg hs HO HG2
   go_wp2_with fail
   refine HC.out.mono ?_
   clear HC
   rintro e Wb ⟨q, hq, rfl, hg, hs⟩
   have ho2 := own_blk (W' := Wb) HO2.out fun g _ hl hb => hg.block g hl (by intro e; injection e with e; omega)
   have hb2 : Below Wb.heap.size Wb (Wb.alloc (.cells #[.int .i64 lo, .int .i64 (lo + (q : Nat))] 79)) := (Below.refl _ _).alloc (Nat.le_refl _) _
   have HO3 := Lib.hid (own_keep ho2 hb2)
   have HG4 := Lib.hid (grown_call (grown_trans HG3.out hg) hb2)
   have HS2 := Lib.hid (hs.keep hb2 (by have := HG3.out.size; have := hg.size; omega))
   have hsz : W.heap.size ≤ (Wb.alloc (.cells #[.int .i64 lo, .int .i64 (lo + (q : Nat))] 79)).heap.size := HG4.out.size
   obtain ⟨i0, hi, hz0, hz1, hz2⟩ := info_parts info79
   have hbl2 : b.length ≤ 3 := by have := HBL.out; omega
   clear hg hs ho2 hb2 HO2 HG3
   go_wp2_with (at_builtin; refine wpList_append_own _ rfl _ _ 33 rfl W.heap.size 79 i0 (.agg #[.int .i64 0, .int .i64 0]) 2 16 under33 hi hz0 hz1 hz2 rfl (by decide) _ _ _ rfl HO3.out ⟨Wb.heap.size, 0, none⟩ 1 1 [.int .i64 lo, .int .i64 (lo + (q : Nat))] rfl rfl ?c1 ?c2 ?c3 ?c4 ?c5 ?_)
   case c1 => exact new_cells _ _ _
   case c2 =>
    intro u hu
    simp at hu
    rcases hu with hu | hu <;> subst hu <;> rfl
   case c3 => unfold maxLen; omega
   case c4 => omega
   case c5 => exact hsz
   intro v' w' hown' hgrow _
   have hbw := grown_below HO3.out hgrow hsz
   have HO4 : Hid (w'.ownsRow W.heap.size 79 2 v' (b ++ [(lo, lo + (q : Nat))]).length (ivs (b ++ [(lo, lo + (q : Nat))])).flatten) := Lib.hid (by rw [ivs_app, List.length_append]; exact hown')
   have HG5 := Lib.hid (grown_low2 HG4.out hbw (Nat.le_refl _))
   have HS3 := Lib.hid (HS2.out.keepA hbw (by omega) (by omega))
   clear hown' hgrow hbw HO3 HG4 HS2 hsz hi hz0 hz1 hz2
   go_wp2_with fail
   go_roundw
   case rel =>
    refine ⟨k - 1, b ++ [(lo, lo + (q : Nat))], by omega, by rw [show ((k - 1 : Nat) : Int) = (k : Int) - 1 by omega], ?_, ?_, HO4.out, HS3.out, HG5.out⟩
    ·have := HBL.out
     rw [List.length_append]
     simp
     omega
    ·intro a ha
     rw [List.mem_append, List.mem_singleton] at ha
     rcases ha with ha | rfl
     ·exact HMK.out a ha
     ·exact ⟨hlo1, by simp only; omega, by simp only; omega⟩
   case measure => simp [intOf]; omega
  ·have hke : k = 0 := by omega
   subst hke
   have hbn : b.length = n := by omega
   have hd : decide ((0 : Int) < ((0 : Nat) : Int)) = false := by decide
   obtain ⟨g, c, rfl⟩ := own_some hO (by omega)
   have hN := own_ivs hO rfl (Nat.le_refl W.heap.size)
   have HN := Lib.hid hN
   have HSF := Lib.hid hS
   have HGF := Lib.hid hG
   clear hO hS hG hN
   go_wp2
   go_ret
   exact ⟨_, _, b, rfl, by omega, by omega, hmk, HN.out, HGF.out, HSF.out⟩
end Go.Proofs.Ng
end

section
/-
 A region that draws its order, where some edges bind one order alone.
-/
namespace Go.Proofs.Ng
open Go.RowKit
/-- The operations wait for earlier ones only, but for edges that bind one order alone. -/
def ordOk2 (ops : Array Oper) : Bool := (List.range ops.size).all fun i => match ops[i]? with
 | some o => o.after.all fun e => decide (e.on < i) || !Region.binds .any e
 | none => true
theorem wpAny_inv2 {P : Program} {ops : Array Oper} {Q : Exit → Act → World → Prop} (hord : ordOk2 ops = true) (J : (Nat → Bool) → Act → World → Prop)
  (hstep : ∀ (i : Nat) (o : Oper), ops[i]? = some o → ∀ (L : Nat → Bool) (a : Act) (w : World), L i = false → (∀ e ∈ o.after, Region.binds .any e = true → L e.on = true) → J L a w → wpOp P ops Q i (J (upL' L i)) a w)
  (hend : ∀ (L : Nat → Bool) (a : Act) (w : World), (∀ k, k < ops.size → L k = true) → J L a w → Q .normal a w) :
  ∀ (fuel : Nat) (listed : Array Bool) (a : Act) (w : World), listed.size = ops.size → (List.range ops.size).countP (fun k => !Lof listed k) ≤ fuel → J (Lof listed) a w → wpAny P .any ops Q fuel listed a w := by
 have hall : ∀ (listed : Array Bool), listed.size = ops.size → Region.ready .any ops listed = [] → ∀ k, k < ops.size → Lof listed k = true := by
  intro listed hs hr k
  induction k using Nat.strongRecOn with
  | _ k ih =>
   intro hk
   by_cases e : Lof listed k = true
   ·exact e
   ·exfalso
    have hm : k ∈ Region.ready .any ops listed := by
     unfold Region.ready
     rw [List.mem_filter]
     refine ⟨List.mem_range.2 hk, ?_⟩
     have hkl : k < listed.size := by omega
     have h1 : listed.getD k true = false := by
      have : listed.getD k false = false := by simpa [Lof] using e
      simp [Array.getD, hkl] at this ⊢
      exact this
     have ho : ops[k]? = some ops[k] := Array.getElem?_eq_getElem hk
     rw [h1, ho]
     simp only [Bool.not_false, Bool.true_and, Option.map_some, Option.getD_some]
     rw [Array.all_eq_true_iff_forall_mem]
     intro x hx
     cases hbd : Region.binds .any x with
     | false => simp
     | true =>
      have hlt : x.on < k := by
       unfold ordOk2 at hord
       rw [List.all_eq_true] at hord
       have := hord k (List.mem_range.2 hk)
       rw [ho] at this
       simp only at this
       rw [Array.all_eq_true_iff_forall_mem] at this
       have := this x hx
       rw [hbd, Bool.not_true, Bool.or_false] at this
       exact of_decide_eq_true this
      have := ih x.on hlt (by omega)
      unfold Lof at this
      rw [this]; simp
    rw [hr] at hm; cases hm
 intro fuel
 induction fuel with
 | zero =>
  intro listed a w hs hc hJ
  have hl : ∀ k, k < ops.size → Lof listed k = true := fun k hk => by
   have h0 : (List.range ops.size).countP (fun k => !Lof listed k) = 0 := by omega
   rw [List.countP_eq_zero] at h0
   have := h0 k (List.mem_range.2 hk)
   simpa using this
  refine ⟨?_, hend _ a w hl hJ⟩
  unfold Region.ready
  rw [List.filter_eq_nil_iff]
  intro k hk
  have hk := List.mem_range.1 hk
  have hkl : k < listed.size := by omega
  have := hl k hk
  simp [Lof, Array.getD, hkl] at this
  simp [hkl, this]
 | succ fuel ih =>
  intro listed a w hs hc hJ
  refine ⟨fun hr => hend _ a w (hall listed hs hr) hJ, fun i hi => ?_⟩
  unfold Region.ready at hi
  rw [List.mem_filter] at hi
  obtain ⟨hi1, hi2⟩ := hi
  have hil := List.mem_range.1 hi1
  have ho : ops[i]? = some ops[i] := Array.getElem?_eq_getElem hil
  rw [ho, Bool.and_eq_true] at hi2
  obtain ⟨hu, hd⟩ := hi2
  simp only [Option.map_some, Option.getD_some] at hd
  rw [Array.all_eq_true_iff_forall_mem] at hd
  have hkl : i < listed.size := by omega
  have hset : Lof (listed.setIfInBounds i true) = upL' (Lof listed) i := by
   funext k
   unfold Lof upL'
   by_cases e : k = i
   ·subst e; simp [Array.getD, hkl]
   ·have : Nat.beq k i = false := by
     cases h : Nat.beq k i with
     | true => exact absurd (Nat.eq_of_beq_eq_true h) e
     | false => rfl
    rw [this, Bool.false_or]
    simp only [Array.getD, Array.size_setIfInBounds]
    split
    ·rename_i hk
     exact Array.getElem_setIfInBounds_ne _ (Ne.symm e)
    ·rfl
  refine wpOp_mono (fun a' w' h => ?_) (hstep i _ ho (Lof listed) a w (by
   simp [Array.getD, hkl] at hu
   simp [Lof, Array.getD, hkl, hu]) (fun e he hb => by
   have := hd e he
   rw [hb] at this
   simpa [Lof] using this) hJ)
  rw [← hset] at h
  refine ih _ a' w' (by simpa using hs) ?_ h
  have hlt := countP_lt (l := List.range ops.size) (p := fun k => !Lof listed k) (q := fun k => !Lof (listed.setIfInBounds i true) k) (fun k _ hk => by
   simp only [Bool.not_eq_true'] at hk ⊢
   rw [hset] at hk
   simp only [upL', Bool.or_eq_false_iff] at hk
   exact hk.2) hi1 (by
   simp only [Bool.not_eq_true'] at hu ⊢
   simp [Array.getD, hkl] at hu
   simp [Lof, Array.getD, hkl, hu]) (by
   simp [Lof, Array.getD, hkl])
  omega
theorem wp_region_inv2 {P : Program} {ops : Array Oper} {Q : Exit → Act → World → Prop} {id : Nat} {a : Act} {w : World} (hm : P.follows .mixedOrders = true) (hord : ordOk2 ops = true) (J : (Nat → Bool) → Act → World → Prop) (h0 : J (fun _ => false) a w.drew)
  (hstep : ∀ (i : Nat) (o : Oper), ops[i]? = some o → ∀ (L : Nat → Bool) (a : Act) (w : World), L i = false → (∀ e ∈ o.after, Region.binds .any e = true → L e.on = true) → J L a w → wpOp P ops Q i (J (upL' L i)) a w)
  (hend : ∀ (L : Nat → Bool) (a : Act) (w : World), (∀ k, k < ops.size → L k = true) → J L a w → Q .normal a w) : (Code.region id ops true).wp P Q a w := by
 refine wp_region_any hm (wpAny_inv2 hord J hstep hend ops.size _ a _ (by simp) ?_ ?_)
 ·refine Nat.le_trans (List.countP_le_length) (by simp)
 ·have : Lof (Array.replicate ops.size false) = fun _ => false := by
   funext k
   simp [Lof, Array.getD]
  rw [this]
  exact h0
end Go.Proofs.Ng
end

section
/-
 Walks: leaves are split and settled. Printed by gen_tp.py.
-/
namespace Go.Proofs.Ng
open Go.RowKit
/-- A tree that is made. -/
structure MkCl (c : Fm.CellD) : Prop where
 j : -1 ≤ c.joint ∧ c.joint ≤ 10
 l : -1 ≤ c.low ∧ c.low ≤ 3000
 h : -1 ≤ c.high ∧ c.high ≤ 3000
 v : MkVd c.verd
 lf : Fm.leafB c = false → 0 ≤ c.joint
structure MkT (t : Fm.TreeD) : Prop where
 val : Fm.validT t = true
 rl : t.root.length ≤ 3
 rb : MkBox t.root
 cl : ∀ c ∈ t.cells, MkCl c
theorem mkVd_zero : MkVd Fm.zeroV := ⟨by decide, rfl, by decide, by decide, by decide, nofun, nofun, nofun, by decide, by decide⟩
theorem MkT.split {t : Fm.TreeD} {i j : Nat} (h : MkT t) (hj : j ≤ 10) (hv : Fm.validT (Fm.splitT t i (j : Nat)) = true) (hn : t.cells.length ≤ 1000) : MkT (Fm.splitT t i (j : Nat)) := by
 refine ⟨hv, ?_, ?_, ?_⟩
 ·unfold Fm.splitT; split <;> exact h.rl
 ·unfold Fm.splitT; split <;> exact h.rb
 ·unfold Fm.splitT
  split
  ·rename_i c hc
   intro x hx
   simp only [List.mem_append, List.mem_cons, List.not_mem_nil, or_false] at hx
   rcases hx with hx | hx | hx
   ·rcases List.mem_or_eq_of_mem_set hx with hx | rfl
    ·exact h.cl x hx
    ·exact ⟨⟨by simp only; omega, by simp only; omega⟩, ⟨by simp only; omega, by simp only; omega⟩, ⟨by simp only; omega, by simp only; omega⟩, mkVd_zero, fun _ => by simp only; omega⟩
   ·rw [hx]; exact h.cl c (List.mem_of_getElem? hc)
   ·rw [hx]; exact h.cl c (List.mem_of_getElem? hc)
  ·exact h.cl
theorem MkT.settle {t : Fm.TreeD} {i : Nat} {u : Fm.VerdD} (h : MkT t) (hu : MkVd u) (hv : Fm.validT (Fm.settleT t i u) = true) : MkT (Fm.settleT t i u) := by
 refine ⟨hv, ?_, ?_, ?_⟩
 ·unfold Fm.settleT; split <;> exact h.rl
 ·unfold Fm.settleT; split <;> exact h.rb
 ·unfold Fm.settleT
  split
  ·rename_i c hc
   intro x hx
   rcases List.mem_or_eq_of_mem_set hx with hx | rfl
   ·exact h.cl x hx
   ·have := h.cl c (List.mem_of_getElem? hc)
    exact ⟨this.j, this.l, this.h, hu, this.lf⟩
  ·exact h.cl
theorem split_root (t : Fm.TreeD) (i : Nat) (j : Int) : (Fm.splitT t i j).root = t.root := by unfold Fm.splitT; split <;> rfl
theorem settle_root (t : Fm.TreeD) (i : Nat) (u : Fm.VerdD) : (Fm.settleT t i u).root = t.root := by unfold Fm.settleT; split <;> rfl
theorem split_len (t : Fm.TreeD) (i : Nat) (j : Int) : (Fm.splitT t i j).cells.length ≤ t.cells.length + 2 := by unfold Fm.splitT; split <;> simp
theorem settle_len (t : Fm.TreeD) (i : Nat) (u : Fm.VerdD) : (Fm.settleT t i u).cells.length = t.cells.length := by unfold Fm.settleT; split <;> simp
theorem settle_leaf {t : Fm.TreeD} {ls : List Int} (h : LeafIx t ls) (i : Nat) (u : Fm.VerdD) : LeafIx (Fm.settleT t i u) ls := by
 intro x hx
 obtain ⟨k, c, rfl, hc, hl⟩ := h x hx
 unfold Fm.settleT
 split
 ·rename_i d hd
  by_cases e : i = k
  ·subst e
   rw [hc] at hd
   injection hd with hd
   subst hd
   exact ⟨i, { c with verd := u }, rfl, List.getElem?_set_self (List.getElem?_eq_some_iff.1 hc).1, hl⟩
  ·exact ⟨k, c, rfl, by rw [List.getElem?_set_ne e]; exact hc, hl⟩
 ·exact ⟨k, c, rfl, hc, hl⟩
theorem Fp.freshL {E L : List Nat} {W X : World} {Q : World → Prop} (h : Fp (Sx E W) W Q) (hb : Below W.heap.size W X) (hn : ∀ n ∈ L, W.heap.size ≤ n) : Fp (Sx (L ++ E) X) X Q :=
 fun Y hY => h Y fun k hk => (hY k ⟨fun hm => by
  rcases List.mem_append.1 hm with e | e
  ·have := hk.2; have := hn k e; omega
  ·exact hk.1 e, Nat.lt_of_lt_of_le hk.2 hb.size⟩).trans (hb.block k hk.2)
theorem srs_new {w0 w : World} {os : Option Addr} {cap : Nat} {xs : List Int} (hw : Below w0.heap.size w0 w) (hI : Sl w0 os 1 (pvals xs)) (hl : xs.length ≤ 9223372036854775807) :
  SrS w0.heap.size w.heap.size os cap xs (w.alloc (.cells #[.slice os xs.length cap, .int .i64 0] 115)) :=
 ⟨src_new w os cap xs (hI.keep hw) hl, fun a ha hne => by
  subst ha
  obtain ⟨b, off, e, hr⟩ := hI (by simpa [pvals] using hne)
  injection e with e
  subst e
  exact hr.lt⟩
theorem fp_next {E : List Nat} {nS : Nat} {W X : World} {Q : World → Prop} (h : Fp (Sx E W) W Q) (hE : nS ∈ E) (hg : W.grownBy X (some nS)) : Fp (Sx E X) X Q := h.sx hg.size fun k h1 hk => hg.block k hk (fun e => h1 (by rw [show k = nS from by first | exact Option.some.inj e | exact (Option.some.inj e).symm]; exact hE))
theorem fp_put {E : List Nat} {n i : Nat} {W : World} {u : Value} {Q : World → Prop} (h : Fp (Sx E W) W Q) (hE : n ∈ E) : Fp (Sx E (W.setCell ⟨n, i, none⟩ u)) (W.setCell ⟨n, i, none⟩ u) Q := h.sx (by simp [World.setCell]) fun k h1 _ => Below.heap_setCell W ⟨n, i, none⟩ u k (fun e => h1 (by rw [show k = n from e]; exact hE))
/-- The lists of leaves, one by one. -/
theorem leaf_at {W : World} {oa : Option Addr} {ls : List Int} {k : Nat} {x : Int} (h : Sl W oa 1 (pvals ls)) (hk : ls[k]? = some x) : ∃ g off, oa = some ⟨g, off, none⟩ ∧ g < W.heap.size ∧ W.cell? ⟨g, off + k, none⟩ = some (.int .i64 x) := by
 obtain ⟨g, off, e, hr⟩ := h (pvals_ne (List.getElem?_eq_some_iff.1 hk).1)
 refine ⟨g, off, e, hr.lt, ?_⟩
 have := hr.c k [.int .i64 x] (by simp [pvals, hk]) 0 _ rfl
 rw [show k * 1 + 0 = k by omega] at this
 exact this
structure Dv7K (E2 : List Nat) (n2 nS n3 n6 cap J N c1 c2 i : Nat) (os o1 o2 : Option Addr) (xs : List Int) (t : Fm.TreeD) (rows : List (List Value)) (w0 : World) (L : Nat → Bool) (v30 v31 v32 v33 v34 v35 v36 v37 v29 v38 v39 : Value) (w : World) : Prop where
 wf : SrS n2 nS os cap xs w ∧ (L 11 = false → Bx w n3 [.slice o1 J c1, .slice o2 N c2] 36) ∧ Bx w n6 [.slice none 0 0, .slice none 0 0] 36 ∧ (L 7 = false → FT E2 w (.agg #[.slice o1 J c1, .slice o2 N c2]) t rows) ∧ Below n2 w0 w ∧ nS < w.heap.size
 f0 : L 0 = true → v30 = .agg #[.slice o1 J c1, .slice o2 N c2]
 f1 : L 1 = true → v31 = .int .i64 ((i : Nat) : Int)
 f2 : L 2 = true → v32 = .pointer (some ⟨nS, 0, none⟩)
 f3 : L 3 = true → v33 = .pointer (some ⟨n3, 0, none⟩)
 f4 : L 4 = true → v34 = .slice o1 J c1
 f5 : L 5 = true → v35 = .int .i64 ((J : Nat) : Int)
 f6 : L 6 = true → ∃ q : Nat, q < J ∧ v36 = .int .i64 ((q : Nat) : Int)
 f7 : L 7 = true → L 6 = true ∧ ∃ v' ok t' rows', v37 = .tuple #[v', .bool ok] ∧ FT E2 w v' t' rows' ∧ MkT t' ∧ t'.root.length = J ∧ t'.cells.length ≤ N + 2
 f8 : L 8 = true → L 7 = true ∧ v29 = v37
 f9 : L 9 = true → L 8 = true ∧ ∀ v' ok, v37 = .tuple #[v', .bool ok] → v38 = v'
 f10 : L 10 = true → L 8 = true
 f11 : L 11 = true → L 0 = true ∧ L 4 = true ∧ L 7 = true ∧ ∃ (q1 q2 : Option Addr) (d1 M d2 : Nat) (t' : Fm.TreeD) (rows' : List (List Value)), FT E2 w (.agg #[.slice q1 J d1, .slice q2 M d2]) t' rows' ∧ LenIs t' J M ∧ MkT t' ∧ M ≤ N + 2 ∧ Bx w n3 [.slice q1 J d1, .slice q2 M d2] 36
structure Dv12K (E2 : List Nat) (n2 nS n3 n6 cap J N d1 d2 i m g4 off4 cap3 : Nat) (os p1 p2 : Option Addr) (xs ls : List Int) (t : Fm.TreeD) (rows : List (List Value)) (w0 : World) (L : Nat → Bool) (v49 v50 v51 v52 v53 v54 v55 v56 v57 v48 v58 v59 : Value) (w : World) : Prop where
 wf : SrS n2 nS os cap xs w ∧ (L 12 = false → Bx w n3 [.slice p1 J d1, .slice p2 N d2] 36) ∧ Bx w n6 [.slice none 0 0, .slice none 0 0] 36 ∧ (L 8 = false → FT E2 w (.agg #[.slice p1 J d1, .slice p2 N d2]) t rows) ∧ Below n2 w0 w ∧ nS < w.heap.size ∧ Fp (Sx E2 w) w (fun X => Sl X (some ⟨g4, off4, none⟩) 1 (pvals ls))
 f0 : L 0 = true → v49 = .agg #[.slice p1 J d1, .slice p2 N d2]
 f1 : L 1 = true → v50 = .slice (some ⟨g4, off4, none⟩) ls.length cap3
 f2 : L 2 = true → v51 = .int .i64 ((m : Nat) : Int)
 f3 : L 3 = true → v52 = .pointer (some ⟨g4, off4 + m, none⟩)
 f4 : L 4 = true → v53 = .int .i64 ((i : Nat) : Int)
 f5 : L 5 = true → v54 = .pointer (some ⟨nS, 0, none⟩)
 f6 : L 6 = true → ∃ q : Nat, q < 5 ∧ v55 = .int .i64 ((q : Nat) : Int)
 f7 : L 7 = true → L 6 = true ∧ ∃ (u : Fm.VerdD) (un ul ur : Option Addr) (un2 ul2 ur2 : Nat), v56 = .agg #[.int .i64 u.kind, .slice un u.normals.length un2, .int .i64 u.pair, .slice ul u.left.length ul2, .slice ur u.right.length ur2] ∧ MkVd u ∧ (L 8 = false → Fp (Sx E2 w) w (fun X => VerdAt X u un ul ur))
 f8 : L 8 = true → L 7 = true ∧ ∃ v' ok t' rows', v57 = .tuple #[v', .bool ok] ∧ FT E2 w v' t' rows' ∧ LenIs t' J N ∧ MkT t' ∧ LeafIx t' ls
 f9 : L 9 = true → L 8 = true ∧ v48 = v57
 f10 : L 10 = true → L 9 = true ∧ ∀ v' ok, v57 = .tuple #[v', .bool ok] → v58 = v'
 f11 : L 11 = true → L 9 = true
 f12 : L 12 = true → L 0 = true ∧ L 8 = true ∧ ∃ (q1 q2 : Option Addr) (e1 e2 : Nat) (t' : Fm.TreeD) (rows' : List (List Value)), FT E2 w (.agg #[.slice q1 J e1, .slice q2 N e2]) t' rows' ∧ LenIs t' J N ∧ MkT t' ∧ LeafIx t' ls ∧ Bx w n3 [.slice q1 J e1, .slice q2 N e2] 36
set_option maxRecDepth 100000 in
set_option maxHeartbeats 16000000 in
theorem divide37 (E : List Nat) (w0 : World) (v : Value) (t : Fm.TreeD) (rows : List (List Value)) (times : Nat) (os : Option Addr) (cap : Nat) (xs : List Int) (h : FT E w0 v t rows) (hE : ∀ k ∈ E, k < w0.heap.size) (hm : MkT t) (hc1 : t.cells.length ≤ 1) (ht : times ≤ 13) (hI : Sl w0 os 1 (pvals xs)) (hl : xs.length ≤ 9223372036854775807) :
  Calls Tryz.prog 37 #[v, .slice os xs.length cap, .int .i64 (times : Nat)] w0 (fun e W => ∃ v' t' rows', e = .returned v' ∧ FT E W v' t' rows' ∧ MkT t' ∧ t'.cells.length ≤ 27 ∧ Below w0.heap.size w0 W) := by
 have hJ0 := (Fm.size_un (Fm.valid_un hm.val).1).1
 obtain ⟨or, cr, oc, cc, rfl, -, -⟩ := h.form
 have HFT := Lib.hid h
 have HE := Lib.hid hE
 have HMT := Lib.hid hm
 have HSR := Lib.hid (fun W1 hb => srs_new (w0 := w0) (w := W1) (cap := cap) hb hI hl)
 have HF := Lib.hid (fun V => from_any os cap xs.length V)
 have HC1 := Lib.hid hc1
 obtain ⟨J, hJ⟩ : ∃ J, J = t.root.length := ⟨_, rfl⟩
 have HJ0 : Hid (1 ≤ J ∧ J ≤ 3) := Lib.hid (by rw [hJ]; exact ⟨hJ0, hm.rl⟩)
 have HJT : LenIs t J t.cells.length := ⟨hJ.symm, rfl⟩
 clear h hE hm hI hl hc1 hJ0
 rw [← hJ]
 generalize t.cells.length = N0 at HJT HC1 ⊢
 clear hJ
 go_enter Tryz.func37, Tryz.ntmps37
 go_wp2_with fail
 obtain ⟨n3, n6, e3, e6, hx3, hx6, hb1⟩ := news2 w0 [.slice or J cr, .slice oc N0 cc] [.slice none 0 0, .slice none 0 0] 36 36
 rw [← e6, ← e3]
 generalize (w0.alloc (.cells [.slice or J cr, .slice oc N0 cc].toArray 36)).alloc (.cells [.slice none 0 0, .slice none 0 0].toArray 36) = W1 at hx3 hx6 hb1 ⊢
 refine (HF.out W1).mono ?_
 rintro e W2 ⟨rfl, rfl⟩
 have hS := HSR.out W1 hb1
 have hb2 : Below W1.heap.size W1 (W1.alloc (.cells #[.slice os xs.length cap, .int .i64 0] 115)) := (Below.refl _ _).alloc (Nat.le_refl _) _
 have HX3 := Lib.hid (hx3.keep hb2)
 have HX6 := Lib.hid (hx6.keep hb2)
 have HB := Lib.hid (below_call hb1 hb2)
 have l3 := hx3.lt
 have l6 := hx6.lt
 have hs1 := hb1.size
 obtain ⟨nS, hnS⟩ : ∃ n, n = W1.heap.size := ⟨_, rfl⟩
 obtain ⟨n2, hn2⟩ : ∃ n, n = w0.heap.size := ⟨_, rfl⟩
 have HS := Lib.hid hS
 have HZ : Hid (nS < (W1.alloc (.cells #[.slice os xs.length cap, .int .i64 0] 115)).heap.size) := Lib.hid (by rw [hnS]; simp)
 rw [← hnS] at HS ⊢
 generalize W1.alloc (.cells #[.slice os xs.length cap, .int .i64 0] 115) = W2 at HX3 HX6 HB HS HZ ⊢
 have HN : Hid (n2 ≤ n3 ∧ n2 ≤ n6 ∧ n2 ≤ nS ∧ n3 ≠ n6 ∧ n3 ≠ nS ∧ n6 ≠ nS ∧ n3 < nS ∧ n6 < nS) := Lib.hid (by omega)
 have HFT2 : Hid (∃ v rows, v = .agg #[.slice or J cr, .slice oc N0 cc] ∧ FT ([nS, n3, n6] ++ E) W2 v t rows) := Lib.hid (by
  refine ⟨_, rows, rfl, ?_⟩
  have := HFT.out.maps (E' := [nS, n3, n6] ++ E) (X := W2) fun q => q.freshL HB.out (fun n hn => by
   simp only [List.mem_cons, List.not_mem_nil, or_false] at hn
   rcases hn with rfl | rfl | rfl <;> omega)
  rw [HJT.a, HJT.b] at this
  exact this)
 have HE2 : Hid (∀ k ∈ [nS, n3, n6] ++ E, k ≤ nS) := Lib.hid (by
  intro k hk
  rw [List.mem_append] at hk
  rcases hk with hk | hk
  ·simp only [List.mem_cons, List.not_mem_nil, or_false] at hk
   rcases hk with rfl | rfl | rfl <;> omega
  ·have := HE.out k hk; omega)
 rw [← hn2] at HB HS
 clear hS hb1 hb2 hx3 hx6 e3 e6 l3 l6 hs1 hnS HSR HF HFT HE
 obtain ⟨E2, hE2⟩ : ∃ E2, E2 = [nS, n3, n6] ++ E := ⟨_, rfl⟩
 rw [← hE2] at HFT2 HE2
 have HEM : Hid (nS ∈ E2 ∧ n3 ∈ E2 ∧ n6 ∈ E2) := Lib.hid (by rw [hE2]; simp)
 have HEE := Lib.hid hE2
 have HN2 := Lib.hid hn2
 clear hE2 hn2
 go_wp2_with fail
 go_loopw [8] (fun i X => ∃ (k : Nat) (t : Fm.TreeD) (rows : List (List Value)) (o1 o2 : Option Addr) (c1 N c2 : Nat), k ≤ times ∧ i = .int .i64 (k : Nat) ∧ FT E2 X (.agg #[.slice o1 J c1, .slice o2 N c2]) t rows ∧ LenIs t J N ∧ MkT t ∧ N ≤ 1 + 2 * k ∧ Bx X n3 [.slice o1 J c1, .slice o2 N c2] 36 ∧ Bx X n6 [.slice none 0 0, .slice none 0 0] 36 ∧ SrS n2 nS os cap xs X ∧ Below n2 w0 X ∧ nS < X.heap.size) (fun i _ => times - (intOf i).toNat)
 case atStart =>
  obtain ⟨v, rows, rfl, hF⟩ := HFT2.out
  exact ⟨0, t, rows, or, oc, cr, N0, cc, Nat.zero_le _, rfl, hF, HJT, HMT.out, by have := HC1.out; omega, HX3.out, HX6.out, HS.out, HB.out, HZ.out⟩
 case round =>
  obtain ⟨kk, t, rows, o1, o2, c1, N, c2, hk, rfl, hF, hLen, hMk, hNk, hX3, hX6, hS, hB, hZ⟩ := hrel
  have y0 := hX3.c 0 _ rfl
  have y1 := hX3.c 1 _ rfl
  have ly := hX3.lt
  have HF := Lib.hid hF
  have HMK := Lib.hid hMk
  have HNK := Lib.hid hNk
  have HX3 := Lib.hid hX3
  have HX6 := Lib.hid hX6
  have HS := Lib.hid hS
  have HB := Lib.hid hB
  have HZ := Lib.hid hZ
  have HLV := Lib.hid (leaves63 wr _ t hF.at hMk.val)
  clear hF hMk hNk hX3 hX6 hS hB hZ
  by_cases hlt : kk < times
  ·have hd : decide ((kk : Int) < (times : Int)) = true := decide_eq_true (by omega)
   go_wp2_with fail
   refine HLV.out.mono ?_
   rintro e W3 ⟨oa, cap3, ls, rfl, hls1, hls2, hLx, hNw, hb3⟩
   clear hd HLV y0 y1 ly
   rw [hLen.b] at hls2
   have hzz := HZ.out
   have HLS := Lib.hid (hNw.sx (E := E2) (fun q hq => by have := HE2.out q hq; omega))
   have HF3 := Lib.hid (HF.out.keep hb3)
   have HX33 := Lib.hid (HX3.out.keep hb3)
   have HX63 := Lib.hid (HX6.out.keep hb3)
   have HS3 := Lib.hid (HS.out.keep hb3 (by have := HB.out.size; have := HN.out; omega))
   have HB3 := Lib.hid (HB.out.trans (hb3.mono (by have := HB.out.size; have := HN.out; omega)))
   have HZ3 : Hid (nS < W3.heap.size) := Lib.hid (by have := hb3.size; omega)
   have HLX := Lib.hid hLx
   have hN27 : N ≤ 27 := by have := HNK.out; omega
   clear HF HX3 HX6 HS HB HZ hNw hb3 hzz hLx
   have HC := Lib.hid (next20 (ls.length : Nat) HS3.out (by omega) (by omega))
   go_wp2_with fail
   refine HC.out.mono ?_
   rintro e W4 ⟨r, hr, rfl, hg, hs⟩
   obtain ⟨x, hx⟩ : ∃ x, ls[r]? = some x := ⟨_, List.getElem?_eq_getElem (by omega)⟩
   obtain ⟨i, c, rfl, hci, hlf⟩ := HLX.out x (List.mem_of_getElem? hx)
   have hLS4 := fp_next HLS.out HEM.out.1 hg
   obtain ⟨g4, off4, rfl, hg4, hcell⟩ := leaf_at hLS4.now hx
   have HF4 := Lib.hid (HF3.out.next HEM.out.1 hg)
   have HX34 := Lib.hid (HX33.out.grown hg HN.out.2.2.2.2.1)
   have HX64 := Lib.hid (HX63.out.grown hg HN.out.2.2.2.2.2.1)
   have HB4 := Lib.hid (grown_bel HB3.out hg HN.out.2.2.1 (by have := HB3.out.size; have := HN2.out; omega))
   have HZ4 : Hid (nS < W4.heap.size) := Lib.hid (by have := HZ3.out; have := hg.size; omega)
   have HS4 := Lib.hid hs
   have HCI := Lib.hid hci
   clear hg hs HC HLS HF3 HX33 HX63 HS3 HB3 HZ3 hLS4 hci hx HLX
   have hri : decide ((ls.length : Int) ≤ (r : Int)) = false := decide_eq_false (by omega)
   have hri2 : decide (ls.length ≤ r) = false := decide_eq_false (by omega)
   go_upto_region 7 with fail
   clear hri hri2 hcell
   have hD : Below W4.heap.size W4 W4.drew := (Below.refl _ _).drew
   refine wp_region_inv2 (by kernel_rfl) (by kernel_rfl) (fun L a w => ∃ v30 v31 v32 v33 v34 v35 v36 v37 v29 v38 v39 : Value, a = { tmps := #[((Value.agg #[Value.slice or J cr, Value.slice oc N0 cc])), ((Value.slice os xs.length cap)), ((Value.int IntKind.i64 ((times : Nat) : Int))), ((Value.pointer (some ⟨n3, 0, none⟩))), undef, undef, ((Value.pointer (some ⟨n6, 0, none⟩))), ((Value.pointer (some ⟨nS, 0, none⟩))), ((Value.int IntKind.i64 ((kk : Nat) : Int))), ((Value.slice (some ⟨g4, off4, none⟩) ls.length cap3)), ((Value.int IntKind.i64 ((i : Nat) : Int))), undef, undef, ((Value.slice os xs.length cap)), ((Value.pointer (some ⟨nS, 0, none⟩))), ((Value.int IntKind.i64 ((kk : Nat) : Int))), ((Value.int IntKind.i64 ((times : Nat) : Int))), ((Value.bool true)), u18, u19, ((Value.agg #[Value.slice o1 J c1, Value.slice o2 N c2])), ((Value.slice (some ⟨g4, off4, none⟩) ls.length cap3)), ((Value.slice (some ⟨g4, off4, none⟩) ls.length cap3)), ((Value.pointer (some ⟨nS, 0, none⟩))), ((Value.slice (some ⟨g4, off4, none⟩) ls.length cap3)), ((Value.int IntKind.i64 ((ls.length : Nat) : Int))), ((Value.int IntKind.i64 ((r : Nat) : Int))), ((Value.pointer (some ⟨g4, off4 + r, none⟩))), ((Value.int IntKind.i64 ((i : Nat) : Int))), v29, v30, v31, v32, v33, v34, v35, v36, v37, v38, v39, undef, undef, undef, undef, undef, undef, undef, undef, undef, undef, undef, undef, undef, undef, undef, undef, undef, undef, undef, undef, undef], defers := [] } ∧ Dv7K E2 n2 nS n3 n6 cap J N c1 c2 i os o1 o2 xs t rows w0 L v30 v31 v32 v33 v34 v35 v36 v37 v29 v38 v39 w) ?_ ?_ ?_
   ·exact ⟨_, _, _, _, _, _, _, _, _, _, _, rfl, ⟨⟨HS4.out.keep hD (by have := HB4.out.size; have := HN.out; have := HZ4.out; omega), fun _ => HX34.out.keep hD, HX64.out.keep hD, fun _ => HF4.out.keep hD, HB4.out.trans (hD.mono (by have := HN.out; have := HZ4.out; omega)), Nat.lt_of_lt_of_le HZ4.out hD.size⟩, nofun, nofun, nofun, nofun, nofun, nofun, nofun, nofun, nofun, nofun, nofun, nofun⟩⟩
   ·intro iq oq ho L a w hL hd hJ
    obtain ⟨v30, v31, v32, v33, v34, v35, v36, v37, v29, v38, v39, rfl, k⟩ := hJ
    have hiq : iq < 12 := by have := (Array.getElem?_eq_some_iff.1 ho).1; simpa using this
    match iq, hiq, ho, hL with
    | 0, _, ho, hL =>
     have ho2 := ho
     simp only [qz1, qz2, qz3, qz4] at ho
     subst ho
     refine wpOp_step ho2 (fun K hK => ?_)
     have h11 : L 11 = false := by
      cases h : L 11 with
      | false => rfl
      | true => exact absurd (hL.symm.trans (k.f11 h).1) (by decide)
     have hx := k.wf.2.1 h11
     have y0 := hx.c 0 _ rfl
     have y1 := hx.c 1 _ rfl
     have ly := hx.lt
     go_simp
     exact hK _ _ ⟨_, _, _, _, _, _, _, _, _, _, _, rfl, ⟨k.wf, fun _ => rfl, k.f1, k.f2, k.f3, k.f4, k.f5, k.f6, k.f7, k.f8, k.f9, k.f10, fun h => absurd (hL.symm.trans (k.f11 h).1) (by decide)⟩⟩
    | 1, _, ho, hL =>
     have ho2 := ho
     simp only [qz1, qz2, qz3, qz4] at ho
     subst ho
     refine wpOp_step ho2 (fun K hK => ?_)
     go_simp
     exact hK _ _ ⟨_, _, _, _, _, _, _, _, _, _, _, rfl, ⟨k.wf, k.f0, fun _ => rfl, k.f2, k.f3, k.f4, k.f5, k.f6, k.f7, k.f8, k.f9, k.f10, k.f11⟩⟩
    | 2, _, ho, hL =>
     have ho2 := ho
     simp only [qz1, qz2, qz3, qz4] at ho
     subst ho
     refine wpOp_step ho2 (fun K hK => ?_)
     go_simp
     exact hK _ _ ⟨_, _, _, _, _, _, _, _, _, _, _, rfl, ⟨k.wf, k.f0, k.f1, fun _ => rfl, k.f3, k.f4, k.f5, k.f6, k.f7, k.f8, k.f9, k.f10, k.f11⟩⟩
    | 3, _, ho, hL =>
     have ho2 := ho
     simp only [qz1, qz2, qz3, qz4] at ho
     subst ho
     refine wpOp_step ho2 (fun K hK => ?_)
     go_simp
     exact hK _ _ ⟨_, _, _, _, _, _, _, _, _, _, _, rfl, ⟨k.wf, k.f0, k.f1, k.f2, fun _ => rfl, k.f4, k.f5, k.f6, k.f7, k.f8, k.f9, k.f10, k.f11⟩⟩
    | 4, _, ho, hL =>
     have ho2 := ho
     simp only [qz1, qz2, qz3, qz4] at ho
     subst ho
     refine wpOp_step ho2 (fun K hK => ?_)
     obtain rfl := k.f3 (hd ⟨3, .data⟩ (by simp) rfl)
     have h11 : L 11 = false := by
      cases h : L 11 with
      | false => rfl
      | true => exact absurd (hL.symm.trans (k.f11 h).2.1) (by decide)
     have hx := k.wf.2.1 h11
     have y0 := hx.c 0 _ rfl
     have y1 := hx.c 1 _ rfl
     have ly := hx.lt
     go_simp
     exact hK _ _ ⟨_, _, _, _, _, _, _, _, _, _, _, rfl, ⟨k.wf, k.f0, k.f1, k.f2, k.f3, fun _ => rfl, k.f5, k.f6, k.f7, k.f8, k.f9, k.f10, fun h => absurd (hL.symm.trans (k.f11 h).2.1) (by decide)⟩⟩
    | 5, _, ho, hL =>
     have ho2 := ho
     simp only [qz1, qz2, qz3, qz4] at ho
     subst ho
     refine wpOp_step ho2 (fun K hK => ?_)
     obtain rfl := k.f4 (hd ⟨4, .data⟩ (by simp) rfl)
     go_simp
     exact hK _ _ ⟨_, _, _, _, _, _, _, _, _, _, _, rfl, ⟨k.wf, k.f0, k.f1, k.f2, k.f3, k.f4, fun _ => rfl, k.f6, k.f7, k.f8, k.f9, k.f10, k.f11⟩⟩
    | 6, _, ho, hL =>
     have ho2 := ho
     simp only [qz1, qz2, qz3, qz4] at ho
     subst ho
     refine wpOp_step ho2 (fun K hK => ?_)
     obtain rfl := k.f2 (hd ⟨2, .data⟩ (by simp) rfl)
     obtain rfl := k.f5 (hd ⟨5, .data⟩ (by simp) rfl)
     have h7 : L 7 = false := by
      cases h : L 7 with
      | false => rfl
      | true => exact absurd (hL.symm.trans (k.f7 h).1) (by decide)
     have hcall := next20 ((J : Nat) : Int) k.wf.1 (by have := HJ0.out; omega) (by have := HJ0.out; omega)
     go_simp
     refine hcall.mono ?_
     rintro e X ⟨q, hq, rfl, hg, hs⟩
     have hz := k.wf.2.2.2.2.2
     have hz2 := hg.size
     exact hK _ _ ⟨_, _, _, _, _, _, _, _, _, _, _, rfl, ⟨⟨hs, fun h => (k.wf.2.1 h).grown hg HN.out.2.2.2.2.1, k.wf.2.2.1.grown hg HN.out.2.2.2.2.2.1, fun h => (k.wf.2.2.2.1 h).next HEM.out.1 hg, grown_bel k.wf.2.2.2.2.1 hg HN.out.2.2.1 (by have := HN.out; omega), by omega⟩, k.f0, k.f1, k.f2, k.f3, k.f4, k.f5, fun _ => ⟨q, by omega, rfl⟩, fun h => absurd (h7.symm.trans h) (by decide), fun h => absurd (hL.symm.trans (k.f7 (k.f8 h).1).1) (by decide), fun h => absurd (hL.symm.trans (k.f7 (k.f8 (k.f9 h).1).1).1) (by decide), fun h => absurd (hL.symm.trans (k.f7 (k.f8 (k.f10 h)).1).1) (by decide), fun h => absurd (h7.symm.trans (k.f11 h).2.2.1) (by decide)⟩⟩
    | 7, _, ho, hL =>
     have ho2 := ho
     simp only [qz1, qz2, qz3, qz4] at ho
     subst ho
     refine wpOp_step ho2 (fun K hK => ?_)
     obtain rfl := k.f0 (hd ⟨0, .data⟩ (by simp) rfl)
     obtain rfl := k.f1 (hd ⟨1, .data⟩ (by simp) rfl)
     obtain ⟨q, hq, rfl⟩ := k.f6 (hd ⟨6, .data⟩ (by simp) rfl)
     have h6 := hd ⟨6, .data⟩ (by simp) rfl
     have hz := k.wf.2.2.2.2.2
     have hz2 := HN.out
     have hcall := split64 E2 w _ t rows i q c (k.wf.2.2.2.1 hL) (fun k' hk' => by have := HE2.out k' hk'; omega) HMK.out.val HCI.out hlf (by rw [hLen.b]; omega)
     go_simp
     refine hcall.mono ?_
     rintro e X ⟨v', ok, t', rows', rfl, hF, ht', hv', hb⟩
     have hmt : MkT t' ∧ t'.root.length = J ∧ t'.cells.length ≤ N + 2 := by
      rcases ht' with rfl | rfl
      ·exact ⟨HMK.out, hLen.a, by rw [hLen.b]; omega⟩
      ·exact ⟨HMK.out.split (by have := HJ0.out; omega) hv' (by rw [hLen.b]; omega), by rw [split_root]; exact hLen.a, by have := split_len t i (q : Nat); rw [hLen.b] at this; exact this⟩
     exact hK _ _ ⟨_, _, _, _, _, _, _, _, _, _, _, rfl, ⟨⟨k.wf.1.keep hb (by omega), fun h => (k.wf.2.1 h).keep hb, k.wf.2.2.1.keep hb, nofun, k.wf.2.2.2.2.1.trans (hb.mono (by omega)), Nat.lt_of_lt_of_le hz hb.size⟩, k.f0, k.f1, k.f2, k.f3, k.f4, k.f5, k.f6, fun _ => ⟨h6, v', ok, t', rows', rfl, hF, hmt⟩, fun h => absurd (hL.symm.trans (k.f8 h).1) (by decide), fun h => absurd (hL.symm.trans (k.f8 (k.f9 h).1).1) (by decide), fun h => absurd (hL.symm.trans (k.f8 (k.f10 h)).1) (by decide), fun h => absurd (hL.symm.trans (k.f11 h).2.2.1) (by decide)⟩⟩
    | 8, _, ho, hL =>
     have ho2 := ho
     simp only [qz1, qz2, qz3, qz4] at ho
     subst ho
     refine wpOp_step ho2 (fun K hK => ?_)
     obtain ⟨h6, v', ok, t', rows', rfl, -, -⟩ := k.f7 (hd ⟨7, .data⟩ (by simp) rfl)
     have h7 := hd ⟨7, .data⟩ (by simp) rfl
     go_simp
     exact hK _ _ ⟨_, _, _, _, _, _, _, _, _, _, _, rfl, ⟨k.wf, k.f0, k.f1, k.f2, k.f3, k.f4, k.f5, k.f6, k.f7, fun _ => ⟨h7, rfl⟩, fun h => absurd (hL.symm.trans (k.f9 h).1) (by decide), fun h => absurd (hL.symm.trans (k.f10 h)) (by decide), k.f11⟩⟩
    | 9, _, ho, hL =>
     have ho2 := ho
     simp only [qz1, qz2, qz3, qz4] at ho
     subst ho
     refine wpOp_step ho2 (fun K hK => ?_)
     obtain ⟨h7, rfl⟩ := k.f8 (hd ⟨8, .data⟩ (by simp) rfl)
     have h8 := hd ⟨8, .data⟩ (by simp) rfl
     obtain ⟨h6, v', ok, t', rows', rfl, -, -⟩ := k.f7 h7
     go_simp
     exact hK _ _ ⟨_, _, _, _, _, _, _, _, _, _, _, rfl, ⟨k.wf, k.f0, k.f1, k.f2, k.f3, k.f4, k.f5, k.f6, k.f7, k.f8, fun _ => ⟨h8, fun a b e => by cases e; rfl⟩, k.f10, k.f11⟩⟩
    | 10, _, ho, hL =>
     have ho2 := ho
     simp only [qz1, qz2, qz3, qz4] at ho
     subst ho
     refine wpOp_step ho2 (fun K hK => ?_)
     obtain ⟨h7, rfl⟩ := k.f8 (hd ⟨8, .data⟩ (by simp) rfl)
     have h8 := hd ⟨8, .data⟩ (by simp) rfl
     obtain ⟨h6, v', ok, t', rows', rfl, -, -⟩ := k.f7 h7
     go_simp
     exact hK _ _ ⟨_, _, _, _, _, _, _, _, _, _, _, rfl, ⟨k.wf, k.f0, k.f1, k.f2, k.f3, k.f4, k.f5, k.f6, k.f7, k.f8, k.f9, fun _ => h8, k.f11⟩⟩
    | 11, _, ho, hL =>
     have ho2 := ho
     simp only [qz1, qz2, qz3, qz4] at ho
     subst ho
     refine wpOp_step ho2 (fun K hK => ?_)
     obtain ⟨h8, h9⟩ := k.f9 (hd ⟨9, .data⟩ (by simp) rfl)
     obtain ⟨h7, rfl⟩ := k.f8 h8
     obtain ⟨h6, v', ok, t', rows', rfl, hF, hMT, hR, hC⟩ := k.f7 h7
     obtain rfl := h9 v' ok rfl
     have h0 := hd ⟨0, .phase⟩ (by simp) rfl
     have h4 := hd ⟨4, .phase⟩ (by simp) rfl
     obtain ⟨q1, d1, q2, d2, rfl, -, -⟩ := hF.form
     have hx := k.wf.2.1 hL
     have c0 := hx.c 0 _ rfl
     have c1' := hx.c 1 _ rfl
     have f0 := hx.f 0
     have f1 := hx.f 1
     have ln := hx.lt
     have hA := hx.put1 (.slice q1 t'.root.length d1)
     have c1A := hA.c 1 _ rfl
     have f1A := hA.f 1
     have hp := put_two hx (.slice q1 t'.root.length d1) (.slice q2 t'.cells.length d2)
     have hF2 := (hF.put (i := 0) (u := .slice q1 t'.root.length d1) HEM.out.2.1).put (i := 1) (u := .slice q2 t'.cells.length d2) HEM.out.2.1
     have hz := k.wf.2.2.2.2.2
     have hn := HN.out
     have hS2 := (k.wf.1.put n3 0 (.slice q1 t'.root.length d1) hn.1 hn.2.2.2.2.1).put n3 1 (.slice q2 t'.cells.length d2) hn.1 hn.2.2.2.2.1
     have hX6 := (k.wf.2.2.1.other (b := n3) (fun e => hn.2.2.2.1 e.symm) 0 (.slice q1 t'.root.length d1)).other (b := n3) (fun e => hn.2.2.2.1 e.symm) 1 (.slice q2 t'.cells.length d2)
     have hB2 := bel_put (bel_put k.wf.2.2.2.2.1 (i := 0) (.slice q1 t'.root.length d1) hn.1) (i := 1) (.slice q2 t'.cells.length d2) hn.1
     have hz2 : nS < ((w.setCell ⟨n3, 0, none⟩ (.slice q1 t'.root.length d1)).setCell ⟨n3, 1, none⟩ (.slice q2 t'.cells.length d2)).heap.size := by simp [World.setCell]; exact hz
     subst hR
     clear hA
     go_simp
     exact hK _ _ ⟨_, _, _, _, _, _, _, _, _, _, _, rfl, ⟨⟨hS2, nofun, hX6, fun h => absurd (h7.symm.trans h) (by decide), hB2, hz2⟩, k.f0, k.f1, k.f2, k.f3, k.f4, k.f5, k.f6, fun _ => ⟨h6, _, ok, t', rows', rfl, hF2, hMT, rfl, hC⟩, k.f8, k.f9, k.f10, fun _ => ⟨h0, h4, h7, q1, q2, d1, _, d2, t', rows', hF2, ⟨rfl, rfl⟩, hMT, hC, hp⟩⟩⟩
    | n + 12, h, _, _ => omega
   ·intro L a w hL hJ
    obtain ⟨v30, v31, v32, v33, v34, v35, v36, v37, v29, v38, v39, rfl, k⟩ := hJ
    obtain rfl := k.f0 (hL 0 (by decide))
    obtain rfl := k.f1 (hL 1 (by decide))
    obtain rfl := k.f2 (hL 2 (by decide))
    obtain rfl := k.f3 (hL 3 (by decide))
    obtain rfl := k.f4 (hL 4 (by decide))
    obtain rfl := k.f5 (hL 5 (by decide))
    obtain ⟨-, -, -, q1, q2, d1, M, d2, t', rows', hF, hLn, hMT, hC, hx⟩ := k.f11 (hL 11 (by decide))
    obtain ⟨h8, h9⟩ := k.f9 (hL 9 (by decide))
    obtain ⟨h7, rfl⟩ := k.f8 h8
    obtain ⟨-, v9, ok9, t9, rows9, rfl, -⟩ := k.f7 h7
    obtain rfl := h9 v9 ok9 rfl
    obtain ⟨q9, -, rfl⟩ := k.f6 (hL 6 (by decide))
    have HF5 := Lib.hid hF
    have HX35 := Lib.hid hx
    have hwf := k.wf
    have HX65 := Lib.hid hwf.2.2.1
    have HS5 := Lib.hid hwf.1
    have HB5 := Lib.hid hwf.2.2.2.2.1
    have HZ5 := Lib.hid hwf.2.2.2.2.2
    have HMT := Lib.hid hMT
    dsimp only
    clear k hL hF hx hwf hMT
    go_wp2_with fail
    go_roundw
    case rel => exact ⟨kk + 1, t', rows', q1, q2, d1, M, d2, by omega, by simp, HF5.out, hLn, HMT.out, by have := HNK.out; omega, HX35.out, HX65.out, HS5.out, HB5.out, HZ5.out⟩
    case measure => simp [intOf]; omega
  ·have hke : kk = times := by omega
   subst hke
   have hd : decide ((kk : Int) < (kk : Int)) = false := by simp
   have hd2 : decide (kk < kk) = false := by simp
   go_wp2_with fail
   refine HLV.out.mono ?_
   rintro e W3 ⟨oa, cap3, ls, rfl, hls1, hls2, hLx, hNw, hb3⟩
   clear hd hd2 HLV y0 y1 ly
   rw [hLen.b] at hls2
   have hzz := HZ.out
   have HLS := Lib.hid (hNw.sx (E := E2) (fun q hq => by have := HE2.out q hq; omega))
   have HF3 := Lib.hid (HF.out.keep hb3)
   have HX33 := Lib.hid (HX3.out.keep hb3)
   have HX63 := Lib.hid (HX6.out.keep hb3)
   have HS3 := Lib.hid (HS.out.keep hb3 (by have := HB.out.size; have := HN.out; omega))
   have HB3 := Lib.hid (HB.out.trans (hb3.mono (by have := HB.out.size; have := HN.out; omega)))
   have HZ3 : Hid (nS < W3.heap.size) := Lib.hid (by have := hb3.size; omega)
   have HLX := Lib.hid hLx
   have hN27 : N ≤ 27 := by have := HNK.out; omega
   clear HF HX3 HX6 HS HB HZ hNw hb3 hzz hLx
   go_wp2_with fail
   go_loopw [12] (fun i X => ∃ (kk : Nat) (t : Fm.TreeD) (rows : List (List Value)) (o1 o2 : Option Addr) (c1 c2 : Nat), kk ≤ ls.length ∧ i = .int .i64 (kk : Nat) ∧ FT E2 X (.agg #[.slice o1 J c1, .slice o2 N c2]) t rows ∧ LenIs t J N ∧ MkT t ∧ LeafIx t ls ∧ Fp (Sx E2 X) X (fun X => Sl X oa 1 (pvals ls)) ∧ Bx X n3 [.slice o1 J c1, .slice o2 N c2] 36 ∧ Bx X n6 [.slice none 0 0, .slice none 0 0] 36 ∧ SrS n2 nS os cap xs X ∧ Below n2 w0 X ∧ nS < X.heap.size) (fun i _ => ls.length - (intOf i).toNat)
   case atStart => exact ⟨0, t, rows, o1, o2, c1, c2, Nat.zero_le _, rfl, HF3.out, hLen, HMK.out, HLX.out, HLS.out, HX33.out, HX63.out, HS3.out, HB3.out, HZ3.out⟩
   case round =>
    clear HF3 HX33 HX63 HS3 HB3 HZ3 HLS HLX HMK hLen HNK
    obtain ⟨m, t, rows, p1, p2, d1, d2, hm, rfl, hF, hLen, hMk, hLx, hLS, hX3, hX6, hS, hB, hZ⟩ := hrel
    by_cases hlt2 : m < ls.length
    ·obtain ⟨x, hx⟩ : ∃ x, ls[m]? = some x := ⟨_, List.getElem?_eq_getElem hlt2⟩
     obtain ⟨i, c, rfl, hci, hlf⟩ := hLx x (List.mem_of_getElem? hx)
     obtain ⟨g4, off4, rfl, hg4, -⟩ := leaf_at hLS.now hx
     have hd : decide ((m : Int) < (ls.length : Int)) = true := decide_eq_true (by omega)
     have HF4 := Lib.hid hF
     have HMK := Lib.hid hMk
     have HX34 := Lib.hid hX3
     have HX64 := Lib.hid hX6
     have HS4 := Lib.hid hS
     have HB4 := Lib.hid hB
     have HZ4 := Lib.hid hZ
     have HLS4 := Lib.hid hLS
     have HLX4 := Lib.hid hLx
     have HCI := Lib.hid hci
     have HXX := Lib.hid hx
     clear hF hMk hX3 hX6 hS hB hZ hLS hLx hci hx
     go_upto_region 12 with fail
     clear hd
     have hD : Below wr.heap.size wr wr.drew := (Below.refl _ _).drew
     have hri : decide ((ls.length : Int) ≤ (m : Int)) = false := decide_eq_false (by omega)
     have hri2 : decide (ls.length ≤ m) = false := decide_eq_false (by omega)
     refine wp_region_inv2 (by kernel_rfl) (by kernel_rfl) (fun L a w => ∃ v49 v50 v51 v52 v53 v54 v55 v56 v57 v48 v58 v59 : Value, a = { tmps := #[((Value.agg #[Value.slice or J cr, Value.slice oc N0 cc])), ((Value.slice os xs.length cap)), ((Value.int IntKind.i64 ((kk : Nat) : Int))), ((Value.pointer (some ⟨n3, 0, none⟩))), undef, undef, ((Value.pointer (some ⟨n6, 0, none⟩))), ((Value.pointer (some ⟨nS, 0, none⟩))), ((Value.int IntKind.i64 ((kk : Nat) : Int))), u9, u10, ((Value.slice (some ⟨g4, off4, none⟩) ls.length cap3)), ((Value.int IntKind.i64 ((m : Nat) : Int))), ((Value.slice os xs.length cap)), ((Value.pointer (some ⟨nS, 0, none⟩))), ((Value.int IntKind.i64 ((kk : Nat) : Int))), ((Value.int IntKind.i64 ((kk : Nat) : Int))), ((Value.bool false)), u18, u19, u20, u21, u22, u23, u24, u25, u26, u27, u28, u29, u30, u31, u32, u33, u34, u35, u36, u37, u38, u39, ((Value.agg #[Value.slice o1 J c1, Value.slice o2 N c2])), ((Value.slice (some ⟨g4, off4, none⟩) ls.length cap3)), ((Value.int IntKind.i64 ((m : Nat) : Int))), ((Value.slice (some ⟨g4, off4, none⟩) ls.length cap3)), ((Value.int IntKind.i64 ((ls.length : Nat) : Int))), ((Value.bool true)), u46, u47, v48, v49, v50, v51, v52, v53, v54, v55, v56, v57, v58, v59, undef], defers := [] } ∧ Dv12K E2 n2 nS n3 n6 cap J N d1 d2 i m g4 off4 cap3 os p1 p2 xs ls t rows w0 L v49 v50 v51 v52 v53 v54 v55 v56 v57 v48 v58 v59 w) ?_ ?_ ?_
     ·exact ⟨_, _, _, _, _, _, _, _, _, _, _, _, rfl, ⟨⟨HS4.out.keep hD (by have := HB4.out.size; have := HN.out; have := HZ4.out; omega), fun _ => HX34.out.keep hD, HX64.out.keep hD, fun _ => HF4.out.keep hD, HB4.out.trans (hD.mono (by have := HN.out; have := HZ4.out; omega)), Nat.lt_of_lt_of_le HZ4.out hD.size, HLS4.out.sxb hD⟩, nofun, nofun, nofun, nofun, nofun, nofun, nofun, nofun, nofun, nofun, nofun, nofun, nofun⟩⟩
     ·intro iq oq ho L a w hL hd hJ
      obtain ⟨v49, v50, v51, v52, v53, v54, v55, v56, v57, v48, v58, v59, rfl, k⟩ := hJ
      have hiq : iq < 13 := by have := (Array.getElem?_eq_some_iff.1 ho).1; simpa using this
      match iq, hiq, ho, hL with
      | 0, _, ho, hL =>
       have ho2 := ho
       simp only [qz1, qz2, qz3, qz4] at ho
       subst ho
       refine wpOp_step ho2 (fun K hK => ?_)
       have h12 : L 12 = false := by
        cases h : L 12 with
        | false => rfl
        | true => exact absurd (hL.symm.trans (k.f12 h).1) (by decide)
       have hx := k.wf.2.1 h12
       have y0 := hx.c 0 _ rfl
       have y1 := hx.c 1 _ rfl
       have ly := hx.lt
       go_simp
       exact hK _ _ ⟨_, _, _, _, _, _, _, _, _, _, _, _, rfl, ⟨k.wf, fun _ => rfl, k.f1, k.f2, k.f3, k.f4, k.f5, k.f6, k.f7, k.f8, k.f9, k.f10, k.f11, fun h => absurd (hL.symm.trans (k.f12 h).1) (by decide)⟩⟩
      | 1, _, ho, hL =>
       have ho2 := ho
       simp only [qz1, qz2, qz3, qz4] at ho
       subst ho
       refine wpOp_step ho2 (fun K hK => ?_)
       go_simp
       exact hK _ _ ⟨_, _, _, _, _, _, _, _, _, _, _, _, rfl, ⟨k.wf, k.f0, fun _ => rfl, k.f2, k.f3, k.f4, k.f5, k.f6, k.f7, k.f8, k.f9, k.f10, k.f11, k.f12⟩⟩
      | 2, _, ho, hL =>
       have ho2 := ho
       simp only [qz1, qz2, qz3, qz4] at ho
       subst ho
       refine wpOp_step ho2 (fun K hK => ?_)
       go_simp
       exact hK _ _ ⟨_, _, _, _, _, _, _, _, _, _, _, _, rfl, ⟨k.wf, k.f0, k.f1, fun _ => rfl, k.f3, k.f4, k.f5, k.f6, k.f7, k.f8, k.f9, k.f10, k.f11, k.f12⟩⟩
      | 3, _, ho, hL =>
       have ho2 := ho
       simp only [qz1, qz2, qz3, qz4] at ho
       subst ho
       refine wpOp_step ho2 (fun K hK => ?_)
       obtain rfl := k.f1 (hd ⟨1, .data⟩ (by simp) rfl)
       obtain rfl := k.f2 (hd ⟨2, .data⟩ (by simp) rfl)
       go_simp
       exact hK _ _ ⟨_, _, _, _, _, _, _, _, _, _, _, _, rfl, ⟨k.wf, k.f0, k.f1, k.f2, fun _ => rfl, k.f4, k.f5, k.f6, k.f7, k.f8, k.f9, k.f10, k.f11, k.f12⟩⟩
      | 4, _, ho, hL =>
       have ho2 := ho
       simp only [qz1, qz2, qz3, qz4] at ho
       subst ho
       refine wpOp_step ho2 (fun K hK => ?_)
       obtain rfl := k.f3 (hd ⟨3, .data⟩ (by simp) rfl)
       obtain ⟨g', off', e', hg', hcell⟩ := leaf_at k.wf.2.2.2.2.2.2.now HXX.out
       injection e' with e'
       injection e' with e1 e2 _
       subst e1 e2
       go_simp
       exact hK _ _ ⟨_, _, _, _, _, _, _, _, _, _, _, _, rfl, ⟨k.wf, k.f0, k.f1, k.f2, k.f3, fun _ => rfl, k.f5, k.f6, k.f7, k.f8, k.f9, k.f10, k.f11, k.f12⟩⟩
      | 5, _, ho, hL =>
       have ho2 := ho
       simp only [qz1, qz2, qz3, qz4] at ho
       subst ho
       refine wpOp_step ho2 (fun K hK => ?_)
       go_simp
       exact hK _ _ ⟨_, _, _, _, _, _, _, _, _, _, _, _, rfl, ⟨k.wf, k.f0, k.f1, k.f2, k.f3, k.f4, fun _ => rfl, k.f6, k.f7, k.f8, k.f9, k.f10, k.f11, k.f12⟩⟩
      | 6, _, ho, hL =>
       have ho2 := ho
       simp only [qz1, qz2, qz3, qz4] at ho
       subst ho
       refine wpOp_step ho2 (fun K hK => ?_)
       obtain rfl := k.f5 (hd ⟨5, .data⟩ (by simp) rfl)
       have hcall := next20 5 k.wf.1 (by decide) (by decide)
       go_simp
       refine hcall.mono ?_
       rintro e X ⟨q, hq, rfl, hg, hs⟩
       have hz := k.wf.2.2.2.2.2.1
       have hz2 := hg.size
       exact hK _ _ ⟨_, _, _, _, _, _, _, _, _, _, _, _, rfl, ⟨⟨hs, fun h => (k.wf.2.1 h).grown hg HN.out.2.2.2.2.1, k.wf.2.2.1.grown hg HN.out.2.2.2.2.2.1, fun h => (k.wf.2.2.2.1 h).next HEM.out.1 hg, grown_bel k.wf.2.2.2.2.1 hg HN.out.2.2.1 (by have := HN.out; omega), by omega, fp_next k.wf.2.2.2.2.2.2 HEM.out.1 hg⟩, k.f0, k.f1, k.f2, k.f3, k.f4, k.f5, fun _ => ⟨q, by omega, rfl⟩, fun h => absurd (hL.symm.trans (k.f7 h).1) (by decide), fun h => absurd (hL.symm.trans (k.f7 (k.f8 h).1).1) (by decide), fun h => absurd (hL.symm.trans (k.f7 (k.f8 (k.f9 h).1).1).1) (by decide), fun h => absurd (hL.symm.trans (k.f7 (k.f8 (k.f9 (k.f10 h).1).1).1).1) (by decide), fun h => absurd (hL.symm.trans (k.f7 (k.f8 (k.f9 (k.f11 h)).1).1).1) (by decide), fun h => absurd (hL.symm.trans (k.f7 (k.f8 (k.f12 h).2.1).1).1) (by decide)⟩⟩
      | 7, _, ho, hL =>
       have ho2 := ho
       simp only [qz1, qz2, qz3, qz4] at ho
       subst ho
       refine wpOp_step ho2 (fun K hK => ?_)
       obtain ⟨q, hq, rfl⟩ := k.f6 (hd ⟨6, .data⟩ (by simp) rfl)
       have h6 := hd ⟨6, .data⟩ (by simp) rfl
       have hz := k.wf.2.2.2.2.2.1
       have hz2 := HN.out
       have hcall := label66 w q (by omega)
       go_simp
       refine hcall.mono ?_
       rintro e X ⟨u, un, ul, ur, un2, ul2, ur2, rfl, hu, hN, hb⟩
       exact hK _ _ ⟨_, _, _, _, _, _, _, _, _, _, _, _, rfl, ⟨⟨k.wf.1.keep hb (by omega), fun h => (k.wf.2.1 h).keep hb, k.wf.2.2.1.keep hb, fun h => (k.wf.2.2.2.1 h).keep hb, k.wf.2.2.2.2.1.trans (hb.mono (by omega)), Nat.lt_of_lt_of_le hz hb.size, k.wf.2.2.2.2.2.2.sxb hb⟩, k.f0, k.f1, k.f2, k.f3, k.f4, k.f5, k.f6, fun _ => ⟨h6, u, un, ul, ur, un2, ul2, ur2, rfl, hu, fun _ => hN.sx (fun k' hk' => by have := HE2.out k' hk'; omega)⟩, fun h => absurd (hL.symm.trans (k.f8 h).1) (by decide), fun h => absurd (hL.symm.trans (k.f8 (k.f9 h).1).1) (by decide), fun h => absurd (hL.symm.trans (k.f8 (k.f9 (k.f10 h).1).1).1) (by decide), fun h => absurd (hL.symm.trans (k.f8 (k.f9 (k.f11 h)).1).1) (by decide), fun h => absurd (hL.symm.trans (k.f8 (k.f12 h).2.1).1) (by decide)⟩⟩
      | 8, _, ho, hL =>
       have ho2 := ho
       simp only [qz1, qz2, qz3, qz4] at ho
       subst ho
       refine wpOp_step ho2 (fun K hK => ?_)
       obtain rfl := k.f0 (hd ⟨0, .data⟩ (by simp) rfl)
       obtain rfl := k.f4 (hd ⟨4, .data⟩ (by simp) rfl)
       obtain ⟨h6, u, un, ul, ur, un2, ul2, ur2, rfl, hu, hVd⟩ := k.f7 (hd ⟨7, .data⟩ (by simp) rfl)
       have h7 := hd ⟨7, .data⟩ (by simp) rfl
       have hz := k.wf.2.2.2.2.2.1
       have hz2 := HN.out
       have hcall := settle65 E2 w _ t rows i c u un ul ur un2 ul2 ur2 (k.wf.2.2.2.1 hL) (fun k' hk' => by have := HE2.out k' hk'; omega) HMK.out.val HCI.out hlf hu.form (hVd hL)
       go_simp
       refine hcall.mono ?_
       rintro e X ⟨v', ok, t', rows', rfl, hF, ht', hv', hb⟩
       have hmt : LenIs t' J N ∧ MkT t' ∧ LeafIx t' ls := by
        rcases ht' with rfl | rfl
        ·exact ⟨hLen, HMK.out, HLX4.out⟩
        ·exact ⟨⟨by rw [settle_root]; exact hLen.a, by rw [settle_len]; exact hLen.b⟩, HMK.out.settle hu hv', settle_leaf HLX4.out i u⟩
       exact hK _ _ ⟨_, _, _, _, _, _, _, _, _, _, _, _, rfl, ⟨⟨k.wf.1.keep hb (by omega), fun h => (k.wf.2.1 h).keep hb, k.wf.2.2.1.keep hb, nofun, k.wf.2.2.2.2.1.trans (hb.mono (by omega)), Nat.lt_of_lt_of_le hz hb.size, k.wf.2.2.2.2.2.2.sxb hb⟩, k.f0, k.f1, k.f2, k.f3, k.f4, k.f5, k.f6, fun _ => ⟨h6, u, un, ul, ur, un2, ul2, ur2, rfl, hu, nofun⟩, fun _ => ⟨h7, v', ok, t', rows', rfl, hF, hmt⟩, fun h => absurd (hL.symm.trans (k.f9 h).1) (by decide), fun h => absurd (hL.symm.trans (k.f9 (k.f10 h).1).1) (by decide), fun h => absurd (hL.symm.trans (k.f9 (k.f11 h)).1) (by decide), fun h => absurd (hL.symm.trans (k.f12 h).2.1) (by decide)⟩⟩
      | 9, _, ho, hL =>
       have ho2 := ho
       simp only [qz1, qz2, qz3, qz4] at ho
       subst ho
       refine wpOp_step ho2 (fun K hK => ?_)
       obtain ⟨h7, v', ok, t', rows', rfl, -, -⟩ := k.f8 (hd ⟨8, .data⟩ (by simp) rfl)
       have h8 := hd ⟨8, .data⟩ (by simp) rfl
       go_simp
       exact hK _ _ ⟨_, _, _, _, _, _, _, _, _, _, _, _, rfl, ⟨k.wf, k.f0, k.f1, k.f2, k.f3, k.f4, k.f5, k.f6, k.f7, k.f8, fun _ => ⟨h8, rfl⟩, fun h => absurd (hL.symm.trans (k.f10 h).1) (by decide), fun h => absurd (hL.symm.trans (k.f11 h)) (by decide), k.f12⟩⟩
      | 10, _, ho, hL =>
       have ho2 := ho
       simp only [qz1, qz2, qz3, qz4] at ho
       subst ho
       refine wpOp_step ho2 (fun K hK => ?_)
       obtain ⟨h8, rfl⟩ := k.f9 (hd ⟨9, .data⟩ (by simp) rfl)
       have h9 := hd ⟨9, .data⟩ (by simp) rfl
       obtain ⟨h7, v', ok, t', rows', rfl, -, -⟩ := k.f8 h8
       go_simp
       exact hK _ _ ⟨_, _, _, _, _, _, _, _, _, _, _, _, rfl, ⟨k.wf, k.f0, k.f1, k.f2, k.f3, k.f4, k.f5, k.f6, k.f7, k.f8, k.f9, fun _ => ⟨h9, fun a b e => by cases e; rfl⟩, k.f11, k.f12⟩⟩
      | 11, _, ho, hL =>
       have ho2 := ho
       simp only [qz1, qz2, qz3, qz4] at ho
       subst ho
       refine wpOp_step ho2 (fun K hK => ?_)
       obtain ⟨h8, rfl⟩ := k.f9 (hd ⟨9, .data⟩ (by simp) rfl)
       have h9 := hd ⟨9, .data⟩ (by simp) rfl
       obtain ⟨h7, v', ok, t', rows', rfl, -, -⟩ := k.f8 h8
       go_simp
       exact hK _ _ ⟨_, _, _, _, _, _, _, _, _, _, _, _, rfl, ⟨k.wf, k.f0, k.f1, k.f2, k.f3, k.f4, k.f5, k.f6, k.f7, k.f8, k.f9, k.f10, fun _ => h9, k.f12⟩⟩
      | 12, _, ho, hL =>
       have ho2 := ho
       simp only [qz1, qz2, qz3, qz4] at ho
       subst ho
       refine wpOp_step ho2 (fun K hK => ?_)
       obtain ⟨h9, h10⟩ := k.f10 (hd ⟨10, .data⟩ (by simp) rfl)
       obtain ⟨h8, rfl⟩ := k.f9 h9
       obtain ⟨h7, v', ok, t', rows', rfl, hF, hLN, hMT, hLX⟩ := k.f8 h8
       obtain rfl := h10 v' ok rfl
       have h0 := hd ⟨0, .phase⟩ (by simp) rfl
       obtain ⟨q1, e1, q2, e2, rfl, -, -⟩ := hF.form
       rw [hLN.a, hLN.b] at hF
       have hx := k.wf.2.1 hL
       have c0 := hx.c 0 _ rfl
       have c1' := hx.c 1 _ rfl
       have f0 := hx.f 0
       have f1 := hx.f 1
       have ln := hx.lt
       have hA := hx.put1 (.slice q1 J e1)
       have c1A := hA.c 1 _ rfl
       have f1A := hA.f 1
       have hp := put_two hx (.slice q1 J e1) (.slice q2 N e2)
       have hF2 := (hF.put (i := 0) (u := .slice q1 J e1) HEM.out.2.1).put (i := 1) (u := .slice q2 N e2) HEM.out.2.1
       have hz := k.wf.2.2.2.2.2.1
       have hn := HN.out
       have hS2 := (k.wf.1.put n3 0 (.slice q1 J e1) hn.1 hn.2.2.2.2.1).put n3 1 (.slice q2 N e2) hn.1 hn.2.2.2.2.1
       have hX6 := (k.wf.2.2.1.other (b := n3) (fun e => hn.2.2.2.1 e.symm) 0 (.slice q1 J e1)).other (b := n3) (fun e => hn.2.2.2.1 e.symm) 1 (.slice q2 N e2)
       have hB2 := bel_put (bel_put k.wf.2.2.2.2.1 (i := 0) (.slice q1 J e1) hn.1) (i := 1) (.slice q2 N e2) hn.1
       have hSl := fp_put (fp_put k.wf.2.2.2.2.2.2 (i := 0) (u := .slice q1 J e1) HEM.out.2.1) (i := 1) (u := .slice q2 N e2) HEM.out.2.1
       have hz2 : nS < ((w.setCell ⟨n3, 0, none⟩ (.slice q1 J e1)).setCell ⟨n3, 1, none⟩ (.slice q2 N e2)).heap.size := by simp [World.setCell]; exact hz
       rw [hLN.a, hLN.b] at k
       rw [hLN.a, hLN.b]
       clear hA
       go_simp
       exact hK _ _ ⟨_, _, _, _, _, _, _, _, _, _, _, _, rfl, ⟨⟨hS2, nofun, hX6, fun h => absurd (h8.symm.trans h) (by decide), hB2, hz2, hSl⟩, k.f0, k.f1, k.f2, k.f3, k.f4, k.f5, k.f6, fun h => (k.f7 h).imp id fun ⟨u, un, ul, ur, un2, ul2, ur2, a, b, c⟩ => ⟨u, un, ul, ur, un2, ul2, ur2, a, b, fun e => absurd (h8.symm.trans e) (by decide)⟩, fun _ => ⟨h7, _, ok, t', rows', rfl, hF2, hLN, hMT, hLX⟩, k.f9, k.f10, k.f11, fun _ => ⟨h0, h8, q1, q2, e1, e2, t', rows', hF2, hLN, hMT, hLX, hp⟩⟩⟩
      | n + 13, h, _, _ => omega
     ·intro L a w hL hJ
      obtain ⟨v49, v50, v51, v52, v53, v54, v55, v56, v57, v48, v58, v59, rfl, k⟩ := hJ
      obtain rfl := k.f0 (hL 0 (by decide))
      obtain rfl := k.f1 (hL 1 (by decide))
      obtain rfl := k.f2 (hL 2 (by decide))
      obtain rfl := k.f3 (hL 3 (by decide))
      obtain rfl := k.f4 (hL 4 (by decide))
      obtain rfl := k.f5 (hL 5 (by decide))
      obtain ⟨-, h8, q1, q2, e1, e2, t', rows', hF, hLn, hMT, hLX, hx⟩ := k.f12 (hL 12 (by decide))
      obtain ⟨h9, h10⟩ := k.f10 (hL 10 (by decide))
      obtain ⟨-, rfl⟩ := k.f9 h9
      obtain ⟨-, u9, un9, ul9, ur9, un29, ul29, ur29, rfl, -⟩ := k.f7 (hL 7 (by decide))
      obtain ⟨-, v9, ok9, t9, rows9, rfl, -⟩ := k.f8 h8
      obtain rfl := h10 v9 ok9 rfl
      obtain ⟨q9, -, rfl⟩ := k.f6 (hL 6 (by decide))
      have hwf := k.wf
      have HF5 := Lib.hid hF
      have HX35 := Lib.hid hx
      have HX65 := Lib.hid hwf.2.2.1
      have HS5 := Lib.hid hwf.1
      have HB5 := Lib.hid hwf.2.2.2.2.1
      have HZ5 := Lib.hid hwf.2.2.2.2.2.1
      have HLS5 := Lib.hid hwf.2.2.2.2.2.2
      have HMT := Lib.hid hMT
      have HLX5 := Lib.hid hLX
      dsimp only
      clear k hL hF hx hwf hMT hLX
      go_wp2_with fail
      go_roundw
      case rel => exact ⟨m + 1, t', rows', q1, q2, e1, e2, by omega, by simp, HF5.out, hLn, HMT.out, HLX5.out, HLS5.out, HX35.out, HX65.out, HS5.out, HB5.out, HZ5.out⟩
      case measure => simp [intOf]; omega
    ·have hke : m = ls.length := by omega
     subst hke
     have hd : decide ((ls.length : Int) < (ls.length : Int)) = false := by simp
     have hd2 : decide (ls.length < ls.length) = false := by simp
     have y0 := hX3.c 0 _ rfl
     have y1 := hX3.c 1 _ rfl
     have ly := hX3.lt
     have c0 := hX6.c 0 _ rfl
     have c1' := hX6.c 1 _ rfl
     have f0 := hX6.f 0
     have f1 := hX6.f 1
     have l6 := hX6.lt
     have hA := hX6.put1 (.slice p1 J d1)
     have c1A := hA.c 1 _ rfl
     have f1A := hA.f 1
     have HXF := Lib.hid (put_two hX6 (.slice p1 J d1) (.slice p2 N d2))
     have HBF := Lib.hid (bel_put (bel_put hB (i := 0) (.slice p1 J d1) HN.out.2.1) (i := 1) (.slice p2 N d2) HN.out.2.1)
     have HFF := Lib.hid ((hF.put (i := 0) (u := .slice p1 J d1) HEM.out.2.2).put (i := 1) (u := .slice p2 N d2) HEM.out.2.2)
     have HMF := Lib.hid hMk
     clear hA hF hMk hLx hLS hX3 hX6 hS hB hZ
     go_wp2
     generalize (wr.setCell ⟨n6, 0, none⟩ (.slice p1 J d1)).setCell ⟨n6, 1, none⟩ (.slice p2 N d2) = XF at HXF HBF HFF ⊢
     have c0F := HXF.out.c 0 _ rfl
     have c1F := HXF.out.c 1 _ rfl
     refine bodyPost_ret (v := .agg #[.slice p1 J d1, .slice p2 N d2]) (by simp [results, Tryz.results37, go_sem, c0F, c1F]) rfl ?_
     have hff := HFF.out
     rw [HEE.out] at hff
     have hbf := HBF.out
     rw [HN2.out] at hbf
     exact ⟨_, t, rows, rfl, hff.less.less.less, HMF.out, by rw [hLen.b]; exact hN27, hbf⟩
end Go.Proofs.Ng
end

