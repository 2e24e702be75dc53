/-
  Texts put together: To Tx.
-/
import Derived.Test.YthcmkpcefiiiaaaGreatDoorZFormatReturnsCard21
import Derived.Test.YthcmkpcefiiiaaaGreatDoorZFormatReturnsCard6
set_option linter.unusedVariables false
section
/-
 Walks: signed numbers and the box that is made.
-/
namespace Go.Proofs.Ng
open Go.RowKit
set_option maxRecDepth 100000 in
set_option maxHeartbeats 4000000 in
theorem signed62 {n2 nS cap : Nat} {os : Option Addr} {xs : List Int} {W : World} (h : SrS n2 nS os cap xs W) :
  Calls Tryz.prog 62 #[.pointer (some ⟨nS, 0, none⟩), .int .i64 40] W (fun e W' => ∃ r : Int, -40 ≤ r ∧ r ≤ 40 ∧ e = .returned (.int .i64 r) ∧ W.grownBy W' (some nS) ∧ SrS n2 nS os cap xs W') := by
 have H := Lib.hid (next20 81 h (by decide) (by decide))
 clear h
 go_enter Tryz.func62, Tryz.ntmps62
 go_wp2_with fail
 refine H.out.mono ?_
 rintro e W1 ⟨r, hr, rfl, hg, hs⟩
 have HG := Lib.hid hg
 have HS := Lib.hid hs
 clear hg hs
 go_wp2
 go_ret
 exact ⟨(r : Int) - 40, by omega, by omega, by first | rfl | simp, HG.out, HS.out⟩
def MkBox (b : Fm.BoxD) : Prop := ∀ a ∈ b, -40 ≤ a.1 ∧ a.1 ≤ a.2 ∧ a.2 ≤ 100
theorem ivs_app (b : Fm.BoxD) (a : Int × Int) : (ivs (b ++ [a])).flatten = (ivs b).flatten ++ [.int .i64 a.1, .int .i64 a.2] := by simp [ivs, iv2]
theorem mkBox_valid {b : Fm.BoxD} (h : MkBox b) : b.all Fm.validI = true := by
 rw [List.all_eq_true]
 intro a ha
 have := h a ha
 exact decide_eq_true (by omega)
set_option maxRecDepth 100000 in
set_option maxHeartbeats 8000000 in
theorem root36 {n2 nS cap : Nat} {os : Option Addr} {xs : List Int} {W : World} (h : SrS n2 nS os cap xs W) (hn2 : n2 ≤ W.heap.size) :
  Calls Tryz.prog 36 #[.pointer (some ⟨nS, 0, none⟩)] W (fun e W' => ∃ oa cp b, e = .returned (.slice oa b.length cp) ∧ 1 ≤ b.length ∧ b.length ≤ 3 ∧ MkBox b ∧ New W.heap.size W' (fun X => Sl X oa 2 (ivs b)) ∧ W.grownBy W' (some nS) ∧ SrS n2 nS os cap xs W') := by
 have H := Lib.hid (next20 3 h (by decide) (by decide))
 have hnS := src_lt h.src
 clear h
 go_enter Tryz.func36, Tryz.ntmps36
 go_wp2_with fail
 refine H.out.mono ?_
 rintro e W1 ⟨r, hr, rfl, hg, hs⟩
 have HG := Lib.hid hg
 have HS := Lib.hid hs
 clear hg hs H
 obtain ⟨n, hn⟩ : ∃ n : Nat, n = 1 + r := ⟨_, rfl⟩
 have hn1 : (1 : Int) + (r : Int) = (n : Nat) := by omega
 have hnl : 1 ≤ n ∧ n ≤ 3 := by omega
 clear hn
 go_wp2_with fail
 go_loopw [3, 4] (fun v i X => ∃ (k : Nat) (b : Fm.BoxD), k ≤ n ∧ i = .int .i64 (k : Nat) ∧ b.length + k = n ∧ MkBox b ∧ X.ownsRow W.heap.size 79 2 v b.length (ivs b).flatten ∧ SrS n2 nS os cap xs X ∧ W.grownBy X (some nS)) (fun _ i _ => (intOf i).toNat)
 case atStart => exact ⟨n, [], Nat.le_refl _, rfl, by simp, nofun, World.ownsRow_nil _ _ _ _, HS.out, HG.out⟩
 case round =>
  obtain ⟨k, b, hk, rfl, hbl, hmk, hO, hS, hG⟩ := hrel
  by_cases hlt : 0 < k
  ·have hd : decide ((0 : Int) < (k : Int)) = true := decide_eq_true (by omega)
   have HC := Lib.hid (signed62 hS)
   have HMK := Lib.hid hmk
   have HO := Lib.hid hO
   have HG2 := Lib.hid hG
   have HBL := Lib.hid hbl
   clear hmk hO hS hG hbl
   go_wp2_with fail
   refine HC.out.mono ?_
   clear HC hd
   rintro e Wa ⟨lo, hlo1, hlo2, rfl, hg, hs⟩
   have HC := Lib.hid (next20 60 hs (by decide) (by decide))
   have ho2 := own_blk (W' := Wa) HO.out fun g _ hl hb => hg.block g hl (by intro e; injection e with e; omega)
   have HO2 := Lib.hid ho2
   have HG3 := Lib.hid (grown_trans HG2.out hg)
   clear ho2 hg hs HO HG2
   go_wp2_with fail
   refine HC.out.mono ?_
   clear HC
   rintro e Wb ⟨q, hq, rfl, hg, hs⟩
   have ho2 := own_blk (W' := Wb) HO2.out fun g _ hl hb => hg.block g hl (by intro e; injection e with e; omega)
   have hb2 : Below Wb.heap.size Wb (Wb.alloc (.cells #[.int .i64 lo, .int .i64 (lo + (q : Nat))] 79)) := (Below.refl _ _).alloc (Nat.le_refl _) _
   have HO3 := Lib.hid (own_keep ho2 hb2)
   have HG4 := Lib.hid (grown_call (grown_trans HG3.out hg) hb2)
   have HS2 := Lib.hid (hs.keep hb2 (by have := HG3.out.size; have := hg.size; omega))
   have hsz : W.heap.size ≤ (Wb.alloc (.cells #[.int .i64 lo, .int .i64 (lo + (q : Nat))] 79)).heap.size := HG4.out.size
   obtain ⟨i0, hi, hz0, hz1, hz2⟩ := info_parts info79
   have hbl2 : b.length ≤ 3 := by have := HBL.out; omega
   clear hg hs ho2 hb2 HO2 HG3
   go_wp2_with (at_builtin; refine wpList_append_own _ rfl _ _ 33 rfl W.heap.size 79 i0 (.agg #[.int .i64 0, .int .i64 0]) 2 16 under33 hi hz0 hz1 hz2 rfl (by decide) _ _ _ rfl HO3.out ⟨Wb.heap.size, 0, none⟩ 1 1 [.int .i64 lo, .int .i64 (lo + (q : Nat))] rfl rfl ?c1 ?c2 ?c3 ?c4 ?c5 ?_)
   case c1 => exact new_cells _ _ _
   case c2 =>
    intro u hu
    simp at hu
    rcases hu with hu | hu <;> subst hu <;> rfl
   case c3 => unfold maxLen; omega
   case c4 => omega
   case c5 => exact hsz
   intro v' w' hown' hgrow _
   have hbw := grown_below HO3.out hgrow hsz
   have HO4 : Hid (w'.ownsRow W.heap.size 79 2 v' (b ++ [(lo, lo + (q : Nat))]).length (ivs (b ++ [(lo, lo + (q : Nat))])).flatten) := Lib.hid (by rw [ivs_app, List.length_append]; exact hown')
   have HG5 := Lib.hid (grown_low2 HG4.out hbw (Nat.le_refl _))
   have HS3 := Lib.hid (HS2.out.keepA hbw (by omega) (by omega))
   clear hown' hgrow hbw HO3 HG4 HS2 hsz hi hz0 hz1 hz2
   go_wp2_with fail
   go_roundw
   case rel =>
    refine ⟨k - 1, b ++ [(lo, lo + (q : Nat))], by omega, by rw [show ((k - 1 : Nat) : Int) = (k : Int) - 1 by omega], ?_, ?_, HO4.out, HS3.out, HG5.out⟩
    ·have := HBL.out
     rw [List.length_append]
     simp
     omega
    ·intro a ha
     rw [List.mem_append, List.mem_singleton] at ha
     rcases ha with ha | rfl
     ·exact HMK.out a ha
     ·exact ⟨hlo1, by simp only; omega, by simp only; omega⟩
   case measure => simp [intOf]; omega
  ·have hke : k = 0 := by omega
   subst hke
   have hbn : b.length = n := by omega
   have hd : decide ((0 : Int) < ((0 : Nat) : Int)) = false := by decide
   obtain ⟨g, c, rfl⟩ := own_some hO (by omega)
   have hN := own_ivs hO rfl (Nat.le_refl W.heap.size)
   have HN := Lib.hid hN
   have HSF := Lib.hid hS
   have HGF := Lib.hid hG
   clear hO hS hG hN
   go_wp2
   go_ret
   exact ⟨_, _, b, rfl, by omega, by omega, hmk, HN.out, HGF.out, HSF.out⟩
end Go.Proofs.Ng
end

section
/-
 A region that draws its order, where some edges bind one order alone.
-/
namespace Go.Proofs.Ng
open Go.RowKit
/-- The operations wait for earlier ones only, but for edges that bind one order alone. -/
def ordOk2 (ops : Array Oper) : Bool := (List.range ops.size).all fun i => match ops[i]? with
 | some o => o.after.all fun e => decide (e.on < i) || !Region.binds .any e
 | none => true
theorem wpAny_inv2 {P : Program} {ops : Array Oper} {Q : Exit → Act → World → Prop} (hord : ordOk2 ops = true) (J : (Nat → Bool) → Act → World → Prop)
  (hstep : ∀ (i : Nat) (o : Oper), ops[i]? = some o → ∀ (L : Nat → Bool) (a : Act) (w : World), L i = false → (∀ e ∈ o.after, Region.binds .any e = true → L e.on = true) → J L a w → wpOp P ops Q i (J (upL' L i)) a w)
  (hend : ∀ (L : Nat → Bool) (a : Act) (w : World), (∀ k, k < ops.size → L k = true) → J L a w → Q .normal a w) :
  ∀ (fuel : Nat) (listed : Array Bool) (a : Act) (w : World), listed.size = ops.size → (List.range ops.size).countP (fun k => !Lof listed k) ≤ fuel → J (Lof listed) a w → wpAny P .any ops Q fuel listed a w := by
 have hall : ∀ (listed : Array Bool), listed.size = ops.size → Region.ready .any ops listed = [] → ∀ k, k < ops.size → Lof listed k = true := by
  intro listed hs hr k
  induction k using Nat.strongRecOn with
  | _ k ih =>
   intro hk
   by_cases e : Lof listed k = true
   ·exact e
   ·exfalso
    have hm : k ∈ Region.ready .any ops listed := by
     unfold Region.ready
     rw [List.mem_filter]
     refine ⟨List.mem_range.2 hk, ?_⟩
     have hkl : k < listed.size := by omega
     have h1 : listed.getD k true = false := by
      have : listed.getD k false = false := by simpa [Lof] using e
      simp [Array.getD, hkl] at this ⊢
      exact this
     have ho : ops[k]? = some ops[k] := Array.getElem?_eq_getElem hk
     rw [h1, ho]
     simp only [Bool.not_false, Bool.true_and, Option.map_some, Option.getD_some]
     rw [Array.all_eq_true_iff_forall_mem]
     intro x hx
     cases hbd : Region.binds .any x with
     | false => simp
     | true =>
      have hlt : x.on < k := by
       unfold ordOk2 at hord
       rw [List.all_eq_true] at hord
       have := hord k (List.mem_range.2 hk)
       rw [ho] at this
       simp only at this
       rw [Array.all_eq_true_iff_forall_mem] at this
       have := this x hx
       rw [hbd, Bool.not_true, Bool.or_false] at this
       exact of_decide_eq_true this
      have := ih x.on hlt (by omega)
      unfold Lof at this
      rw [this]; simp
    rw [hr] at hm; cases hm
 intro fuel
 induction fuel with
 | zero =>
  intro listed a w hs hc hJ
  have hl : ∀ k, k < ops.size → Lof listed k = true := fun k hk => by
   have h0 : (List.range ops.size).countP (fun k => !Lof listed k) = 0 := by omega
   rw [List.countP_eq_zero] at h0
   have := h0 k (List.mem_range.2 hk)
   simpa using this
  refine ⟨?_, hend _ a w hl hJ⟩
  unfold Region.ready
  rw [List.filter_eq_nil_iff]
  intro k hk
  have hk := List.mem_range.1 hk
  have hkl : k < listed.size := by omega
  have := hl k hk
  simp [Lof, Array.getD, hkl] at this
  simp [hkl, this]
 | succ fuel ih =>
  intro listed a w hs hc hJ
  refine ⟨fun hr => hend _ a w (hall listed hs hr) hJ, fun i hi => ?_⟩
  unfold Region.ready at hi
  rw [List.mem_filter] at hi
  obtain ⟨hi1, hi2⟩ := hi
  have hil := List.mem_range.1 hi1
  have ho : ops[i]? = some ops[i] := Array.getElem?_eq_getElem hil
  rw [ho, Bool.and_eq_true] at hi2
  obtain ⟨hu, hd⟩ := hi2
  simp only [Option.map_some, Option.getD_some] at hd
  rw [Array.all_eq_true_iff_forall_mem] at hd
  have hkl : i < listed.size := by omega
  have hset : Lof (listed.setIfInBounds i true) = upL' (Lof listed) i := by
   funext k
   unfold Lof upL'
   by_cases e : k = i
   ·subst e; simp [Array.getD, hkl]
   ·have : Nat.beq k i = false := by
     cases h : Nat.beq k i with
     | true => exact absurd (Nat.eq_of_beq_eq_true h) e
     | false => rfl
    rw [this, Bool.false_or]
    simp only [Array.getD, Array.size_setIfInBounds]
    split
    ·rename_i hk
     exact Array.getElem_setIfInBounds_ne _ (Ne.symm e)
    ·rfl
  refine wpOp_mono (fun a' w' h => ?_) (hstep i _ ho (Lof listed) a w (by
   simp [Array.getD, hkl] at hu
   simp [Lof, Array.getD, hkl, hu]) (fun e he hb => by
   have := hd e he
   rw [hb] at this
   simpa [Lof] using this) hJ)
  rw [← hset] at h
  refine ih _ a' w' (by simpa using hs) ?_ h
  have hlt := countP_lt (l := List.range ops.size) (p := fun k => !Lof listed k) (q := fun k => !Lof (listed.setIfInBounds i true) k) (fun k _ hk => by
   simp only [Bool.not_eq_true'] at hk ⊢
   rw [hset] at hk
   simp only [upL', Bool.or_eq_false_iff] at hk
   exact hk.2) hi1 (by
   simp only [Bool.not_eq_true'] at hu ⊢
   simp [Array.getD, hkl] at hu
   simp [Lof, Array.getD, hkl, hu]) (by
   simp [Lof, Array.getD, hkl])
  omega
theorem wp_region_inv2 {P : Program} {ops : Array Oper} {Q : Exit → Act → World → Prop} {id : Nat} {a : Act} {w : World} (hm : P.follows .mixedOrders = true) (hord : ordOk2 ops = true) (J : (Nat → Bool) → Act → World → Prop) (h0 : J (fun _ => false) a w.drew)
  (hstep : ∀ (i : Nat) (o : Oper), ops[i]? = some o → ∀ (L : Nat → Bool) (a : Act) (w : World), L i = false → (∀ e ∈ o.after, Region.binds .any e = true → L e.on = true) → J L a w → wpOp P ops Q i (J (upL' L i)) a w)
  (hend : ∀ (L : Nat → Bool) (a : Act) (w : World), (∀ k, k < ops.size → L k = true) → J L a w → Q .normal a w) : (Code.region id ops true).wp P Q a w := by
 refine wp_region_any hm (wpAny_inv2 hord J hstep hend ops.size _ a _ (by simp) ?_ ?_)
 ·refine Nat.le_trans (List.countP_le_length) (by simp)
 ·have : Lof (Array.replicate ops.size false) = fun _ => false := by
   funext k
   simp [Lof, Array.getD]
  rw [this]
  exact h0
end Go.Proofs.Ng
end

