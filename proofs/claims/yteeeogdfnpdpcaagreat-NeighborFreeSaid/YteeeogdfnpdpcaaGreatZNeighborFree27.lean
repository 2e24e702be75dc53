/-
  Texts put together: Gc Co.
-/
import Derived.Test.YteeeogdfnpdpcaaGreatZNeighborFree25
import Derived.Test.YteeeogdfnpdpcaaGreatZNeighborFree26
import Derived.Test.YteeeogdfnpdpcaaGreatZNeighborFree10
import Derived.Test.YteeeogdfnpdpcaaGreatZNeighborFree11
import Derived.Test.YteeeogdfnpdpcaaGreatZNeighborFree14
import Derived.Deep.Slices
import Derived.OpenShut
import Derived.ChangeArms
import Derived.ProofKit
import Derived.ChangeSame
import Derived.Carry
import Derived.Below
import Derived.Lib.SmallJoins
set_option linter.unusedVariables false
section
/-
  The law NeighborFree.
-/
namespace Go.Proofs.Ng
open Go.RowKit

set_option maxRecDepth 100000 in
set_option maxHeartbeats 8000000 in
theorem free5 (ol om : Option Addr) (cl cm : Nat) (ls xs : List Int) (n k mo : Int) (w : World) (hL : Sl w ol 1 (pvals ls)) (hl : ls.length ≤ 9223372036854775807) (hM : Sl w om 1 (pvals xs)) (hm : xs.length * 8 ≤ 140737488351232) (hmn : om = none → xs = [] ∧ cm = 0) :
    Calls Tryz.prog 5 #[.slice ol ls.length cl, .slice om xs.length cm, .int .i64 n, .int .i64 k, .int .i64 mo] w (BoolP true w) := by
  have HSO := Lib.hid (some9 ol om cl cm ls xs n w hL hl hM hm hmn)
  obtain ⟨j, hj⟩ : ∃ j : Nat, k % 8 = (j : Nat) ∧ j < 8 := ⟨(k % 8).toNat, by omega, by omega⟩
  have HRD := Lib.hid (fun X : World => (round_any k 8 X (by omega) (by omega)).mono (R' := fun e w' => e = .returned (.int .i64 (j : Nat)) ∧ w' = X) fun _ _ h => ⟨by rw [h.1, hj.1], h.2.symm⟩)
  have hj8 := hj.2
  clear hL hM hmn hl hm hj
  go_enter Tryz.func5, Tryz.ntmps5
  go_wp2_with fail
  with_reducible refine HSO.out.mono ?_
  rintro e W2 ⟨js, ms, oa, cj, oms, cms, pts, op, cp, q, oq, cq, rfl, hrob, hgood, hpp, ⟨hql, hqi⟩, hqs, hb2⟩
  have hpl : pts.length ≤ 12 := by have := hgood.1; omega
  have HFI := Lib.hid (fits_some hrob hgood (by omega) hql hqi)
  have HP := Lib.hid hpp
  have HQ := Lib.hid hqs
  have HROB := Lib.hid hrob
  have HB2 := Lib.hid hb2
  have hq12 : q.length ≤ 12 := by have := hrob.1; omega
  have hj3 : js.length ≤ 3 := by have := hrob.1; omega
  obtain ⟨d, hd⟩ : ∃ d : Nat, js.length = d + 1 := ⟨js.length - 1, by have := hrob.1; omega⟩
  have HDM : Hid (∀ x ∈ pts, x.length = d + 1) := Lib.hid fun x hx => by rw [(hgood.2 x hx).1, hd]
  have HD0 : Hid (d ≤ 2) := Lib.hid (by omega)
  clear hrob hgood hpp hb2 hqs hqi HSO hql hd
  go_upto_region 2 with fail
  have hbx_ := blks1 W2 [.slice oa js.length cj, .slice oms ms.length cms] 25
  replace HP := Lib.hid (HP.out.keep hbx_.2)
  replace HQ := Lib.hid (HQ.out.keep hbx_.2)
  have HB3 := Lib.hid (hbx_.2)
  generalize W2.alloc (.cells #[.slice oa js.length cj, .slice oms ms.length cms] 25) = W3 at hbx_ HP HQ HB3 ⊢
  obtain ⟨r9, hbel_⟩ := hbx_
  obtain ⟨n9, hn_⟩ : ∃ n, n = W2.heap.size := ⟨_, rfl⟩
  rw [← hn_] at r9 ⊢
  clear hn_ hbel_
  have HROB := Lib.hid (show Sl W3 oa 12 (js.map JV.vals) ∧ Sl W3 oms 5 (ms.map MV.vals) ∧ ms.length ≤ 2 from by
    have h := HROB.out
    obtain ⟨_, h2, _, _, h5, h6⟩ := h
    exact ⟨h5.keep HB3.out, h6.keep HB3.out, h2⟩)
  have HB3 := Lib.hid (below_call HB2.out HB3.out)
  have HCN := Lib.hid (chain16 op cp pts d W3 HP.out (by omega) (by have := HD0.out; omega) HDM.out)
  have HR9 := Lib.hid r9
  clear r9 HB2
  go_wp2_with fail
  with_reducible refine HCN.out.mono ?_
  rintro e W4 ⟨os, ot, ct, rfl, hol, hos, hT, hb⟩
  have HFC : Hid (FitsP js ms pts (chT d pts.length os) q) := Lib.hid (by
    obtain ⟨f1, f2, f3, f4, f5⟩ := HFI.out
    refine ⟨f1, f2, f3, chain_ok f4.1 (fun hne => ?_) hol hos, f5⟩
    obtain ⟨x, l, rfl⟩ := List.exists_cons_of_ne_nil hne
    unfold dimP
    simpa using HDM.out x (by simp))
  have htl1 : (chT d pts.length os).length = pts.length := by rw [chT_len, hol]
  have htl2 : (buildP pts).length = pts.length := HFI.out.2.2.2.1.2.1
  generalize chT d pts.length os = t1 at hT HFC htl1
  have HP := Lib.hid (HP.out.keep hb)
  have HQ := Lib.hid (HQ.out.keep hb)
  have HT := Lib.hid hT
  have HROB := Lib.hid (show Sl W4 oa 12 (js.map JV.vals) ∧ Sl W4 oms 5 (ms.map MV.vals) ∧ ms.length ≤ 2 from ⟨HROB.out.1.keep hb, HROB.out.2.1.keep hb, HROB.out.2.2⟩)
  have HB4 := Lib.hid (below_call HB3.out hb)
  have HR9 := Lib.hid (HR9.out.keep hb)
  clear hol hos hT hb HCN HB3 HDM HD0
  obtain ⟨j1, hj1⟩ : ∃ j1 : Nat, j1 = 1 + j := ⟨_, rfl⟩
  have hw1 : IntKind.i64.wrap (1 + (j : Int)) = 1 + (j : Int) := IntWalk.i64_in _ (by omega)
  have E1 : Hid ((1 + (j : Int)) = ((j1 : Nat) : Int)) := Lib.hid (by omega)
  have HJJ : Hid (1 ≤ j1 ∧ j1 ≤ 8) := Lib.hid (by omega)
  clear hj1
  go_wp2_with fail
  refine (HRD.out _).mono ?_
  rintro e W5 ⟨rfl, hw5⟩
  subst hw5
  go_upto_region 4 with fail
  rw [E1.out]
  clear hw1 E1
  have hbd := fun (X : World) (hX : Below W5.heap.size W5 X) => build11 op cp pts X (HP.out.keep hX)
  generalize buildP pts = t2 at hbd htl2 HFI
  obtain ⟨mst, hmst⟩ : ∃ m, m = bits BinOp.and IntKind.i64 mo 262143 := ⟨_, rfl⟩
  obtain ⟨L, hLe⟩ : ∃ L, L = inL pts.length (dP js q pts) mst := ⟨_, rfl⟩
  have hLl : L.length ≤ 12 := by rw [hLe]; exact Nat.le_trans (inL_len _ _ _) hpl
  have hVA := fun (X : World) (hX : Below W5.heap.size W5 X) => valid13 op ot cp ct pts t1 X (HP.out.keep hX) (HT.out.keep hX) (by omega) (by omega)
  have hN1 := fun (X : World) (hX : Below W5.heap.size W5 X) =>
    nearest16 oa oms op ot oq cj cms cp ct cq js ms pts t1 q j1 X (by omega) (by have := HROB.out.2.2; omega) (HROB.out.1.keep hX) (HROB.out.2.1.keep hX) (HP.out.keep hX) (HT.out.keep hX) (HQ.out.keep hX) (by omega) (by omega) (by omega) HFC.out HJJ.out.1 (by have := HJJ.out; omega)
  have hN2 := fun (X : World) (hX : Below W5.heap.size W5 X) (ou : Option Addr) (cu : Nat) (hU : Sl X ou 4 (t2.map Nd.vals)) =>
    nearest16 oa oms op ou oq cj cms cp cu cq js ms pts t2 q j1 X (by omega) (by have := HROB.out.2.2; omega) (HROB.out.1.keep hX) (HROB.out.2.1.keep hX) (HP.out.keep hX) hU (HQ.out.keep hX) (by omega) (by omega) (by omega) HFI.out HJJ.out.1 (by have := HJJ.out; omega)
  have hW1 := fun (X : World) (hX : Below W5.heap.size W5 X) =>
    within13 oa oms op ot oq cj cms cp ct cq js ms pts t1 q mst X (by omega) (by have := HROB.out.2.2; omega) (HROB.out.1.keep hX) (HROB.out.2.1.keep hX) (HP.out.keep hX) (HT.out.keep hX) (HQ.out.keep hX) (by omega) (by omega) (by omega) HFC.out
  have hW2 := fun (X : World) (hX : Below W5.heap.size W5 X) (ou : Option Addr) (cu : Nat) (hU : Sl X ou 4 (t2.map Nd.vals)) =>
    within13 oa oms op ou oq cj cms cp cu cq js ms pts t2 q mst X (by omega) (by have := HROB.out.2.2; omega) (HROB.out.1.keep hX) (HROB.out.2.1.keep hX) (HP.out.keep hX) hU (HQ.out.keep hX) (by omega) (by omega) (by omega) HFI.out
  have hSM := fun (X : World) (R : List Nat) (b1 b2 : Nat) (h1 : Blk X b1 (pflat (R.map fun x => ((x : Nat) : Int)))) (h2 : Blk X b2 (pflat (R.map fun x => ((x : Nat) : Int)))) (hl : R.length ≤ 100000) => show Calls Tryz.prog 18 #[.slice (some ⟨b1, 0, none⟩) R.length R.length, .slice (some ⟨b2, 0, none⟩) R.length R.length] X (BoolP true X) from by
    have g1 := blk_sl R.length h1
    have g2 := blk_sl R.length h2
    rw [List.take_of_length_le (by simp)] at g1 g2
    have h := same17 (some ⟨b1, 0, none⟩) (some ⟨b2, 0, none⟩) R.length R.length (R.map fun x => ((x : Nat) : Int)) X g1 g2 (by simp; omega)
    rw [List.length_map] at h
    exact h
  have hSL := fun (X : World) (oW oV : Option Addr) (cW cV : Nat) (h1 : Sl X oW 1 (nvals L)) (h2 : Sl X oV 1 (nvals L)) => show Calls Tryz.prog 18 #[.slice oW L.length cW, .slice oV L.length cV] X (BoolP true X) from by
    have e : nvals L = pvals (L.map fun x => ((x : Nat) : Int)) := by simp [nvals, pvals]
    rw [e] at h1 h2
    have h := same17 oW oV cW cV (L.map fun x => ((x : Nat) : Int)) X h1 h2 (by simp; omega)
    rw [List.length_map] at h
    exact h
  unfold WithP at hW1 hW2
  rw [← hLe] at hW1 hW2
  rw [hmst] at hW1 hW2
  rw [htl1] at hN1 hW1 hVA
  have HVA := Lib.hid hVA
  have HN1 := Lib.hid hN1
  have HN2 := Lib.hid hN2
  have HW1 := Lib.hid hW1
  have HW2 := Lib.hid hW2
  have HSM := Lib.hid hSM
  have HSL := Lib.hid hSL
  have HBD := Lib.hid hbd
  have HKD := Lib.hid HFC.out.2.2.2.1
  have hmk : ∀ Y, Below W5.heap.size W5 Y → Y.cell? ⟨n9, 0, none⟩ = some (.slice oa js.length cj) ∧ Y.cell? ⟨n9, 1, none⟩ = some (.slice oms ms.length cms) ∧ Below W5.heap.size W5 Y := fun Y hY => ⟨(HR9.out.keep hY).c 0 _ rfl, (HR9.out.keep hY).c 1 _ rfl, hY⟩
  have hS := hmk W5 (Below.refl _ _)
  have HMK := Lib.hid hmk
  have l9 := HR9.out.lt
  have HJ8 : Hid (j1 ≤ 8) := Lib.hid HJJ.out.2
  clear hmk hVA hN1 hN2 hW1 hW2 hSM hSL hbd hmst hLe htl1 htl2 HFC HFI HT HP HQ HROB HRD
  go_region_held3 (fun Y => Y.cell? ⟨n9, 0, none⟩ = some (.slice oa js.length cj) ∧ Y.cell? ⟨n9, 1, none⟩ = some (.slice oms ms.length cms) ∧ Below W5.heap.size W5 Y)
    (first
      | assumption
      | exact HMK.out _ (by repeat (first | exact Below.refl _ _ | apply Below.drew | exact (by assumption : Hid (Below W5.heap.size W5 _)).out | exact (by assumption : _ ∧ _ ∧ Below W5.heap.size W5 _).2.2)))
    (first
      | (go_at_call 7
         refine (Tryz.awake _).mono ?_
         rintro e Xa ⟨rfl, hr⟩
         have HBX := Lib.hid (below_call (by assumption : _ ∧ _ ∧ Below W5.heap.size W5 _).2.2 hr))
      | (go_at_call 17
         with_reducible refine (HVA.out _ (by assumption : _ ∧ _ ∧ Below W5.heap.size W5 _).2.2).mono ?_
         rintro e Xa ⟨bv, rfl, hbv, hr⟩
         obtain rfl : bv = true := hbv.2 HKD.out
         clear hbv
         have HBX := Lib.hid (below_call (by assumption : _ ∧ _ ∧ Below W5.heap.size W5 _).2.2 hr))
      | (go_at_call 12
         with_reducible refine (HBD.out _ (by assumption : _ ∧ _ ∧ Below W5.heap.size W5 _).2.2).mono ?_
         rintro e Xa ⟨ou, cu, rfl, -, hu, hr, -⟩
         have HBX := Lib.hid (below_call (by assumption : _ ∧ _ ∧ Below W5.heap.size W5 _).2.2 hr))
      | (go_at_call 14
         with_reducible refine (HN1.out _ (by assumption : _ ∧ _ ∧ Below W5.heap.size W5 _).2.2).mono ?_
         rintro e Xa ⟨R, b1, hR, rfl, -, hr, hk1⟩
         have HBX := Lib.hid (below_call (by assumption : _ ∧ _ ∧ Below W5.heap.size W5 _).2.2 hr))
      | (go_at_call 14
         with_reducible refine (HN2.out _ (by assumption : _ ∧ _ ∧ Below W5.heap.size W5 _).2.2 _ _ (hu.keep (by repeat (first | exact Below.refl _ _ | apply Below.drew | refine below_call ?_ (by assumption))))).mono ?_
         rintro e Xa ⟨S, b2, hS2, rfl, -, hr, hk2⟩
         obtain rfl : S = R := hS2.uniq hR
         have HBX := Lib.hid (below_call (by assumption : _ ∧ _ ∧ Below W5.heap.size W5 _).2.2 hr))
      | (go_at_call 18
         with_reducible refine (HSM.out _ _ _ _ (hk1.keep (by repeat (first | exact Below.refl _ _ | apply Below.drew | refine below_call ?_ (by assumption)))) (hk2.keep (by repeat (first | exact Below.refl _ _ | apply Below.drew | refine below_call ?_ (by assumption)))) (by have h1 := hR.set.len; have h2 := HJ8.out; omega)).mono ?_
         rintro e Xa ⟨rfl, hr⟩
         have HBX := Lib.hid (below_call (by assumption : _ ∧ _ ∧ Below W5.heap.size W5 _).2.2 hr))
      | (go_at_call 13
         with_reducible refine (HW1.out _ (by assumption : _ ∧ _ ∧ Below W5.heap.size W5 _).2.2).mono ?_
         rintro e Xa ⟨oW, cW, rfl, hs1, hr, -⟩
         have HBX := Lib.hid (below_call (by assumption : _ ∧ _ ∧ Below W5.heap.size W5 _).2.2 hr))
      | (go_at_call 13
         with_reducible refine (HW2.out _ (by assumption : _ ∧ _ ∧ Below W5.heap.size W5 _).2.2 _ _ (hu.keep (by repeat (first | exact Below.refl _ _ | apply Below.drew | refine below_call ?_ (by assumption))))).mono ?_
         rintro e Xa ⟨oV, cV, rfl, hs2, hr, -⟩
         have HBX := Lib.hid (below_call (by assumption : _ ∧ _ ∧ Below W5.heap.size W5 _).2.2 hr))
      | (go_at_call 18
         with_reducible refine (HSL.out _ _ _ _ _ (hs1.keep (by repeat (first | exact Below.refl _ _ | apply Below.drew | refine below_call ?_ (by assumption)))) (hs2.keep (by repeat (first | exact Below.refl _ _ | apply Below.drew | refine below_call ?_ (by assumption))))).mono ?_
         rintro e Xa ⟨rfl, hr⟩
         have HBX := Lib.hid (below_call (by assumption : _ ∧ _ ∧ Below W5.heap.size W5 _).2.2 hr)))
  all_goals
    go_wp2_with fail
    go_ret
    exact ⟨rfl, below_call HB4.out HBX.out⟩
end Go.Proofs.Ng
end

section
/-
  What the readings of the arguments say of memory.
-/
namespace Go.Proofs.Ng
open Go.RowKit
theorem list_of {A : Type} (P : Nat → A → Prop) : ∀ n : Nat, (∀ i, i < n → ∃ r, P i r) → ∃ rs : List A, rs.length = n ∧ ∀ (i : Nat) (r : A), rs[i]? = some r → P i r
  | 0, _ => ⟨[], rfl, fun i r h => by simp at h⟩
  | n + 1, h => by
    obtain ⟨rs, hl, hr⟩ := list_of P n fun i hi => h i (by omega)
    obtain ⟨r, hp⟩ := h n (by omega)
    refine ⟨rs ++ [r], by simp [hl], fun i r' hi => ?_⟩
    rcases Nat.lt_or_ge i rs.length with hlt | hge
    · rw [List.getElem?_append_left hlt] at hi
      exact hr i r' hi
    · rw [List.getElem?_append_right hge] at hi
      have : i = n := by
        rcases Nat.eq_or_lt_of_le hge with h | h
        · omega
        · rw [List.getElem?_eq_none (by simp; omega)] at hi; cases hi
      subst this
      have e : i - rs.length = 0 := by omega
      rw [e] at hi
      simp at hi
      subst hi
      exact hp

/-- A slice that is read lies in memory, row for row. -/
theorem open_rows {H : Type} {enc : TypeId × Value → H} {P : Program} {w : World} {base : Nat} {spare : Nat → Bool} {held : Bool} {A : Type} (f : A → List Value) {t e : TypeId} {n fuel : Nat} {v : Value} {x : DataW H × List MemPlace} (ht : P.underlying t = some (.slice e)) (hc : P.cellsOf e = n) (hn : 0 < n)
    (hrow : ∀ (m : Nat) (cs : List Value) (y : DataW H × List MemPlace), cs.length = n → DataW.trod enc P w base spare held m e cs = some y → ∃ r : A, cs = f r)
    (h : DataW.trod enc P w base spare held fuel t [v] = some x) : ∃ (oa : Option Addr) (cap : Nat) (rs : List A), v = .slice oa rs.length cap ∧ rs.length ≤ 9223372036854775807 ∧ Sl w oa n (rs.map f) ∧ (oa = none → rs = [] ∧ cap = 0) ∧ (x.1 = .nil ∧ rs = [] ∨ ∃ elems spare, x.1 = .slice elems spare ∧ elems.length = rs.length) := by
  rcases Go.Deep.open_slice ht h with ⟨h0, hx0⟩ | ⟨a, len, cap, m, k, D, Pl, h1, hb, hl, hm, hmm, hx0, hx⟩
  · injection h0 with h0 _
    subst h0
    exact ⟨none, 0, [], rfl, by simp, fun h => absurd rfl h, fun _ => ⟨rfl, rfl⟩, .inl ⟨by rw [hx0], rfl⟩⟩
  · injection h1 with h1 _
    subst h1
    have hlm : len ≤ m := by rw [hmm]; split <;> omega
    obtain ⟨rs, hrl, hr⟩ := list_of (fun i r => w.cells? base (a.add (i * n)) n = some (f r)) len (fun i hi => by
      obtain ⟨cs, c1, c2⟩ := hx i (by omega)
      rw [hc] at c1
      obtain ⟨r, rfl⟩ := hrow _ _ _ (World.cells?_some c1).2.1 c2
      exact ⟨r, c1⟩)
    subst hrl
    refine ⟨some a, cap, rs, rfl, by unfold maxLen at hm; omega, fun hne => ?_, fun h => by (cases h), .inr ⟨_, _, by rw [hx0], by simp⟩⟩
    have hne' : rs ≠ [] := fun h => hne (by simp [h])
    have cell : ∀ (i : Nat) (r : A), rs[i]? = some r → ∀ q u, (f r)[q]? = some u → w.cell? ((a.add (i * n)).add q) = some u := by
      intro i r hi q u hq
      obtain ⟨_, c2, c3⟩ := World.cells?_some (hr i r hi)
      have hqn : q < n := by
        rcases Nat.lt_or_ge q (f r).length with h' | h'
        · omega
        · rw [List.getElem?_eq_none h'] at hq; cases hq
      rw [c3 q hqn, hq]
    -- the slice's address has no spot
    have sp : a.spot = none := by
      cases rs with
      | nil => exact absurd rfl hne'
      | cons r0 rt =>
        obtain ⟨_, c2, c3⟩ := World.cells?_some (hr 0 r0 rfl)
        have c4 := c3 0 hn
        have : (f r0)[0]? = some ((f r0)[0]'(by omega)) := List.getElem?_eq_getElem _
        rw [this] at c4
        cases hs : a.spot with
        | none => rfl
        | some s =>
          exfalso
          have e0 : ((a.add (0 * n)).add 0) = a := by simp [Addr.add]
          rw [e0] at c4
          unfold World.cell? at c4
          rw [hs] at c4
          revert c4
          cases w.heap[a.block]? with
          | none => simp
          | some o => cases o <;> simp
    obtain ⟨b, off, sp'⟩ := a
    simp at sp
    subst sp
    refine ⟨b, off, rfl, ?_, fun i r hi q u hq => ?_⟩
    · cases rs with
      | nil => exact absurd rfl hne'
      | cons r0 rt =>
        obtain ⟨_, c2, c3⟩ := World.cells?_some (hr 0 r0 rfl)
        have c4 := c3 0 hn
        have : (f r0)[0]? = some ((f r0)[0]'(by omega)) := List.getElem?_eq_getElem _
        rw [this] at c4
        rcases Nat.lt_or_ge b w.heap.size with h' | h'
        · exact h'
        · exfalso
          have e0 : (((⟨b, off, none⟩ : Addr).add (0 * n)).add 0) = ⟨b, off, none⟩ := by simp [Addr.add]
          rw [e0] at c4
          simp [World.cell?, Array.getElem?_eq_none h'] at c4
    · rw [List.getElem?_map] at hi
      cases hri : rs[i]? with
      | none => rw [hri] at hi; cases hi
      | some r' =>
        rw [hri] at hi
        simp at hi
        subst hi
        rw [← cell i r' hri q u hq]
        congr 1
        simp only [Addr.add]
        split <;> split <;> simp_all <;> omega

theorem row_int {H : Type} {enc : TypeId × Value → H} {w : World} {base : Nat} {spare : Nat → Bool} {held : Bool} (e : TypeId) (hu : Tryz.prog.underlying e = some (.int .i64)) (m : Nat) (cs : List Value) (y : DataW H × List MemPlace) (_ : cs.length = 1) (h : DataW.trod enc Tryz.prog w base spare held m e cs = some y) : ∃ r : Int, cs = [.int .i64 r] := by
  obtain ⟨n, rfl, _⟩ := DataW.trod_int hu h
  exact ⟨n, rfl⟩
theorem clo3 : Tryz.prog.cellsOf 3 = 1 := by kernel_rfl
theorem open_nums {H : Type} {enc : TypeId × Value → H} {w : World} {base : Nat} {spare : Nat → Bool} {held : Bool} {t e : TypeId} {fuel : Nat} {v : Value} {x : DataW H × List MemPlace} (ht : Tryz.prog.underlying t = some (.slice e)) (hu : Tryz.prog.underlying e = some (.int .i64)) (hc : Tryz.prog.cellsOf e = 1)
    (h : DataW.trod enc Tryz.prog w base spare held fuel t [v] = some x) : ∃ (oa : Option Addr) (cap : Nat) (rs : List Int), v = .slice oa rs.length cap ∧ rs.length ≤ 9223372036854775807 ∧ Sl w oa 1 (pvals rs) ∧ (oa = none → rs = [] ∧ cap = 0) ∧ (x.1 = .nil ∧ rs = [] ∨ ∃ elems spare, x.1 = .slice elems spare ∧ elems.length = rs.length) :=
  open_rows (fun p : Int => [.int .i64 p]) ht hc (by omega) (row_int e hu) h
theorem laidOut : laidOutB Tryz.prog = true := by kernel_rfl
open Go.ChangeShapes Go.WideShapes Go.ChangeAt
set_option linter.unusedVariables false
/-- The post, of a world of which it is known that nothing that stood before has changed. -/
theorem post_below {H : Type} {enc : TypeId × Value → H} {P : Program} {f : Func} {s : ChangeSpec} {apart fresh handsOn again : Bool} {W W' : World} {args : Array Value} {v : Value} {ds gs : List (DataW H)} {before pa pv : List MemPlace}
    (hW : DataW.Whole enc P f.params.toList s.vars apart W args.toList ds gs before)
    (hres : ∀ (b : Nat) (sp : Nat → Bool) (hd : Bool), DataW.TrodAll enc P W' b sp hd f.resultTypes.toList (v.resultList f.resultTypes.size) (s.fn H (ds ++ gs)).results [])
    (hargs : ∀ sp : Nat → Bool, (∀ p ∈ before, sp p.block = true) → DataW.TrodAll enc P W' 0 sp true f.params.toList args.toList (s.fn H (ds ++ gs)).args pa)
    (hvars : ∀ sp : Nat → Bool, (∀ p ∈ before, sp p.block = true) → DataW.TrodVars enc P W' sp s.vars (s.fn H (ds ++ gs)).vars pv)
    (hps : before = pa ++ pv) (hb : Below W.heap.size W W')
    (hok : ∀ (j : Nat) (t : TypeId) (r : Value), f.resultTypes[j]? = some t → (v.resultList f.resultTypes.size)[j]? = some r → Value.okWide P W' .any 0 t r) :
    s.post enc P f apart fresh handsOn again W args v W' := by
  have hlt : ∀ p ∈ before, p.block < W.heap.size := fun p hp => hW.lt p hp
  have hold : ∀ p ∈ before, (fun b => decide (b < W.heap.size)) p.block = true := fun p hp => by simpa using hlt p hp
  refine ⟨ds, gs, before, [], pa, pv, hW, hres _ _ _, hargs _ hold, hvars _ hold, World.keptBut_mono (fun p hp => ⟨hp, ?_⟩) (hb.frame (· ∈ before)), fun _ => ?_⟩
  · rw [hps, List.mem_append] at hp
    exact Or.inr hp
  · obtain ⟨_, _, _, _, _, hz, hn⟩ := hW
    refine ⟨hok, _, _, ([] ++ pa) ++ pv, ⟨[] ++ pa, pv, trodAll_append (hargs _ (fun _ _ => rfl)) (hres _ _ _), hvars _ (fun _ _ => rfl), rfl, ?_, ?_⟩, ?_⟩
    · intro b off hp
      have hin : MemPlace.cell b off ∈ before := by rw [hps]; simpa using hp
      rw [hb.frozen (hlt _ hin)]
      exact hz b off hin
    · intro ha
      have := hn ha
      rw [hps] at this
      simpa using this
    · intro p hp _
      rw [hps]
      simpa using hp


/-- What was read reads as it did. -/
theorem stays {H : Type} {enc : TypeId × Value → H} {P : Program} (hl : laidOutB P = true) {W W' : World} {sp' : Nat → Bool} : ∀ (ts : List TypeId) (vs : List Value) (ds : List (DataW H)) (ps : List MemPlace), (∀ t ∈ ts, P.readableRec t = true ∧ t < P.types.size) →
    DataW.TrodAll enc P W 0 (fun _ => true) true ts vs ds ps → (∀ p ∈ ps, W.sameAt W' p) → (∀ p ∈ ps, sp' p.block = true) → DataW.TrodAll enc P W' 0 sp' true ts vs ds ps
  | [], [], [], ps, _, h, _, _ => h
  | t :: ts, v :: vs, d :: ds, ps, ht, h, h1, h2 => by
    obtain ⟨p, q, a, b, rfl⟩ := h
    exact ⟨p, q, WideElems.Trod_stays hl (ht t (by simp)).1 (ht t (by simp)).2 a (fun x hx => h1 x (by simp [hx])) (fun x hx => h2 x (by simp [hx])), stays hl ts vs ds q (fun t h => ht t (by simp [h])) b (fun x hx => h1 x (by simp [hx])) (fun x hx => h2 x (by simp [hx])), rfl⟩
  | [], _ :: _, _, _, _, h, _, _ => by simp [DataW.TrodAll] at h
  | [], [], _ :: _, _, _, h, _, _ => by simp [DataW.TrodAll] at h
  | _ :: _, [], _, _, _, h, _, _ => by simp [DataW.TrodAll] at h
  | _ :: _, _ :: _, [], _, _, h, _, _ => by simp [DataW.TrodAll] at h

theorem own24 : ownKnob Tryz.prog.godebug = none := by kernel_rfl
theorem clo2 : Tryz.prog.cellsOf 2 = 1 := by kernel_rfl
theorem clo31 : Tryz.prog.cellsOf 28 = 1 := by kernel_rfl
theorem clo36 : Tryz.prog.cellsOf 57 = 4 := by kernel_rfl
theorem read3 : Tryz.prog.readableRec 3 = true ∧ 3 < Tryz.prog.types.size := ⟨by kernel_rfl, of_decide_eq_true (by kernel_rfl)⟩
theorem read22 : Tryz.prog.readableRec 26 = true ∧ 26 < Tryz.prog.types.size := ⟨by kernel_rfl, of_decide_eq_true (by kernel_rfl)⟩
theorem read23 : Tryz.prog.readableRec 27 = true ∧ 27 < Tryz.prog.types.size := ⟨by kernel_rfl, of_decide_eq_true (by kernel_rfl)⟩
theorem read24 : Tryz.prog.readableRec 29 = true ∧ 29 < Tryz.prog.types.size := ⟨by kernel_rfl, of_decide_eq_true (by kernel_rfl)⟩
/-- A slice of points, as it is read. -/
theorem open_pts {H : Type} {enc : TypeId × Value → H} {w : World} {base : Nat} {spare : Nat → Bool} {held : Bool} {fuel : Nat} {v : Value} {x : DataW H × List MemPlace}
    (h : DataW.trod enc Tryz.prog w base spare held fuel 26 [v] = some x) : ∃ (oa : Option Addr) (cap : Nat) (pts : List (List Int)), v = .slice oa pts.length cap ∧ Pts w oa pts := by
  obtain ⟨oa, cap, rs, rfl, _, hs, _⟩ := open_rows (A := { p : Value × List Int // PtAt w p.1 p.2 }) (fun r => [r.1.1]) Tryz.underlying26 clo31 (by omega) (fun m cs y hc hy => by
    match cs, hc with
    | [u], _ =>
      obtain ⟨ox, cx, xs, rfl, _, hX, _⟩ := open_nums Tryz.underlying28 Tryz.underlying2 clo2 hy
      exact ⟨⟨(.slice ox xs.length cx, xs), ox, cx, rfl, hX⟩, rfl⟩) h
  refine ⟨oa, cap, rs.map fun r => r.1.2, by simp, ⟨rs.map fun r => r.1.1, by simp, by rw [List.map_map]; exact hs, fun k u xs hu hx => ?_⟩⟩
  rw [List.getElem?_map, Option.map_eq_some_iff] at hu hx
  obtain ⟨r, hr, rfl⟩ := hu
  obtain ⟨r', hr', rfl⟩ := hx
  rw [hr] at hr'
  injection hr' with hr'
  subst hr'
  exact r.2
theorem get_some' {A : Type} {xs : List A} {n i : Nat} (h : xs.length = n) (hi : i < n) : ∃ y, xs[i]? = some y := ⟨_, List.getElem?_eq_getElem (by omega)⟩
set_option maxRecDepth 100000 in
theorem row_node {H : Type} {enc : TypeId × Value → H} {w : World} {base : Nat} {spare : Nat → Bool} {held : Bool} (m : Nat) (cs : List Value) (y : DataW H × List MemPlace) (_ : cs.length = 4) (h : DataW.trod enc Tryz.prog w base spare held m 57 cs = some y) : ∃ r : Nd, cs = r.vals := by
  obtain ⟨xs, n, _, _, hc, hl, hf⟩ := DataW.trod_struct Tryz.underlying57 h
  rw [clo36] at hc
  match cs, hc with
  | [a, b, c, d], _ =>
    have hl' : xs.length = 4 := hl
    obtain ⟨y0, g0⟩ := get_some' hl' (i := 0) (by omega)
    have h0 : DataW.trod enc Tryz.prog w base spare held n 3 (List.take (Tryz.prog.cellsOf 3) (List.drop 0 ([a, b, c, d] : List Value))) = xs[0]? := hf 0 _ rfl
    simp only [g0] at h0
    obtain ⟨y1, g1⟩ := get_some' hl' (i := 1) (by omega)
    have h1 : DataW.trod enc Tryz.prog w base spare held n 3 (List.take (Tryz.prog.cellsOf 3) (List.drop 1 ([a, b, c, d] : List Value))) = xs[1]? := hf 1 _ rfl
    simp only [g1] at h1
    obtain ⟨y2, g2⟩ := get_some' hl' (i := 2) (by omega)
    have h2 : DataW.trod enc Tryz.prog w base spare held n 3 (List.take (Tryz.prog.cellsOf 3) (List.drop 2 ([a, b, c, d] : List Value))) = xs[2]? := hf 2 _ rfl
    simp only [g2] at h2
    obtain ⟨y3, g3⟩ := get_some' hl' (i := 3) (by omega)
    have h3 : DataW.trod enc Tryz.prog w base spare held n 3 (List.take (Tryz.prog.cellsOf 3) (List.drop 3 ([a, b, c, d] : List Value))) = xs[3]? := hf 3 _ rfl
    simp only [g3] at h3
    rw [clo3] at h0 h1 h2 h3
    obtain ⟨x0, e0⟩ := row_int 3 Tryz.underlying3 _ _ _ rfl h0
    obtain ⟨x1, e1⟩ := row_int 3 Tryz.underlying3 _ _ _ rfl h1
    obtain ⟨x2, e2⟩ := row_int 3 Tryz.underlying3 _ _ _ rfl h2
    obtain ⟨x3, e3⟩ := row_int 3 Tryz.underlying3 _ _ _ rfl h3
    simp at e0 e1 e2 e3
    subst e0 e1 e2 e3
    exact ⟨⟨x0, x1, x2, x3⟩, rfl⟩
theorem open_nodes {H : Type} {enc : TypeId × Value → H} {w : World} {base : Nat} {spare : Nat → Bool} {held : Bool} {fuel : Nat} {v : Value} {x : DataW H × List MemPlace}
    (h : DataW.trod enc Tryz.prog w base spare held fuel 27 [v] = some x) : ∃ (oa : Option Addr) (cap : Nat) (t : List Nd), v = .slice oa t.length cap ∧ Sl w oa 4 (t.map Nd.vals) := by
  obtain ⟨oa, cap, rs, rfl, _, hs, _⟩ := open_rows Nd.vals Tryz.underlying27 clo36 (by omega) row_node h
  exact ⟨oa, cap, rs, rfl, hs⟩
end Go.Proofs.Ng
end

