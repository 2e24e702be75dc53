/-
  Texts put together: Dw Ec Co.
-/
import Derived.Test.YteeeogdfnpdpcaaZNeighborOrder25
import Derived.Test.YteeeogdfnpdpcaaZNeighborOrder11
import Derived.Test.YteeeogdfnpdpcaaZNeighborOrder14
import Derived.Deep.Slices
import Derived.OpenShut
import Derived.ChangeArms
import Derived.ProofKit
import Derived.ChangeSame
import Derived.Carry
import Derived.Below
import Derived.Lib.SmallJoins
set_option linter.unusedVariables false
section
/-
  The law NeighborNearer.
-/
namespace Go.Proofs.Ng
open Go.RowKit

set_option maxRecDepth 100000 in
set_option maxHeartbeats 4000000 in
theorem nearer5 (ol om : Option Addr) (cl cm : Nat) (ls xs : List Int) (n k : Int) (w : World) (hL : Sl w ol 1 (pvals ls)) (hl : ls.length ≤ 9223372036854775807) (hM : Sl w om 1 (pvals xs)) (hm : xs.length * 8 ≤ 140737488351232) (hmn : om = none → xs = [] ∧ cm = 0) :
    Calls Try.prog 5 #[.slice ol ls.length cl, .slice om xs.length cm, .int .i64 n, .int .i64 k] w (BoolP true w) := by
  have HSO := Lib.hid (some9 ol om cl cm ls xs n w hL hl hM hm hmn)
  obtain ⟨j, hj⟩ : ∃ j : Nat, k % 8 = (j : Nat) ∧ j < 8 := ⟨(k % 8).toNat, by omega, by omega⟩
  have HRD := Lib.hid (fun X : World => (round_any k 8 X (by omega) (by omega)).mono (R' := fun e w' => e = .returned (.int .i64 (j : Nat)) ∧ w' = X) fun _ _ h => ⟨by rw [h.1, hj.1], h.2.symm⟩)
  have hj8 := hj.2
  clear hL hM hmn hl hm hj
  go_enter Try.func5, Try.ntmps5
  go_wp2_with fail
  with_reducible refine HSO.out.mono ?_
  rintro e W2 ⟨js, ms, oa, cj, oms, cms, pts, op, cp, q, oq, cq, rfl, hrob, hgood, hpp, ⟨hql, hqi⟩, hqs, hb2⟩
  have hpl : pts.length ≤ 12 := by have := hgood.1; omega
  have HFI := Lib.hid (fits_some hrob hgood (by omega) hql hqi)
  have HP := Lib.hid hpp
  have HQ := Lib.hid hqs
  have HROB := Lib.hid hrob
  have HB2 := Lib.hid hb2
  have HQL := Lib.hid hql
  have hq12 : q.length ≤ 12 := by have := hrob.1; omega
  have hj3 : js.length ≤ 3 := by have := hrob.1; omega
  clear hrob hgood hpp hb2 hqs hqi HSO hql
  go_upto_region 2 with fail
  have hbx_ := blks1 W2 [.slice oa js.length cj, .slice oms ms.length cms] 30
  replace HP := Lib.hid (HP.out.keep hbx_.2)
  replace HQ := Lib.hid (HQ.out.keep hbx_.2)
  have HB3 := Lib.hid (hbx_.2)
  generalize W2.alloc (.cells #[.slice oa js.length cj, .slice oms ms.length cms] 30) = W3 at hbx_ HP HQ HB3 ⊢
  obtain ⟨r9, hbel_⟩ := hbx_
  obtain ⟨n9, hn_⟩ : ∃ n, n = W2.heap.size := ⟨_, rfl⟩
  rw [← hn_] at r9 ⊢
  clear hn_ hbel_
  have HROB := Lib.hid (show Sl W3 oa 12 (js.map JV.vals) ∧ Sl W3 oms 5 (ms.map MV.vals) ∧ ms.length ≤ 2 from by
    have h := HROB.out
    obtain ⟨_, h2, _, _, h5, h6⟩ := h
    exact ⟨h5.keep HB3.out, h6.keep HB3.out, h2⟩)
  have HB3 := Lib.hid (below_call HB2.out HB3.out)
  have hbd := build11 op cp pts W3 HP.out
  have HOK := Lib.hid (HFI.out.2.2.2.1)
  generalize buildP pts = t at hbd HOK HFI
  have HBD := Lib.hid hbd
  have ht12 : t.length ≤ 12 := by have := HOK.out.2.1; omega
  have HR9 := Lib.hid r9
  clear hbd r9 HB2
  go_wp2_with fail
  with_reducible refine HBD.out.mono ?_
  rintro e W4 ⟨ot, ct, rfl, -, hst, hb, -⟩
  have HT := Lib.hid hst
  have HP := Lib.hid (HP.out.keep hb)
  have HQ := Lib.hid (HQ.out.keep hb)
  have HROB := Lib.hid (show Sl W4 oa 12 (js.map JV.vals) ∧ Sl W4 oms 5 (ms.map MV.vals) ∧ ms.length ≤ 2 from ⟨HROB.out.1.keep hb, HROB.out.2.1.keep hb, HROB.out.2.2⟩)
  have HB4 := Lib.hid (below_call HB3.out hb)
  have HR9 := Lib.hid (HR9.out.keep hb)
  clear hst hb HBD HB3
  obtain ⟨j1, hj1⟩ : ∃ j1 : Nat, j1 = 1 + j := ⟨_, rfl⟩
  obtain ⟨j2, hj2⟩ : ∃ j2 : Nat, j2 = j1 + 1 := ⟨_, rfl⟩
  have hw1 : IntKind.i64.wrap (1 + (j : Int)) = 1 + (j : Int) := IntWalk.i64_in _ (by omega)
  have E1 : Hid ((1 + (j : Int)) = ((j1 : Nat) : Int)) := Lib.hid (by omega)
  have E2 : Hid (((j2 : Nat) : Int) = (j1 : Int) + 1) := Lib.hid (by omega)
  have HJJ : Hid (j2 = j1 + 1 ∧ 1 ≤ j1 ∧ j1 ≤ 8) := Lib.hid (by omega)
  clear hj1 hj2
  go_wp2_with fail
  refine (HRD.out _).mono ?_
  rintro e W5 ⟨rfl, hw5⟩
  subst hw5
  go_upto_region 4 with fail
  rw [E1.out]
  clear hw1 E1
  have hw2 : IntKind.i64.wrap ((j1 : Int) + 1) = (j1 : Int) + 1 := IntWalk.i64_in _ (by have := HJJ.out; omega)
  have hNN : ∀ (X : World) (k : Nat), Below W5.heap.size W5 X → 1 ≤ k → k ≤ 100 → Calls Try.prog 16 #[.agg #[.slice oa js.length cj, .slice oms ms.length cms], .slice op pts.length cp, .slice ot t.length ct, .slice oq q.length cq, .int .i64 (k : Nat)] X (NearP k pts.length (dP js q pts) X) := fun X k hX h1 h2 =>
    nearest16 oa oms op ot oq cj cms cp ct cq js ms pts t q k X (by omega) (by have := HROB.out.2.2; omega) (HROB.out.1.keep hX) (HROB.out.2.1.keep hX) (HP.out.keep hX) (HT.out.keep hX) (HQ.out.keep hX) (by omega) (by omega) (by omega) HFI.out h1 (by omega)
  have HN1 := Lib.hid (fun (X : World) (hX : Below W5.heap.size W5 X) => hNN X j1 hX HJJ.out.2.1 (by have := HJJ.out; omega))
  have HN2 := Lib.hid (fun (X : World) (hX : Below W5.heap.size W5 X) => hNN X j2 hX (by have := HJJ.out; omega) (by have := HJJ.out; omega))
  rw [E2.out] at HN2
  clear hNN E2
  have hmk : ∀ Y, Below W5.heap.size W5 Y → Y.cell? ⟨n9, 0, none⟩ = some (.slice oa js.length cj) ∧ Y.cell? ⟨n9, 1, none⟩ = some (.slice oms ms.length cms) ∧ Below W5.heap.size W5 Y := fun Y hY => ⟨(HR9.out.keep hY).c 0 _ rfl, (HR9.out.keep hY).c 1 _ rfl, hY⟩
  have hS := hmk W5 (Below.refl _ _)
  have HMK := Lib.hid hmk
  have l9 := HR9.out.lt
  clear hmk
  go_cut [14, 15] (fun u v X => ∃ (R S : List Nat) (b1 b2 : Nat), NearL j1 pts.length (dP js q pts) R ∧ NearL j2 pts.length (dP js q pts) S ∧ u = .slice (some ⟨b1, 0, none⟩) R.length R.length ∧ v = .slice (some ⟨b2, 0, none⟩) S.length S.length ∧ Blk X b1 (pflat (R.map fun x => ((x : Nat) : Int))) ∧ Blk X b2 (pflat (S.map fun x => ((x : Nat) : Int))) ∧ Below W5.heap.size W5 X)
  case first =>
    go_region_held3 (fun Y => Y.cell? ⟨n9, 0, none⟩ = some (.slice oa js.length cj) ∧ Y.cell? ⟨n9, 1, none⟩ = some (.slice oms ms.length cms) ∧ Below W5.heap.size W5 Y)
      (first
        | assumption
        | exact HMK.out _ (by repeat (first | assumption | exact Below.refl _ _ | apply Below.drew | exact (by assumption : _ ∧ _ ∧ Below W5.heap.size W5 _).2.2)))
      (first
        | (go_at_call 16
           with_reducible refine (HN1.out _ (by assumption : _ ∧ _ ∧ Below W5.heap.size W5 _).2.2).mono ?_
           rintro e Xa ⟨R, b1, hR, rfl, hb1, hba, hk1⟩
           have hbs := (by assumption : _ ∧ _ ∧ Below W5.heap.size W5 _).2.2
           have hr1 := hba
           replace hba := below_call hbs hba)
        | (go_at_call 16
           with_reducible refine (HN2.out _ (by assumption : _ ∧ _ ∧ Below W5.heap.size W5 _).2.2).mono ?_
           rintro e Xb ⟨S, b2, hS2, rfl, hb2, hbb, hk2⟩
           have hbs := (by assumption : _ ∧ _ ∧ Below W5.heap.size W5 _).2.2
           have hr2 := hbb
           replace hbb := below_call hbs hbb))
    all_goals
      go_wp2_with fail
      go_meet
      exact ⟨R, S, b1, b2, hR, hS2, rfl, rfl, by first | exact hk1 | exact hk1.keep hr2 | exact (hk1.keep (Below.refl _ _).drew).keep hr2, by first | exact hk2 | exact hk2.keep hr1 | exact (hk2.keep (Below.refl _ _).drew).keep hr1, by first | exact hbb | exact hba⟩
  case rest =>
    obtain ⟨R, S, b1, b2, hR, hS2, rfl, rfl, hk1, hk2, hb6⟩ := hcut
    clear hS HMK HN1 HN2 l9 hw2
    have hmore := near_more hR (by have := HJJ.out.1; subst this; exact hS2)
    have hlR := hR.set.len
    have hlS := hS2.set.len
    have hRS : R.length ≤ S.length := by have := HJJ.out; omega
    have hmn1 : ((R.length : Int) != min (j1 : Int) (pts.length : Int)) = false := by simp; omega
    have hmn2 : ((S.length : Int) != min ((j1 : Int) + 1) (pts.length : Int)) = false := by have := HJJ.out; simp; omega
    have hw2 : IntKind.i64.wrap ((j1 : Int) + 1) = (j1 : Int) + 1 := IntWalk.i64_in _ (by have := HJJ.out; omega)
    have hlt12 : R.length ≤ 12 := by omega
    have hsl1 : Sl wc (some ⟨b1, 0, none⟩) 1 (pvals (R.map fun x => ((x : Nat) : Int))) := by
      have h := blk_sl R.length hk1
      rwa [List.take_of_length_le (by simp)] at h
    have hsl2 : Sl wc (some ⟨b2, 0, none⟩) 1 (pvals (R.map fun x => ((x : Nat) : Int))) := by
      have h := blk_sl R.length hk2
      rwa [← List.map_take, ← hmore] at h
    have HSM := Lib.hid (same17 (some ⟨b1, 0, none⟩) (some ⟨b2, 0, none⟩) R.length S.length (R.map fun x => ((x : Nat) : Int)) wc hsl1 hsl2 (by simp; omega))
    rw [List.length_map] at HSM
    have HK1 := Lib.hid hk1
    have HK2 := Lib.hid hk2
    have HB6 := Lib.hid hb6
    have HMO := Lib.hid hmore
    have HRR := Lib.hid hR
    have HLR := Lib.hid hlR
    have HLS := Lib.hid hlS
    have HSL1 := Lib.hid hsl1
    clear hk1 hk2 hb6 hmore hR hS2 hlR hlS hsl1 hsl2
    go_wp2_with fail
    with_reducible refine HSM.out.mono ?_
    rintro e W7 ⟨rfl, hb7⟩
    have hmk := run_make44 pts.length (by omega)
    have HB7 := Lib.hid (below_call HB6.out hb7)
    have HSL7 := Lib.hid (HSL1.out.keep hb7)
    clear hb7 HSM HSL1 hmn1 hmn2 hw2
    go_upto_region 10 with fail
    obtain ⟨gI, hgI⟩ : ∃ n, n = W7.heap.size := ⟨_, rfl⟩
    have kI : Blk (W7.alloc (.cells (bls (List.replicate pts.length false)).toArray 4)) gI (bls (inB pts.length (R.take 0))) := by
      rw [List.take_zero, inB_nil, hgI]
      exact Blk.new W7 _ 4
    have kB : Below W7.heap.size W7 (W7.alloc (.cells (bls (List.replicate pts.length false)).toArray 4)) := (Below.refl _ _).alloc (Nat.le_refl _) _
    rw [← hgI]
    have HGI := Lib.hid hgI
    clear hmk hgI
    go_loopw [17, 18, 19] (fun f i d X => ∃ (k : Nat) (fv : Int), i = .int .i64 (k : Nat) ∧ k ≤ R.length ∧ f = .int .i64 fv ∧ (fv = -1 ∨ ∃ i' a, i' < k ∧ R[i']? = some a ∧ fv = dP js q pts a) ∧ Blk X gI (bls (inB pts.length (R.take k))) ∧ Below W7.heap.size W7 X) (fun _ i _ _ => R.length - (intOf i).toNat)
    case atStart => exact ⟨0, -1, rfl, Nat.zero_le _, rfl, .inl rfl, kI, kB⟩
    case round =>
      clear kI kB
      obtain ⟨k', fv, rfl, hk', rfl, hfv, kI, kB⟩ := hrel
      by_cases hlt : k' < R.length
      · obtain ⟨a, ha⟩ : ∃ a, R[k']? = some a := ⟨_, List.getElem?_eq_getElem hlt⟩
        have han : a < pts.length := HRR.out.set.lt a (List.mem_of_getElem? ha)
        have hnt : a ∉ R.take k' := by
          obtain ⟨h1, h2⟩ := List.getElem?_eq_some_iff.1 ha
          have hd : R.drop k' = a :: R.drop (k' + 1) := by rw [List.drop_eq_getElem_cons h1, h2]
          have hn := HRR.out.set.nd
          rw [← List.take_append_drop k' R, hd, List.nodup_append] at hn
          exact fun h => hn.2.2 a h a (by simp) rfl
        obtain ⟨br, offr, hbr, z1, lr⟩ := pv_get (HSL7.out.keep kB) (show (R.map fun x => ((x : Nat) : Int))[k']? = some ((a : Nat) : Int) by rw [List.getElem?_map, ha]; rfl)
        injection hbr with hbr
        injection hbr with hb0 hb1
        subst hb0
        subst hb1
        have z2 : wr.cell? ⟨gI, a, none⟩ = some (.bool false) := kI.c a _ (bls_get (by rw [inB_get han]; simp [hnt]))
        have lI := kI.lt
        have fI := kI.f a
        have ha0 : decide ((a : Int) < 0) = false := decide_eq_false (by omega)
        have ha1 : decide ((pts.length : Int) ≤ (a : Int)) = false := decide_eq_false (by omega)
        have ha2 : (a : Int) < (pts.length : Int) := by omega
        have hkr : (k' : Int) < (R.length : Int) := by omega
        rw [Nat.zero_add] at z1
        have KI := Lib.hid kI
        have KB := Lib.hid kB
        have HFV := Lib.hid hfv
        have HA := Lib.hid ha
        have HNT := Lib.hid hnt
        clear kI kB hfv ha hnt
        go_upto_region 15 with fail
        obtain ⟨V, hV⟩ : ∃ X, X = wr.setCell ⟨gI, a, none⟩ (.bool true) := ⟨_, rfl⟩
        have htk : R.take (k' + 1) = R.take k' ++ [a] := by rw [List.take_add_one, HA.out]; rfl
        have kI2 : Blk V gI (bls (inB pts.length (R.take (k' + 1)))) := by
          have h := KI.out.put a (.bool true)
          rw [bls_set, inB_set han, ← htk, ← hV] at h
          exact h
        have kB2 : Below W7.heap.size W7 V := by rw [hV]; exact KB.out.setCell (p := ⟨gI, a, none⟩) (Nat.le_of_eq HGI.out.symm) _
        rw [← hV]
        have KI2 := Lib.hid kI2
        have KB2 := Lib.hid kB2
        clear hV z1 z2 lr lI fI htk kI2
        obtain ⟨x, hx⟩ : ∃ x, pts[a]? = some x := ⟨_, List.getElem?_eq_getElem han⟩
        have hb7v := below_call HB7.out kB2
        obtain ⟨bp, offp, ox, cx, hope, y4, lp, hox⟩ := (HP.out.keep hb7v).get hx
        subst hope
        obtain ⟨br2, offr2, hbr2, z1, lr⟩ := pv_get (HSL7.out.keep kB2) (show (R.map fun x => ((x : Nat) : Int))[k']? = some ((a : Nat) : Int) by rw [List.getElem?_map, HA.out]; rfl)
        injection hbr2 with hbr2
        injection hbr2 with hb0 hb1
        subst hb0
        subst hb1
        rw [Nat.zero_add] at z1
        have z9 := HR9.out.keep hb7v
        have y0 : V.cell? ⟨n9, 0, none⟩ = some (.slice oa js.length cj) := z9.c 0 _ rfl
        have y1 : V.cell? ⟨n9, 1, none⟩ = some (.slice oms ms.length cms) := z9.c 1 _ rfl
        have l9 := z9.lt
        have hmk : ∀ Y, Below V.heap.size V Y → Y.cell? ⟨n9, 0, none⟩ = some (.slice oa js.length cj) ∧ Y.cell? ⟨n9, 1, none⟩ = some (.slice oms ms.length cms) ∧ Y.cell? ⟨b1, k', none⟩ = some (.int .i64 (a : Nat)) ∧ Y.cell? ⟨bp, offp + a, none⟩ = some (.slice ox x.length cx) ∧ Below V.heap.size V Y := fun Y hY => ⟨(hY.cell (p := ⟨n9, 0, none⟩) l9).trans y0, (hY.cell (p := ⟨n9, 1, none⟩) l9).trans y1, (hY.cell (p := ⟨b1, k', none⟩) lr).trans z1, (hY.cell (p := ⟨bp, offp + a, none⟩) lp).trans y4, hY⟩
        have hS := hmk V (Below.refl _ _)
        have HMK := Lib.hid hmk
        have HDI := Lib.hid (fun (X : World) (hX : Below V.heap.size V X) => (dist_pt (X := X) (oj := oa) (om := oms) (ox := ox) (oq := oq) (cj := cj) (cm := cms) (cx := cx) (cq := cq) HFI.out (by have := HROB.out.2.2; omega) (HROB.out.1.keep (hb7v.trans (hX.mono hb7v.size))) (HROB.out.2.1.keep (hb7v.trans (hX.mono hb7v.size))) hx (hox.keep hX) (HQ.out.keep (hb7v.trans (hX.mono hb7v.size)))))
        have hnn := dP_nn HFI.out a
        have hfd : decide (dP js q pts a < fv) = false := decide_eq_false (by
          rcases HFV.out with h | ⟨i', a', h1, h2, h3⟩
          · omega
          · have := HRR.out.le (show i' ≤ k' by omega) h2 HA.out
            omega)
        have HX := Lib.hid hx
        clear hmk hx hox kB2 hb7v z9 y0 y1 y4 z1 HP hnn
        go_region_held3 (fun Y => Y.cell? ⟨n9, 0, none⟩ = some (.slice oa js.length cj) ∧ Y.cell? ⟨n9, 1, none⟩ = some (.slice oms ms.length cms) ∧ Y.cell? ⟨b1, k', none⟩ = some (.int .i64 (a : Nat)) ∧ Y.cell? ⟨bp, offp + a, none⟩ = some (.slice ox x.length cx) ∧ Below V.heap.size V Y)
          (first
            | assumption
            | exact HMK.out _ (by repeat (first | assumption | exact Below.refl _ _ | apply Below.drew | exact (by assumption : _ ∧ _ ∧ _ ∧ _ ∧ Below V.heap.size V _).2.2.2.2)))
          ((go_at_call 18
            with_reducible refine (HDI.out _ (by assumption : _ ∧ _ ∧ _ ∧ _ ∧ Below V.heap.size V _).2.2.2.2).mono ?_
            rintro e Xa ⟨rfl, hba⟩
            have hbs := (by assumption : _ ∧ _ ∧ _ ∧ _ ∧ Below V.heap.size V _).2.2.2.2
            replace hba := below_call hbs hba))
        all_goals
          go_wp2_with fail
          go_roundw
          case rel => exact ⟨k' + 1, _, by simp, by omega, rfl, .inr ⟨k', a, by omega, HA.out, rfl⟩, KI2.out.keep hba, below_call KB2.out hba⟩
          case measure => simp [intOf]; omega
      · obtain ⟨Wb, rfl⟩ : ∃ X, X = wr := ⟨_, rfl⟩
        obtain rfl : k' = R.length := by omega
        rw [List.take_length] at kI
        have KI := Lib.hid kI
        have HB7w := Lib.hid (below_call HB7.out kB)
        have hfv2 : ∀ p, p < pts.length → p ∉ R → fv ≤ dP js q pts p := fun p hp hn => by
          rcases hfv with h | ⟨i', a', _, h2, h3⟩
          · have := dP_nn HFI.out p; omega
          · have := HRR.out.out hp hn (List.mem_of_getElem? h2); omega
        have HF2 := Lib.hid hfv2
        clear kI kB hfv hfv2 hlt hk'
        have hkr : ¬ ((R.length : Int) < (R.length : Int)) := Int.lt_irrefl _
        go_wp2_with fail
        go_loopw [20] (fun i X => ∃ p : Nat, i = .int .i64 (p : Nat) ∧ p ≤ pts.length ∧ Below Wb.heap.size Wb X) (fun i _ => pts.length - (intOf i).toNat)
        case atStart => exact ⟨0, rfl, Nat.zero_le _, Below.refl _ _⟩
        case round =>
          clear hkr
          obtain ⟨p, rfl, hp, hb⟩ := hrel
          obtain ⟨V, rfl⟩ : ∃ X, X = wr := ⟨_, rfl⟩
          by_cases hpl : p < pts.length
          · have kI2 := KI.out.keep hb
            have hpi : (p : Int) < (pts.length : Int) := by omega
            have hpi0 : (0 : Int) ≤ (p : Int) := by omega
            have lI := kI2.lt
            by_cases hin : p ∈ R
            · have z2 : V.cell? ⟨gI, p, none⟩ = some (.bool true) := kI2.c p _ (bls_get (by rw [inB_get hpl]; simp [hin]))
              have HBB := Lib.hid hb
              clear kI2 hb
              go_upto_region 22 with fail
              go_quiet (fail)
              go_wp2_with fail
              go_roundw
              case rel => exact ⟨p + 1, by simp, by omega, below_call HBB.out (below_drew _ _)⟩
              case measure => simp [intOf]; omega
            · have z2 : V.cell? ⟨gI, p, none⟩ = some (.bool false) := kI2.c p _ (bls_get (by rw [inB_get hpl]; simp [hin]))
              obtain ⟨x, hx⟩ : ∃ x, pts[p]? = some x := ⟨_, List.getElem?_eq_getElem hpl⟩
              have hb7v := below_call HB7w.out hb
              obtain ⟨bp, offp, ox, cx, hope, y4, lp, hox⟩ := (HP.out.keep hb7v).get hx
              subst hope
              have z9 := HR9.out.keep hb7v
              have y0 : V.cell? ⟨n9, 0, none⟩ = some (.slice oa js.length cj) := z9.c 0 _ rfl
              have y1 : V.cell? ⟨n9, 1, none⟩ = some (.slice oms ms.length cms) := z9.c 1 _ rfl
              have l9 := z9.lt
              have hmk : ∀ Y, Below V.heap.size V Y → Y.cell? ⟨n9, 0, none⟩ = some (.slice oa js.length cj) ∧ Y.cell? ⟨n9, 1, none⟩ = some (.slice oms ms.length cms) ∧ Y.cell? ⟨gI, p, none⟩ = some (.bool false) ∧ Y.cell? ⟨bp, offp + p, none⟩ = some (.slice ox x.length cx) ∧ Below V.heap.size V Y := fun Y hY => ⟨(hY.cell (p := ⟨n9, 0, none⟩) l9).trans y0, (hY.cell (p := ⟨n9, 1, none⟩) l9).trans y1, (hY.cell (p := ⟨gI, p, none⟩) lI).trans z2, (hY.cell (p := ⟨bp, offp + p, none⟩) lp).trans y4, hY⟩
              have hS := hmk V (Below.refl _ _)
              have HMK := Lib.hid hmk
              have HDI := Lib.hid (fun (X : World) (hX : Below V.heap.size V X) => (dist_pt (X := X) (oj := oa) (om := oms) (ox := ox) (oq := oq) (cj := cj) (cm := cms) (cx := cx) (cq := cq) HFI.out (by have := HROB.out.2.2; omega) (HROB.out.1.keep (hb7v.trans (hX.mono hb7v.size))) (HROB.out.2.1.keep (hb7v.trans (hX.mono hb7v.size))) hx (hox.keep hX) (HQ.out.keep (hb7v.trans (hX.mono hb7v.size)))))
              have hfd : decide (dP js q pts p < fv) = false := decide_eq_false (by have := HF2.out p hpl hin; omega)
              have HBB := Lib.hid hb
              clear hmk hx hox hb hb7v z9 y0 y1 y4 z2 HP kI2
              go_upto_region 22 with fail
              go_region_held3 (fun Y => Y.cell? ⟨n9, 0, none⟩ = some (.slice oa js.length cj) ∧ Y.cell? ⟨n9, 1, none⟩ = some (.slice oms ms.length cms) ∧ Y.cell? ⟨gI, p, none⟩ = some (.bool false) ∧ Y.cell? ⟨bp, offp + p, none⟩ = some (.slice ox x.length cx) ∧ Below V.heap.size V Y)
                (first
                  | assumption
                  | exact HMK.out _ (by repeat (first | assumption | exact Below.refl _ _ | apply Below.drew | exact (by assumption : _ ∧ _ ∧ _ ∧ _ ∧ Below V.heap.size V _).2.2.2.2)))
                ((go_at_call 18
                  with_reducible refine (HDI.out _ (by assumption : _ ∧ _ ∧ _ ∧ _ ∧ Below V.heap.size V _).2.2.2.2).mono ?_
                  rintro e Xa ⟨rfl, hba⟩
                  have hbs := (by assumption : _ ∧ _ ∧ _ ∧ _ ∧ Below V.heap.size V _).2.2.2.2
                  replace hba := below_call hbs hba))
              all_goals
                go_wp2_with fail
                go_roundw
                case rel => exact ⟨p + 1, by simp, by omega, below_call HBB.out hba⟩
                case measure => simp [intOf]; omega
          · have hpn : ¬ ((p : Int) < (pts.length : Int)) := by omega
            have HBB := Lib.hid (below_call HB7w.out hb)
            clear hb
            go_wp2_with fail
            refine (Try.awake _).mono ?_
            rintro e W8 ⟨rfl, hb8⟩
            go_wp2_with fail
            go_ret
            exact ⟨rfl, below_call HB4.out (below_call HBB.out hb8)⟩
end Go.Proofs.Ng
end

section
/-
  The law NeighborOrder.
-/
namespace Go.Proofs.Ng
open Go.RowKit

set_option maxRecDepth 100000 in
set_option maxHeartbeats 4000000 in
theorem order6 (ol om oo : Option Addr) (cl cm co : Nat) (ls xs os : List Int) (n k : Int) (w : World) (hL : Sl w ol 1 (pvals ls)) (hl : ls.length ≤ 9223372036854775807) (hM : Sl w om 1 (pvals xs)) (hm : xs.length * 8 ≤ 140737488351232) (hmn : om = none → xs = [] ∧ cm = 0) (hO : Sl w oo 1 (pvals os)) (hol : os.length ≤ 9223372036854775807) :
    Calls Try.prog 6 #[.slice ol ls.length cl, .slice om xs.length cm, .slice oo os.length co, .int .i64 n, .int .i64 k] w (BoolP true w) := by
  have HSO := Lib.hid (some9 ol om cl cm ls xs n w hL hl hM hm hmn)
  obtain ⟨j, hj⟩ : ∃ j : Nat, k % 8 = (j : Nat) ∧ j < 8 := ⟨(k % 8).toNat, by omega, by omega⟩
  have HRD := Lib.hid (fun X : World => (round_any k 8 X (by omega) (by omega)).mono (R' := fun e w' => e = .returned (.int .i64 (j : Nat)) ∧ w' = X) fun _ _ h => ⟨by rw [h.1, hj.1], h.2.symm⟩)
  have hj8 := hj.2
  have HO := Lib.hid hO
  have HOL := Lib.hid hol
  clear hL hM hmn hl hm hj hO hol
  go_enter Try.func6, Try.ntmps6
  go_wp2_with fail
  with_reducible refine HSO.out.mono ?_
  rintro e W2 ⟨js, ms, oa, cj, oms, cms, pts, op, cp, q, oq, cq, rfl, hrob, hgood, hpp, ⟨hql, hqi⟩, hqs, hb2⟩
  have hpl : pts.length ≤ 12 := by have := hgood.1; omega
  have HGOOD := Lib.hid hgood
  have HFI := Lib.hid (fits_some hrob hgood (by omega) hql hqi)
  have HFX := Lib.hid (fun (l : List Nat) (hp : Perm pts.length l) => fits_some hrob (selP_good hgood hp) (by omega) hql hqi)
  have HP := Lib.hid hpp
  have HQ := Lib.hid hqs
  have HROB := Lib.hid hrob
  have HB2 := Lib.hid hb2
  have HO := Lib.hid (HO.out.keep hb2)
  have hq12 : q.length ≤ 12 := by have := hrob.1; omega
  have hj3 : js.length ≤ 3 := by have := hrob.1; omega
  clear hrob hgood hpp hb2 hqs hqi HSO hql
  go_upto_region 2 with fail
  have hbx_ := blks1 W2 [.slice oa js.length cj, .slice oms ms.length cms] 30
  replace HP := Lib.hid (HP.out.keep hbx_.2)
  replace HQ := Lib.hid (HQ.out.keep hbx_.2)
  replace HO := Lib.hid (HO.out.keep hbx_.2)
  have HB3 := Lib.hid (hbx_.2)
  generalize W2.alloc (.cells #[.slice oa js.length cj, .slice oms ms.length cms] 30) = W3 at hbx_ HP HQ HO HB3 ⊢
  obtain ⟨r9, hbel_⟩ := hbx_
  obtain ⟨n9, hn_⟩ : ∃ n, n = W2.heap.size := ⟨_, rfl⟩
  rw [← hn_] at r9 ⊢
  clear hn_ hbel_
  have HROB := Lib.hid (show Sl W3 oa 12 (js.map JV.vals) ∧ Sl W3 oms 5 (ms.map MV.vals) ∧ ms.length ≤ 2 from by
    have h := HROB.out
    obtain ⟨_, h2, _, _, h5, h6⟩ := h
    exact ⟨h5.keep HB3.out, h6.keep HB3.out, h2⟩)
  have HB3 := Lib.hid (below_call HB2.out HB3.out)
  have HOR := Lib.hid (order_any oo co pts.length os W3 (by omega) HO.out HOL.out)
  have HR9 := Lib.hid r9
  clear r9 HB2 HO
  go_wp2_with fail
  with_reducible refine HOR.out.mono ?_
  rintro e W4 ⟨l, ob, cb, he, hperm, hsl, hb, -⟩
  rw [hperm.len] at he
  subst he
  have HPM := Lib.hid hperm
  have HSL : Hid (Sl W4 ob 1 (pvals (l.map fun x => ((x : Nat) : Int)))) := Lib.hid (by
    have e : nvals l = pvals (l.map fun x => ((x : Nat) : Int)) := by simp [nvals, pvals]
    rw [← e]; exact hsl)
  have HP := Lib.hid (HP.out.keep hb)
  have HQ := Lib.hid (HQ.out.keep hb)
  have HROB := Lib.hid (show Sl W4 oa 12 (js.map JV.vals) ∧ Sl W4 oms 5 (ms.map MV.vals) ∧ ms.length ≤ 2 from ⟨HROB.out.1.keep hb, HROB.out.2.1.keep hb, HROB.out.2.2⟩)
  have HB4 := Lib.hid (below_call HB3.out hb)
  have HR9 := Lib.hid (HR9.out.keep hb)
  clear hsl hb HOR HB3 hperm
  go_wp2_with fail
  go_loopw [15, 16] (fun v i X => ∃ m : Nat, m ≤ pts.length ∧ i = .int .i64 (m : Nat) ∧ Sel W4 (selP pts (l.take m)) v X) (fun _ i _ => pts.length - (intOf i).toNat)
  case atStart => exact ⟨0, Nat.zero_le _, rfl, by rw [List.take_zero]; exact Sel.nil _⟩
  case round =>
    obtain ⟨m, hm, rfl, hsel⟩ := hrel
    obtain ⟨V, rfl⟩ : ∃ X, X = wr := ⟨_, rfl⟩
    by_cases hlt : m < pts.length
    · obtain ⟨y, hy⟩ : ∃ y, l[m]? = some y := ⟨_, List.getElem?_eq_getElem (by rw [HPM.out.len]; exact hlt)⟩
      have hyn := HPM.out.lt m y hy
      obtain ⟨x, hx⟩ : ∃ x, pts[y]? = some x := ⟨_, List.getElem?_eq_getElem hyn⟩
      obtain ⟨us, hus, hown, hpt⟩ := hsel.ex
      have hbel := hsel.bel
      obtain ⟨bo, offo, hbo, z1, lo⟩ := pv_get (HSL.out.keep hbel) (show (l.map fun x => ((x : Nat) : Int))[m]? = some ((y : Nat) : Int) by rw [List.getElem?_map, hy]; rfl)
      subst hbo
      obtain ⟨bp, offp, ox, cx, hope, y4, lp, hox⟩ := HP.out.get hx
      subst hope
      replace y4 := (hbel.cell (p := ⟨bp, offp + y, none⟩) lp).trans y4
      have lp2 := Nat.lt_of_lt_of_le lp hbel.size
      have hpa : PtAt W4 (.slice ox x.length cx) x := ⟨ox, cx, rfl, hox⟩
      have HS := Lib.hid (fun (v' : Value) (X2 : World) (ho : X2.ownsRow W4.heap.size 31 1 v' ((selP pts (l.take m)).length + 1) (us ++ [.slice ox x.length cx])) (hb : Below W4.heap.size W4 X2) => show Sel W4 (selP pts (l.take (m + 1))) v' X2 from by
        rw [selP_take hy hx]; exact Sel.app hus hpt hpa ho hb)
      have hm1 : (m : Int) < (pts.length : Int) := by omega
      have hy1 : (y : Int) < (pts.length : Int) := by omega
      have hlen : (selP pts (l.take m)).length ≤ 12 := by rw [selP_len, List.length_take]; omega
      have hb2 : Below V.heap.size V (V.alloc (.cells #[.slice ox x.length cx] 31)) := (Below.refl _ _).alloc (Nat.le_refl _) _
      have HBV := Lib.hid (below_call hbel hb2)
      have HOW := Lib.hid (own_keep hown hb2)
      have HSZ := Lib.hid (Nat.le_trans hbel.size hb2.size)
      obtain ⟨i0, hi, hz0, hz1, hz2⟩ := info_parts info31
      clear hsel hown hpt hbel hb2 hx hy hpa hox lp hus
      go_wp2_with (at_builtin; refine wpList_append_own _ rfl _ _ 22 rfl W4.heap.size 31 i0 (.slice none 0 0) 1 24 under22 hi hz0 hz1 hz2 rfl (by decide) _ _ _ rfl HOW.out ⟨V.heap.size, 0, none⟩ 1 1 [.slice ox x.length cx] rfl rfl ?c1 ?c2 ?c3 ?c4 ?c5 ?_)
      case c1 => exact new_cells _ _ _
      case c2 => intro u hu; simp at hu; subst hu; rfl
      case c3 => unfold maxLen; omega
      case c4 => omega
      case c5 => exact HSZ.out
      intro v' w' hown' hgrow _
      have HS2 := Lib.hid (HS.out v' w' hown' (HBV.out.trans (grown_below HOW.out hgrow HSZ.out)))
      clear hown' hgrow HOW HBV HSZ HS hi hz0 hz1 hz2 hlen
      go_wp2_with fail
      go_roundw
      case rel => exact ⟨m + 1, by omega, by simp, HS2.out⟩
      case measure => simp [intOf]; omega
    · obtain rfl : m = pts.length := by omega
      have hln := HPM.out.len
      rw [← hln, List.take_of_length_le (Nat.le_refl _)] at hsel
      obtain ⟨ov, cv, rfl, hpx⟩ := hsel.done
      have HFX := Lib.hid (HFX.out l HPM.out)
      have HNE := Lib.hid (fun (k : Nat) (R S : List Nat) (hR : NearL k pts.length (dP js q pts) R) (hS : NearL k pts.length (dP js q (selP pts l)) S) (i a b : Nat) (ha : R[i]? = some a) (hb : S[i]? = some b) => near_sel HPM.out hR hS ha hb)
      have hxl : (selP pts l).length = pts.length := by rw [selP_len, hln]
      have hbel := hsel.bel
      generalize selP pts l = xp at hpx HFX HNE hxl ⊢
      rw [hxl]
      have HPX := Lib.hid hpx
      have HXL := Lib.hid hxl
      have HP := Lib.hid (HP.out.keep hbel)
      have HQ := Lib.hid (HQ.out.keep hbel)
      have HROB := Lib.hid (show Sl V oa 12 (js.map JV.vals) ∧ Sl V oms 5 (ms.map MV.vals) ∧ ms.length ≤ 2 from ⟨HROB.out.1.keep hbel, HROB.out.2.1.keep hbel, HROB.out.2.2⟩)
      have HB5 := Lib.hid (below_call HB4.out hbel)
      have HR9 := Lib.hid (HR9.out.keep hbel)
      clear hsel hpx hxl hln hbel HSL HB4 hlt hm HPM
      obtain ⟨j1, hj1⟩ : ∃ j1 : Nat, j1 = 1 + j := ⟨_, rfl⟩
      have hw1 : IntKind.i64.wrap (1 + (j : Int)) = 1 + (j : Int) := IntWalk.i64_in _ (by omega)
      have E1 : Hid ((1 + (j : Int)) = ((j1 : Nat) : Int)) := Lib.hid (by omega)
      have HJJ : Hid (1 ≤ j1 ∧ j1 ≤ 8) := Lib.hid (by omega)
      clear hj1
      have hnl : ¬ ((pts.length : Int) < (pts.length : Int)) := Int.lt_irrefl _
      go_wp2_with fail
      refine (HRD.out _).mono ?_
      rintro e W5 ⟨rfl, hw5⟩
      subst hw5
      go_upto_region 9 with fail
      rw [E1.out]
      clear hw1 E1 hnl
      have hbd1 := fun (X : World) (hX : Below W5.heap.size W5 X) => build11 op cp pts X (HP.out.keep hX)
      have hbd2 := fun (X : World) (hX : Below W5.heap.size W5 X) => build11 ov cv xp X (HPX.out.keep hX)
      have hOK1 := HFI.out.2.2.2.1.2.1
      have hOK2 := HFX.out.2.2.2.1.2.1
      generalize buildP pts = t1 at hbd1 hOK1 HFI
      generalize buildP xp = t2 at hbd2 hOK2 HFX
      have HXL2 := HXL.out
      have HN1 := Lib.hid (fun (X : World) (hX : Below W5.heap.size W5 X) (ot : Option Addr) (ct : Nat) (hT : Sl X ot 4 (t1.map Nd.vals)) =>
        nearest16 oa oms op ot oq cj cms cp ct cq js ms pts t1 q j1 X (by omega) (by have := HROB.out.2.2; omega) (HROB.out.1.keep hX) (HROB.out.2.1.keep hX) (HP.out.keep hX) hT (HQ.out.keep hX) (by omega) (by omega) (by omega) HFI.out HJJ.out.1 (by have := HJJ.out; omega))
      have HN2 := Lib.hid (fun (X : World) (hX : Below W5.heap.size W5 X) (ot : Option Addr) (ct : Nat) (hT : Sl X ot 4 (t2.map Nd.vals)) =>
        nearest16 oa oms ov ot oq cj cms cv ct cq js ms xp t2 q j1 X (by omega) (by have := HROB.out.2.2; omega) (HROB.out.1.keep hX) (HROB.out.2.1.keep hX) (HPX.out.keep hX) hT (HQ.out.keep hX) (by omega) (by omega) (by omega) HFX.out HJJ.out.1 (by have := HJJ.out; omega))
      rw [HXL2] at HN2 hbd2
      have HBD1 := Lib.hid hbd1
      have HBD2 := Lib.hid hbd2
      have hmk : ∀ Y, Below W5.heap.size W5 Y → Y.cell? ⟨n9, 0, none⟩ = some (.slice oa js.length cj) ∧ Y.cell? ⟨n9, 1, none⟩ = some (.slice oms ms.length cms) ∧ Below W5.heap.size W5 Y := fun Y hY => ⟨(HR9.out.keep hY).c 0 _ rfl, (HR9.out.keep hY).c 1 _ rfl, hY⟩
      have hS := hmk W5 (Below.refl _ _)
      have HMK := Lib.hid hmk
      have l9 := HR9.out.lt
      clear hmk hbd1 hbd2 hOK1 hOK2 HXL2
      go_cut [18, 19] (fun u v X => ∃ (R S : List Nat) (b1 b2 : Nat), NearL j1 pts.length (dP js q pts) R ∧ NearL j1 pts.length (dP js q xp) S ∧ u = .slice (some ⟨b1, 0, none⟩) R.length R.length ∧ v = .slice (some ⟨b2, 0, none⟩) S.length S.length ∧ Blk X b1 (pflat (R.map fun x => ((x : Nat) : Int))) ∧ Blk X b2 (pflat (S.map fun x => ((x : Nat) : Int))) ∧ Below W5.heap.size W5 X)
      case first =>
        go_region_held3 (fun Y => Y.cell? ⟨n9, 0, none⟩ = some (.slice oa js.length cj) ∧ Y.cell? ⟨n9, 1, none⟩ = some (.slice oms ms.length cms) ∧ Below W5.heap.size W5 Y)
          (first
            | assumption
            | exact HMK.out _ (by repeat (first | assumption | exact Below.refl _ _ | apply Below.drew | exact (by assumption : _ ∧ _ ∧ Below W5.heap.size W5 _).2.2)))
          (first
            | (go_at_call 11
               with_reducible refine (HBD1.out _ (by assumption : _ ∧ _ ∧ Below W5.heap.size W5 _).2.2).mono ?_
               rintro e Xa ⟨ot, ct, rfl, -, ht, hba, -⟩
               have hbs := (by assumption : _ ∧ _ ∧ Below W5.heap.size W5 _).2.2
               have hr1 := hba
               replace hba := below_call hbs hba)
            | (go_at_call 11
               with_reducible refine (HBD2.out _ (by assumption : _ ∧ _ ∧ Below W5.heap.size W5 _).2.2).mono ?_
               rintro e Xb ⟨ou, cu, rfl, -, hu, hbb, -⟩
               have hbs := (by assumption : _ ∧ _ ∧ Below W5.heap.size W5 _).2.2
               have hr2 := hbb
               replace hbb := below_call hbs hbb)
            | (go_at_call 16
               with_reducible refine (HN1.out _ (by assumption : _ ∧ _ ∧ Below W5.heap.size W5 _).2.2 _ _ (by first | exact ht | exact ht.keep (Below.refl _ _).drew | exact ht.keep hr2 | exact (ht.keep (Below.refl _ _).drew).keep hr2)).mono ?_
               rintro e Xc ⟨R, b1, hR, rfl, hb1, hbc, hk1⟩
               have hbs := (by assumption : _ ∧ _ ∧ Below W5.heap.size W5 _).2.2
               have hr3 := hbc
               replace hbc := below_call hbs hbc)
            | (go_at_call 16
               with_reducible refine (HN2.out _ (by assumption : _ ∧ _ ∧ Below W5.heap.size W5 _).2.2 _ _ (by first | exact hu | exact hu.keep (Below.refl _ _).drew)).mono ?_
               rintro e Xd ⟨S, b2, hS2, rfl, hb2, hbd, hk2⟩
               have hbs := (by assumption : _ ∧ _ ∧ Below W5.heap.size W5 _).2.2
               have hr4 := hbd
               replace hbd := below_call hbs hbd))
        all_goals
          go_wp2_with fail
          go_meet
          exact ⟨R, S, b1, b2, hR, hS2, rfl, rfl, by first | exact (hk1.keep hr2).keep hr4 | exact ((hk1.keep (Below.refl _ _).drew).keep hr2).keep hr4 | exact (hk1.keep hr2).keep ((Below.refl _ _).drew.trans hr4), by first | exact hk2, by first | exact hbd⟩
      case rest =>
        obtain ⟨R, S, b1, b2, hR, hS2, rfl, rfl, hk1, hk2, hb6⟩ := hcut
        clear hS HMK HN1 HN2 HBD1 HBD2 l9
        obtain ⟨W7, rfl⟩ : ∃ X, X = wc := ⟨_, rfl⟩
        have hlR := hR.set.len
        have hlS := hS2.set.len
        have hRS : S.length = R.length := by omega
        rw [hRS]
        have hR12 : R.length ≤ 12 := by omega
        have hmn1 : ((R.length : Int) != min (j1 : Int) (pts.length : Int)) = false := by simp; omega
        have hsl1 : Sl W7 (some ⟨b1, 0, none⟩) 1 (pvals (R.map fun x => ((x : Nat) : Int))) := by
          have h := blk_sl R.length hk1
          rwa [List.take_of_length_le (by simp)] at h
        have hsl2 : Sl W7 (some ⟨b2, 0, none⟩) 1 (pvals (S.map fun x => ((x : Nat) : Int))) := by
          have h := blk_sl S.length hk2
          rwa [List.take_of_length_le (by simp)] at h
        have HSL1 := Lib.hid hsl1
        have HSL2 := Lib.hid hsl2
        have HRR := Lib.hid hR
        have HSS := Lib.hid hS2
        have HRS := Lib.hid hRS
        have HB7 := Lib.hid hb6
        clear hk1 hk2 hb6 hR hS2 hlR hlS hsl1 hsl2 hRS
        go_wp2_with fail
        go_loopw [20] (fun i X => ∃ k' : Nat, i = .int .i64 (k' : Nat) ∧ k' ≤ R.length ∧ Below W7.heap.size W7 X) (fun i _ => R.length - (intOf i).toNat)
        case atStart => exact ⟨0, rfl, Nat.zero_le _, Below.refl _ _⟩
        case round =>
          clear hmn1
          obtain ⟨k', rfl, hk', hb⟩ := hrel
          obtain ⟨V, rfl⟩ : ∃ X, X = wr := ⟨_, rfl⟩
          by_cases hlt : k' < R.length
          · obtain ⟨a, ha⟩ : ∃ a, R[k']? = some a := ⟨_, List.getElem?_eq_getElem hlt⟩
            obtain ⟨b, hbb⟩ : ∃ b, S[k']? = some b := ⟨_, List.getElem?_eq_getElem (by rw [HRS.out]; exact hlt)⟩
            have han : a < pts.length := HRR.out.set.lt a (List.mem_of_getElem? ha)
            have hbn : b < pts.length := HSS.out.set.lt b (List.mem_of_getElem? hbb)
            obtain ⟨x, hx⟩ : ∃ x, pts[a]? = some x := ⟨_, List.getElem?_eq_getElem han⟩
            obtain ⟨y, hy⟩ : ∃ y, xp[b]? = some y := ⟨_, List.getElem?_eq_getElem (by rw [HXL.out]; exact hbn)⟩
            have hb7v := below_call HB7.out hb
            obtain ⟨br1, offr1, hbr1, z1, lr⟩ := pv_get (HSL1.out.keep hb) (show (R.map fun x => ((x : Nat) : Int))[k']? = some ((a : Nat) : Int) by rw [List.getElem?_map, ha]; rfl)
            injection hbr1 with hbr1
            injection hbr1 with hb0 hb1
            subst hb0
            subst hb1
            rw [Nat.zero_add] at z1
            obtain ⟨br2, offr2, hbr2, z2, ls2⟩ := pv_get (HSL2.out.keep hb) (show (S.map fun x => ((x : Nat) : Int))[k']? = some ((b : Nat) : Int) by rw [List.getElem?_map, hbb]; rfl)
            injection hbr2 with hbr2
            injection hbr2 with hb0 hb1
            subst hb0
            subst hb1
            rw [Nat.zero_add] at z2
            obtain ⟨bp, offp, ox, cx, hope, y4, lp, hox⟩ := (HP.out.keep hb7v).get hx
            subst hope
            obtain ⟨bv, offv, oy, cy, hove, y5, lv, hoy⟩ := (HPX.out.keep hb7v).get hy
            subst hove
            have z9 := HR9.out.keep hb7v
            have y0 : V.cell? ⟨n9, 0, none⟩ = some (.slice oa js.length cj) := z9.c 0 _ rfl
            have y1 : V.cell? ⟨n9, 1, none⟩ = some (.slice oms ms.length cms) := z9.c 1 _ rfl
            have l9 := z9.lt
            have hmk : ∀ Y, Below V.heap.size V Y → Y.cell? ⟨n9, 0, none⟩ = some (.slice oa js.length cj) ∧ Y.cell? ⟨n9, 1, none⟩ = some (.slice oms ms.length cms) ∧ Y.cell? ⟨b1, k', none⟩ = some (.int .i64 (a : Nat)) ∧ Y.cell? ⟨b2, k', none⟩ = some (.int .i64 (b : Nat)) ∧ Y.cell? ⟨bp, offp + a, none⟩ = some (.slice ox x.length cx) ∧ Y.cell? ⟨bv, offv + b, none⟩ = some (.slice oy y.length cy) ∧ Below V.heap.size V Y := fun Y hY => ⟨(hY.cell (p := ⟨n9, 0, none⟩) l9).trans y0, (hY.cell (p := ⟨n9, 1, none⟩) l9).trans y1, (hY.cell (p := ⟨b1, k', none⟩) lr).trans z1, (hY.cell (p := ⟨b2, k', none⟩) ls2).trans z2, (hY.cell (p := ⟨bp, offp + a, none⟩) lp).trans y4, (hY.cell (p := ⟨bv, offv + b, none⟩) lv).trans y5, hY⟩
            have hS := hmk V (Below.refl _ _)
            have HMK := Lib.hid hmk
            have HD1 := Lib.hid (fun (X : World) (hX : Below V.heap.size V X) => (dist_pt (X := X) (oj := oa) (om := oms) (ox := ox) (oq := oq) (cj := cj) (cm := cms) (cx := cx) (cq := cq) HFI.out (by have := HROB.out.2.2; omega) (HROB.out.1.keep (hb7v.trans (hX.mono hb7v.size))) (HROB.out.2.1.keep (hb7v.trans (hX.mono hb7v.size))) hx (hox.keep hX) (HQ.out.keep (hb7v.trans (hX.mono hb7v.size)))))
            have HD2 := Lib.hid (fun (X : World) (hX : Below V.heap.size V X) => (dist_pt (X := X) (oj := oa) (om := oms) (ox := oy) (oq := oq) (cj := cj) (cm := cms) (cx := cy) (cq := cq) HFX.out (by have := HROB.out.2.2; omega) (HROB.out.1.keep (hb7v.trans (hX.mono hb7v.size))) (HROB.out.2.1.keep (hb7v.trans (hX.mono hb7v.size))) hy (hoy.keep hX) (HQ.out.keep (hb7v.trans (hX.mono hb7v.size)))))
            have hne : (dP js q pts a != dP js q xp b) = false := by
              rw [HNE.out j1 R S HRR.out HSS.out k' a b ha hbb]; simp
            have ha0 : decide ((a : Int) < 0) = false := decide_eq_false (by omega)
            have ha1 : decide ((pts.length : Int) ≤ (a : Int)) = false := decide_eq_false (by omega)
            have ha1n : decide (pts.length ≤ a) = false := decide_eq_false (by omega)
            have hb1n : decide (pts.length ≤ b) = false := decide_eq_false (by omega)
            have ha2 : (a : Int) < (pts.length : Int) := by omega
            have ha3 : (0 : Int) ≤ (a : Int) := by omega
            have hb0 : decide ((b : Int) < 0) = false := decide_eq_false (by omega)
            have hb1 : decide ((pts.length : Int) ≤ (b : Int)) = false := decide_eq_false (by omega)
            have hb2 : (b : Int) < (pts.length : Int) := by omega
            have hb3 : (0 : Int) ≤ (b : Int) := by omega
            have hkr : (k' : Int) < (R.length : Int) := by omega
            have hkr0 : (0 : Int) ≤ (k' : Int) := by omega
            have HBB := Lib.hid hb
            clear hmk hx hox hy hoy hb7v z9 y0 y1 y4 y5 z1 z2 HP HPX ha hbb hb
            go_upto_region 15 with fail
            go_region_held3 (fun Y => Y.cell? ⟨n9, 0, none⟩ = some (.slice oa js.length cj) ∧ Y.cell? ⟨n9, 1, none⟩ = some (.slice oms ms.length cms) ∧ Y.cell? ⟨b1, k', none⟩ = some (.int .i64 (a : Nat)) ∧ Y.cell? ⟨b2, k', none⟩ = some (.int .i64 (b : Nat)) ∧ Y.cell? ⟨bp, offp + a, none⟩ = some (.slice ox x.length cx) ∧ Y.cell? ⟨bv, offv + b, none⟩ = some (.slice oy y.length cy) ∧ Below V.heap.size V Y)
              (first
                | assumption
                | exact HMK.out _ (by repeat (first | assumption | exact Below.refl _ _ | apply Below.drew | exact (by assumption : _ ∧ _ ∧ _ ∧ _ ∧ _ ∧ _ ∧ Below V.heap.size V _).2.2.2.2.2.2)))
              (first
                | (go_at_call 18
                   with_reducible refine (HD1.out _ (by assumption : _ ∧ _ ∧ _ ∧ _ ∧ _ ∧ _ ∧ Below V.heap.size V _).2.2.2.2.2.2).mono ?_
                   rintro e Xa ⟨rfl, hba⟩
                   have hbs := (by assumption : _ ∧ _ ∧ _ ∧ _ ∧ _ ∧ _ ∧ Below V.heap.size V _).2.2.2.2.2.2
                   replace hba := below_call hbs hba)
                | (go_at_call 18
                   with_reducible refine (HD2.out _ (by assumption : _ ∧ _ ∧ _ ∧ _ ∧ _ ∧ _ ∧ Below V.heap.size V _).2.2.2.2.2.2).mono ?_
                   rintro e Xb ⟨rfl, hbb⟩
                   have hbs := (by assumption : _ ∧ _ ∧ _ ∧ _ ∧ _ ∧ _ ∧ Below V.heap.size V _).2.2.2.2.2.2
                   replace hbb := below_call hbs hbb))
            all_goals
              go_wp2_with fail
              go_roundw
              case rel => exact ⟨k' + 1, by simp, by omega, below_call HBB.out (by first | exact hbb | exact hba)⟩
              case measure => simp [intOf]; omega
          · have hpn : ¬ ((k' : Int) < (R.length : Int)) := by omega
            have HBB := Lib.hid (below_call HB7.out hb)
            clear hb
            go_wp2_with fail
            refine (Try.awake _).mono ?_
            rintro e W8 ⟨rfl, hb8⟩
            go_wp2_with fail
            go_ret
            exact ⟨rfl, below_call HB5.out (below_call HBB.out hb8)⟩
end Go.Proofs.Ng
end

section
/-
  What the readings of the arguments say of memory.
-/
namespace Go.Proofs.Ng
open Go.RowKit
theorem list_of {A : Type} (P : Nat → A → Prop) : ∀ n : Nat, (∀ i, i < n → ∃ r, P i r) → ∃ rs : List A, rs.length = n ∧ ∀ (i : Nat) (r : A), rs[i]? = some r → P i r
  | 0, _ => ⟨[], rfl, fun i r h => by simp at h⟩
  | n + 1, h => by
    obtain ⟨rs, hl, hr⟩ := list_of P n fun i hi => h i (by omega)
    obtain ⟨r, hp⟩ := h n (by omega)
    refine ⟨rs ++ [r], by simp [hl], fun i r' hi => ?_⟩
    rcases Nat.lt_or_ge i rs.length with hlt | hge
    · rw [List.getElem?_append_left hlt] at hi
      exact hr i r' hi
    · rw [List.getElem?_append_right hge] at hi
      have : i = n := by
        rcases Nat.eq_or_lt_of_le hge with h | h
        · omega
        · rw [List.getElem?_eq_none (by simp; omega)] at hi; cases hi
      subst this
      have e : i - rs.length = 0 := by omega
      rw [e] at hi
      simp at hi
      subst hi
      exact hp

/-- A slice that is read lies in memory, row for row. -/
theorem open_rows {H : Type} {enc : TypeId × Value → H} {P : Program} {w : World} {base : Nat} {spare : Nat → Bool} {held : Bool} {A : Type} (f : A → List Value) {t e : TypeId} {n fuel : Nat} {v : Value} {x : DataW H × List MemPlace} (ht : P.underlying t = some (.slice e)) (hc : P.cellsOf e = n) (hn : 0 < n)
    (hrow : ∀ (m : Nat) (cs : List Value) (y : DataW H × List MemPlace), cs.length = n → DataW.trod enc P w base spare held m e cs = some y → ∃ r : A, cs = f r)
    (h : DataW.trod enc P w base spare held fuel t [v] = some x) : ∃ (oa : Option Addr) (cap : Nat) (rs : List A), v = .slice oa rs.length cap ∧ rs.length ≤ 9223372036854775807 ∧ Sl w oa n (rs.map f) ∧ (oa = none → rs = [] ∧ cap = 0) ∧ (x.1 = .nil ∧ rs = [] ∨ ∃ elems spare, x.1 = .slice elems spare ∧ elems.length = rs.length) := by
  rcases Go.Deep.open_slice ht h with ⟨h0, hx0⟩ | ⟨a, len, cap, m, k, D, Pl, h1, hb, hl, hm, hmm, hx0, hx⟩
  · injection h0 with h0 _
    subst h0
    exact ⟨none, 0, [], rfl, by simp, fun h => absurd rfl h, fun _ => ⟨rfl, rfl⟩, .inl ⟨by rw [hx0], rfl⟩⟩
  · injection h1 with h1 _
    subst h1
    have hlm : len ≤ m := by rw [hmm]; split <;> omega
    obtain ⟨rs, hrl, hr⟩ := list_of (fun i r => w.cells? base (a.add (i * n)) n = some (f r)) len (fun i hi => by
      obtain ⟨cs, c1, c2⟩ := hx i (by omega)
      rw [hc] at c1
      obtain ⟨r, rfl⟩ := hrow _ _ _ (World.cells?_some c1).2.1 c2
      exact ⟨r, c1⟩)
    subst hrl
    refine ⟨some a, cap, rs, rfl, by unfold maxLen at hm; omega, fun hne => ?_, fun h => by (cases h), .inr ⟨_, _, by rw [hx0], by simp⟩⟩
    have hne' : rs ≠ [] := fun h => hne (by simp [h])
    have cell : ∀ (i : Nat) (r : A), rs[i]? = some r → ∀ q u, (f r)[q]? = some u → w.cell? ((a.add (i * n)).add q) = some u := by
      intro i r hi q u hq
      obtain ⟨_, c2, c3⟩ := World.cells?_some (hr i r hi)
      have hqn : q < n := by
        rcases Nat.lt_or_ge q (f r).length with h' | h'
        · omega
        · rw [List.getElem?_eq_none h'] at hq; cases hq
      rw [c3 q hqn, hq]
    -- the slice's address has no spot
    have sp : a.spot = none := by
      cases rs with
      | nil => exact absurd rfl hne'
      | cons r0 rt =>
        obtain ⟨_, c2, c3⟩ := World.cells?_some (hr 0 r0 rfl)
        have c4 := c3 0 hn
        have : (f r0)[0]? = some ((f r0)[0]'(by omega)) := List.getElem?_eq_getElem _
        rw [this] at c4
        cases hs : a.spot with
        | none => rfl
        | some s =>
          exfalso
          have e0 : ((a.add (0 * n)).add 0) = a := by simp [Addr.add]
          rw [e0] at c4
          unfold World.cell? at c4
          rw [hs] at c4
          revert c4
          cases w.heap[a.block]? with
          | none => simp
          | some o => cases o <;> simp
    obtain ⟨b, off, sp'⟩ := a
    simp at sp
    subst sp
    refine ⟨b, off, rfl, ?_, fun i r hi q u hq => ?_⟩
    · cases rs with
      | nil => exact absurd rfl hne'
      | cons r0 rt =>
        obtain ⟨_, c2, c3⟩ := World.cells?_some (hr 0 r0 rfl)
        have c4 := c3 0 hn
        have : (f r0)[0]? = some ((f r0)[0]'(by omega)) := List.getElem?_eq_getElem _
        rw [this] at c4
        rcases Nat.lt_or_ge b w.heap.size with h' | h'
        · exact h'
        · exfalso
          have e0 : (((⟨b, off, none⟩ : Addr).add (0 * n)).add 0) = ⟨b, off, none⟩ := by simp [Addr.add]
          rw [e0] at c4
          simp [World.cell?, Array.getElem?_eq_none h'] at c4
    · rw [List.getElem?_map] at hi
      cases hri : rs[i]? with
      | none => rw [hri] at hi; cases hi
      | some r' =>
        rw [hri] at hi
        simp at hi
        subst hi
        rw [← cell i r' hri q u hq]
        congr 1
        simp only [Addr.add]
        split <;> split <;> simp_all <;> omega

theorem row_int {H : Type} {enc : TypeId × Value → H} {w : World} {base : Nat} {spare : Nat → Bool} {held : Bool} (e : TypeId) (hu : Try.prog.underlying e = some (.int .i64)) (m : Nat) (cs : List Value) (y : DataW H × List MemPlace) (_ : cs.length = 1) (h : DataW.trod enc Try.prog w base spare held m e cs = some y) : ∃ r : Int, cs = [.int .i64 r] := by
  obtain ⟨n, rfl, _⟩ := DataW.trod_int hu h
  exact ⟨n, rfl⟩
theorem clo3 : Try.prog.cellsOf 3 = 1 := by kernel_rfl
theorem open_nums {H : Type} {enc : TypeId × Value → H} {w : World} {base : Nat} {spare : Nat → Bool} {held : Bool} {t e : TypeId} {fuel : Nat} {v : Value} {x : DataW H × List MemPlace} (ht : Try.prog.underlying t = some (.slice e)) (hu : Try.prog.underlying e = some (.int .i64)) (hc : Try.prog.cellsOf e = 1)
    (h : DataW.trod enc Try.prog w base spare held fuel t [v] = some x) : ∃ (oa : Option Addr) (cap : Nat) (rs : List Int), v = .slice oa rs.length cap ∧ rs.length ≤ 9223372036854775807 ∧ Sl w oa 1 (pvals rs) ∧ (oa = none → rs = [] ∧ cap = 0) ∧ (x.1 = .nil ∧ rs = [] ∨ ∃ elems spare, x.1 = .slice elems spare ∧ elems.length = rs.length) :=
  open_rows (fun p : Int => [.int .i64 p]) ht hc (by omega) (row_int e hu) h
theorem laidOut : laidOutB Try.prog = true := by kernel_rfl
open Go.ChangeShapes Go.WideShapes Go.ChangeAt
set_option linter.unusedVariables false
/-- The post, of a world of which it is known that nothing that stood before has changed. -/
theorem post_below {H : Type} {enc : TypeId × Value → H} {P : Program} {f : Func} {s : ChangeSpec} {apart fresh handsOn again : Bool} {W W' : World} {args : Array Value} {v : Value} {ds gs : List (DataW H)} {before pa pv : List MemPlace}
    (hW : DataW.Whole enc P f.params.toList s.vars apart W args.toList ds gs before)
    (hres : ∀ (b : Nat) (sp : Nat → Bool) (hd : Bool), DataW.TrodAll enc P W' b sp hd f.resultTypes.toList (v.resultList f.resultTypes.size) (s.fn H (ds ++ gs)).results [])
    (hargs : ∀ sp : Nat → Bool, (∀ p ∈ before, sp p.block = true) → DataW.TrodAll enc P W' 0 sp true f.params.toList args.toList (s.fn H (ds ++ gs)).args pa)
    (hvars : ∀ sp : Nat → Bool, (∀ p ∈ before, sp p.block = true) → DataW.TrodVars enc P W' sp s.vars (s.fn H (ds ++ gs)).vars pv)
    (hps : before = pa ++ pv) (hb : Below W.heap.size W W')
    (hok : ∀ (j : Nat) (t : TypeId) (r : Value), f.resultTypes[j]? = some t → (v.resultList f.resultTypes.size)[j]? = some r → Value.okWide P W' .any 0 t r) :
    s.post enc P f apart fresh handsOn again W args v W' := by
  have hlt : ∀ p ∈ before, p.block < W.heap.size := fun p hp => hW.lt p hp
  have hold : ∀ p ∈ before, (fun b => decide (b < W.heap.size)) p.block = true := fun p hp => by simpa using hlt p hp
  refine ⟨ds, gs, before, [], pa, pv, hW, hres _ _ _, hargs _ hold, hvars _ hold, World.keptBut_mono (fun p hp => ⟨hp, ?_⟩) (hb.frame (· ∈ before)), fun _ => ?_⟩
  · rw [hps, List.mem_append] at hp
    exact Or.inr hp
  · obtain ⟨_, _, _, _, _, hz, hn⟩ := hW
    refine ⟨hok, _, _, ([] ++ pa) ++ pv, ⟨[] ++ pa, pv, trodAll_append (hargs _ (fun _ _ => rfl)) (hres _ _ _), hvars _ (fun _ _ => rfl), rfl, ?_, ?_⟩, ?_⟩
    · intro b off hp
      have hin : MemPlace.cell b off ∈ before := by rw [hps]; simpa using hp
      rw [hb.frozen (hlt _ hin)]
      exact hz b off hin
    · intro ha
      have := hn ha
      rw [hps] at this
      simpa using this
    · intro p hp _
      rw [hps]
      simpa using hp


/-- What was read reads as it did. -/
theorem stays {H : Type} {enc : TypeId × Value → H} {P : Program} (hl : laidOutB P = true) {W W' : World} {sp' : Nat → Bool} : ∀ (ts : List TypeId) (vs : List Value) (ds : List (DataW H)) (ps : List MemPlace), (∀ t ∈ ts, P.readableRec t = true ∧ t < P.types.size) →
    DataW.TrodAll enc P W 0 (fun _ => true) true ts vs ds ps → (∀ p ∈ ps, W.sameAt W' p) → (∀ p ∈ ps, sp' p.block = true) → DataW.TrodAll enc P W' 0 sp' true ts vs ds ps
  | [], [], [], ps, _, h, _, _ => h
  | t :: ts, v :: vs, d :: ds, ps, ht, h, h1, h2 => by
    obtain ⟨p, q, a, b, rfl⟩ := h
    exact ⟨p, q, WideElems.Trod_stays hl (ht t (by simp)).1 (ht t (by simp)).2 a (fun x hx => h1 x (by simp [hx])) (fun x hx => h2 x (by simp [hx])), stays hl ts vs ds q (fun t h => ht t (by simp [h])) b (fun x hx => h1 x (by simp [hx])) (fun x hx => h2 x (by simp [hx])), rfl⟩
  | [], _ :: _, _, _, _, h, _, _ => by simp [DataW.TrodAll] at h
  | [], [], _ :: _, _, _, h, _, _ => by simp [DataW.TrodAll] at h
  | _ :: _, [], _, _, _, h, _, _ => by simp [DataW.TrodAll] at h
  | _ :: _, _ :: _, [], _, _, h, _, _ => by simp [DataW.TrodAll] at h

theorem own24 : ownKnob Try.prog.godebug = none := by kernel_rfl
theorem clo2 : Try.prog.cellsOf 2 = 1 := by kernel_rfl
theorem clo31 : Try.prog.cellsOf 31 = 1 := by kernel_rfl
theorem clo36 : Try.prog.cellsOf 36 = 4 := by kernel_rfl
theorem read3 : Try.prog.readableRec 3 = true ∧ 3 < Try.prog.types.size := ⟨by kernel_rfl, of_decide_eq_true (by kernel_rfl)⟩
theorem read22 : Try.prog.readableRec 22 = true ∧ 22 < Try.prog.types.size := ⟨by kernel_rfl, of_decide_eq_true (by kernel_rfl)⟩
theorem read23 : Try.prog.readableRec 23 = true ∧ 23 < Try.prog.types.size := ⟨by kernel_rfl, of_decide_eq_true (by kernel_rfl)⟩
theorem read24 : Try.prog.readableRec 24 = true ∧ 24 < Try.prog.types.size := ⟨by kernel_rfl, of_decide_eq_true (by kernel_rfl)⟩
/-- A slice of points, as it is read. -/
theorem open_pts {H : Type} {enc : TypeId × Value → H} {w : World} {base : Nat} {spare : Nat → Bool} {held : Bool} {fuel : Nat} {v : Value} {x : DataW H × List MemPlace}
    (h : DataW.trod enc Try.prog w base spare held fuel 22 [v] = some x) : ∃ (oa : Option Addr) (cap : Nat) (pts : List (List Int)), v = .slice oa pts.length cap ∧ Pts w oa pts := by
  obtain ⟨oa, cap, rs, rfl, _, hs, _⟩ := open_rows (A := { p : Value × List Int // PtAt w p.1 p.2 }) (fun r => [r.1.1]) Try.underlying22 clo31 (by omega) (fun m cs y hc hy => by
    match cs, hc with
    | [u], _ =>
      obtain ⟨ox, cx, xs, rfl, _, hX, _⟩ := open_nums Try.underlying31 Try.underlying2 clo2 hy
      exact ⟨⟨(.slice ox xs.length cx, xs), ox, cx, rfl, hX⟩, rfl⟩) h
  refine ⟨oa, cap, rs.map fun r => r.1.2, by simp, ⟨rs.map fun r => r.1.1, by simp, by rw [List.map_map]; exact hs, fun k u xs hu hx => ?_⟩⟩
  rw [List.getElem?_map, Option.map_eq_some_iff] at hu hx
  obtain ⟨r, hr, rfl⟩ := hu
  obtain ⟨r', hr', rfl⟩ := hx
  rw [hr] at hr'
  injection hr' with hr'
  subst hr'
  exact r.2
theorem get_some' {A : Type} {xs : List A} {n i : Nat} (h : xs.length = n) (hi : i < n) : ∃ y, xs[i]? = some y := ⟨_, List.getElem?_eq_getElem (by omega)⟩
set_option maxRecDepth 100000 in
theorem row_node {H : Type} {enc : TypeId × Value → H} {w : World} {base : Nat} {spare : Nat → Bool} {held : Bool} (m : Nat) (cs : List Value) (y : DataW H × List MemPlace) (_ : cs.length = 4) (h : DataW.trod enc Try.prog w base spare held m 36 cs = some y) : ∃ r : Nd, cs = r.vals := by
  obtain ⟨xs, n, _, _, hc, hl, hf⟩ := DataW.trod_struct Try.underlying36 h
  rw [clo36] at hc
  match cs, hc with
  | [a, b, c, d], _ =>
    have hl' : xs.length = 4 := hl
    obtain ⟨y0, g0⟩ := get_some' hl' (i := 0) (by omega)
    have h0 : DataW.trod enc Try.prog w base spare held n 3 (List.take (Try.prog.cellsOf 3) (List.drop 0 ([a, b, c, d] : List Value))) = xs[0]? := hf 0 _ rfl
    simp only [g0] at h0
    obtain ⟨y1, g1⟩ := get_some' hl' (i := 1) (by omega)
    have h1 : DataW.trod enc Try.prog w base spare held n 3 (List.take (Try.prog.cellsOf 3) (List.drop 1 ([a, b, c, d] : List Value))) = xs[1]? := hf 1 _ rfl
    simp only [g1] at h1
    obtain ⟨y2, g2⟩ := get_some' hl' (i := 2) (by omega)
    have h2 : DataW.trod enc Try.prog w base spare held n 3 (List.take (Try.prog.cellsOf 3) (List.drop 2 ([a, b, c, d] : List Value))) = xs[2]? := hf 2 _ rfl
    simp only [g2] at h2
    obtain ⟨y3, g3⟩ := get_some' hl' (i := 3) (by omega)
    have h3 : DataW.trod enc Try.prog w base spare held n 3 (List.take (Try.prog.cellsOf 3) (List.drop 3 ([a, b, c, d] : List Value))) = xs[3]? := hf 3 _ rfl
    simp only [g3] at h3
    rw [clo3] at h0 h1 h2 h3
    obtain ⟨x0, e0⟩ := row_int 3 Try.underlying3 _ _ _ rfl h0
    obtain ⟨x1, e1⟩ := row_int 3 Try.underlying3 _ _ _ rfl h1
    obtain ⟨x2, e2⟩ := row_int 3 Try.underlying3 _ _ _ rfl h2
    obtain ⟨x3, e3⟩ := row_int 3 Try.underlying3 _ _ _ rfl h3
    simp at e0 e1 e2 e3
    subst e0 e1 e2 e3
    exact ⟨⟨x0, x1, x2, x3⟩, rfl⟩
theorem open_nodes {H : Type} {enc : TypeId × Value → H} {w : World} {base : Nat} {spare : Nat → Bool} {held : Bool} {fuel : Nat} {v : Value} {x : DataW H × List MemPlace}
    (h : DataW.trod enc Try.prog w base spare held fuel 23 [v] = some x) : ∃ (oa : Option Addr) (cap : Nat) (t : List Nd), v = .slice oa t.length cap ∧ Sl w oa 4 (t.map Nd.vals) := by
  obtain ⟨oa, cap, rs, rfl, _, hs, _⟩ := open_rows Nd.vals Try.underlying23 clo36 (by omega) row_node h
  exact ⟨oa, cap, rs, rfl, hs⟩
end Go.Proofs.Ng
end

