/-
  Texts put together: Fh Co.
-/
import Derived.Test.YteeeogdfnpdpcaaGreatZNeighborRadius25
import Derived.Test.YteeeogdfnpdpcaaGreatZNeighborRadius10
import Derived.Test.YteeeogdfnpdpcaaGreatZNeighborRadius11
import Derived.Test.YteeeogdfnpdpcaaGreatZNeighborRadius14
import Derived.Deep.Slices
import Derived.OpenShut
import Derived.ChangeArms
import Derived.ProofKit
import Derived.ChangeSame
import Derived.Carry
import Derived.Below
import Derived.Lib.SmallJoins
set_option linter.unusedVariables false
section
/-
  The law NeighborRadius.
-/
namespace Go.Proofs.Ng
open Go.RowKit

theorem below_g {b : Nat} {w W W' : World} (hb : Below b w W) (hg : W.grownBy W' (some b)) (hs : b ≤ w.heap.size) : Below b w W' :=
  ⟨hg.os.trans hb.os, hg.tape.trans hb.tape, hg.output.trans hb.output, Nat.le_trans hb.size hg.size, fun k hk => (hg.block k (Nat.lt_of_lt_of_le hk (Nat.le_trans hs hb.size)) (fun e => by injection e; omega)).trans (hb.block k hk)⟩
set_option maxRecDepth 100000 in
set_option maxHeartbeats 4000000 in
theorem radius4 (ol om : Option Addr) (cl cm : Nat) (ls xs : List Int) (n mo : Int) (w : World) (hL : Sl w ol 1 (pvals ls)) (hl : ls.length ≤ 9223372036854775807) (hM : Sl w om 1 (pvals xs)) (hm : xs.length * 8 ≤ 140737488351232) (hmn : om = none → xs = [] ∧ cm = 0) :
    Calls Tryz.prog 4 #[.slice ol ls.length cl, .slice om xs.length cm, .int .i64 n, .int .i64 mo] w (BoolP true w) := by
  have HSO := Lib.hid (some9 ol om cl cm ls xs n w hL hl hM hm hmn)
  clear hL hM hmn hl hm
  go_enter Tryz.func4, Tryz.ntmps4
  go_wp2_with fail
  with_reducible refine HSO.out.mono ?_
  rintro e W2 ⟨js, ms, oa, cj, oms, cms, pts, op, cp, q, oq, cq, rfl, hrob, hgood, hpp, ⟨hql, hqi⟩, hqs, hb2⟩
  have hpl : pts.length ≤ 12 := by have := hgood.1; omega
  have HFI := Lib.hid (fits_some hrob hgood (by omega) hql hqi)
  have HP := Lib.hid hpp
  have HQ := Lib.hid hqs
  have HROB := Lib.hid hrob
  have HB2 := Lib.hid hb2
  have hq12 : q.length ≤ 12 := by have := hrob.1; omega
  have hj3 : js.length ≤ 3 := by have := hrob.1; omega
  clear hrob hgood hpp hb2 hqs hqi HSO hql
  go_upto_region 2 with fail
  have hbx_ := blks1 W2 [.slice oa js.length cj, .slice oms ms.length cms] 25
  replace HP := Lib.hid (HP.out.keep hbx_.2)
  replace HQ := Lib.hid (HQ.out.keep hbx_.2)
  have HB3 := Lib.hid (hbx_.2)
  generalize W2.alloc (.cells #[.slice oa js.length cj, .slice oms ms.length cms] 25) = W3 at hbx_ HP HQ HB3 ⊢
  obtain ⟨r9, hbel_⟩ := hbx_
  obtain ⟨n9, hn_⟩ : ∃ n, n = W2.heap.size := ⟨_, rfl⟩
  rw [← hn_] at r9 ⊢
  clear hn_ hbel_
  have HROB := Lib.hid (show Sl W3 oa 12 (js.map JV.vals) ∧ Sl W3 oms 5 (ms.map MV.vals) ∧ ms.length ≤ 2 from by
    have h := HROB.out
    obtain ⟨_, h2, _, _, h5, h6⟩ := h
    exact ⟨h5.keep HB3.out, h6.keep HB3.out, h2⟩)
  have HB3 := Lib.hid (below_call HB2.out HB3.out)
  have hbd := build11 op cp pts W3 HP.out
  have HOK := Lib.hid (HFI.out.2.2.2.1)
  generalize buildP pts = t at hbd HOK HFI
  have HBD := Lib.hid hbd
  have ht12 : t.length ≤ 12 := by have := HOK.out.2.1; omega
  have HR9 := Lib.hid r9
  clear hbd r9 HB2
  go_wp2_with fail
  with_reducible refine HBD.out.mono ?_
  rintro e W4 ⟨ot, ct, rfl, -, hst, hb, -⟩
  have HT := Lib.hid (hst)
  have HP := Lib.hid (HP.out.keep hb)
  have HQ := Lib.hid (HQ.out.keep hb)
  have HROB := Lib.hid (show Sl W4 oa 12 (js.map JV.vals) ∧ Sl W4 oms 5 (ms.map MV.vals) ∧ ms.length ≤ 2 from ⟨HROB.out.1.keep hb, HROB.out.2.1.keep hb, HROB.out.2.2⟩)
  have HB4 := Lib.hid (below_call HB3.out hb)
  have HR9 := Lib.hid (HR9.out.keep hb)
  clear hst hb HBD HB3
  have hmk := run_make44 pts.length (by omega)
  go_upto_region 5 with fail
  generalize bits BinOp.and IntKind.i64 mo 262143 = most
  obtain ⟨gI, hgI⟩ : ∃ n, n = W4.heap.size := ⟨_, rfl⟩
  have kI : Blk (W4.alloc (.cells (bls (List.replicate pts.length false)).toArray 4)) gI (bls (inB pts.length [])) := by
    rw [inB_nil, hgI]
    exact Blk.new W4 _ 4
  have kB : Below W4.heap.size W4 (W4.alloc (.cells (bls (List.replicate pts.length false)).toArray 4)) := (Below.refl _ _).alloc (Nat.le_refl _) _
  rw [← hgI]
  generalize (W4.alloc (.cells (bls (List.replicate pts.length false)).toArray 4)) = W5 at kI kB ⊢
  have HGI := Lib.hid hgI
  have HWI := Lib.hid (within13 oa oms op ot oq cj cms cp ct cq js ms pts t q most W5 (by omega) (by have := HROB.out.2.2; omega) (HROB.out.1.keep kB) (HROB.out.2.1.keep kB) (HP.out.keep kB) (HT.out.keep kB) (HQ.out.keep kB) (by omega) (by omega) (by omega) HFI.out)
  have r95 := HR9.out.keep kB
  have y0 : W5.cell? ⟨n9, 0, none⟩ = some (.slice oa js.length cj) := r95.c 0 _ rfl
  have y1 : W5.cell? ⟨n9, 1, none⟩ = some (.slice oms ms.length cms) := r95.c 1 _ rfl
  have l9 := r95.lt
  have KI := Lib.hid kI
  have KB := Lib.hid kB
  clear hmk hgI kI kB r95
  go_wp2_with fail
  with_reducible refine HWI.out.mono ?_
  rintro e W6 ⟨oW, cW, rfl, hsl, hb6, hfr⟩
  obtain ⟨L, hLe⟩ : ∃ L, L = inL pts.length (dP js q pts) most := ⟨_, rfl⟩
  have hLm : ∀ p, p ∈ L ↔ p < pts.length ∧ dP js q pts p ≤ most := fun p => by rw [hLe]; exact inL_mem
  have hLn : L.Nodup := by rw [hLe]; exact (inL_asc _ _ _).imp fun h => Nat.ne_of_lt h
  have hLl : L.length ≤ 12 := by rw [hLe]; exact Nat.le_trans (inL_len _ _ _) hpl
  rw [← hLe] at hsl ⊢
  have HSL : Hid (Sl W6 oW 1 (pvals (L.map fun x => ((x : Nat) : Int)))) := Lib.hid (by
    have e : nvals L = pvals (L.map fun x => ((x : Nat) : Int)) := by simp [nvals, pvals]
    rw [← e]; exact hsl)
  have hgW : gI < W5.heap.size := KI.out.lt
  have HFR : Hid (∀ a, oW = some a → gI < a.block) := Lib.hid (fun a ha => Nat.lt_of_lt_of_le hgW (hfr a ha))
  have kI6 := KI.out.keep hb6
  have HB6 : Hid (Below gI W4 W6) := Lib.hid (by rw [HGI.out]; exact below_call KB.out hb6)
  have HLM := Lib.hid hLm
  have HLN := Lib.hid hLn
  clear hsl hfr hLe hLm hLn HWI y0 y1 l9 hb6 hgW
  go_wp2_with fail
  go_loopw [16] (fun i X => ∃ k' : Nat, i = .int .i64 (k' : Nat) ∧ k' ≤ L.length ∧ Blk X gI (bls (inB pts.length (L.take k'))) ∧ W6.grownBy X (some gI)) (fun i _ => L.length - (intOf i).toNat)
  case atStart => exact ⟨0, rfl, Nat.zero_le _, by rw [List.take_zero]; exact kI6, World.grownBy.refl _ _⟩
  case round =>
    clear kI6
    obtain ⟨k', rfl, hk', kI, kG⟩ := hrel
    obtain ⟨V, rfl⟩ : ∃ X, X = wr := ⟨_, rfl⟩
    have hslV := HSL.out.keepO kG (fun b off s e h => by injection h with h; have := HFR.out _ e; simp only at this; omega)
    by_cases hlt : k' < L.length
    · obtain ⟨a, ha⟩ : ∃ a, L[k']? = some a := ⟨_, List.getElem?_eq_getElem hlt⟩
      have han : a < pts.length := ((HLM.out a).1 (List.mem_of_getElem? ha)).1
      have hnt : a ∉ L.take k' := by
        obtain ⟨h1, h2⟩ := List.getElem?_eq_some_iff.1 ha
        have hd : L.drop k' = a :: L.drop (k' + 1) := by rw [List.drop_eq_getElem_cons h1, h2]
        have hn := HLN.out
        rw [← List.take_append_drop k' L, hd, List.nodup_append] at hn
        exact fun h => hn.2.2 a h a (by simp) rfl
      obtain ⟨br, offr, hbr, z1, lr⟩ := pv_get hslV (show (L.map fun x => ((x : Nat) : Int))[k']? = some ((a : Nat) : Int) by rw [List.getElem?_map, ha]; rfl)
      subst hbr
      have z2 : V.cell? ⟨gI, a, none⟩ = some (.bool false) := kI.c a _ (bls_get (by rw [inB_get han]; simp [hnt]))
      have lI := kI.lt
      have fI := kI.f a
      have ha0 : decide ((a : Int) < 0) = false := decide_eq_false (by omega)
      have ha1 : decide ((pts.length : Int) ≤ (a : Int)) = false := decide_eq_false (by omega)
      have ha2 : (a : Int) < (pts.length : Int) := by omega
      have hkr : (k' : Int) < (L.length : Int) := by omega
      have htk : L.take (k' + 1) = L.take k' ++ [a] := by rw [List.take_add_one, ha]; rfl
      have kI2 : Blk (V.setCell ⟨gI, a, none⟩ (.bool true)) gI (bls (inB pts.length (L.take (k' + 1)))) := by
        have h := kI.put a (.bool true)
        rw [bls_set, inB_set han, ← htk] at h
        exact h
      have kG2 := grown_trans kG (grown_set V gI a (.bool true))
      have KI2 := Lib.hid kI2
      have KG2 := Lib.hid kG2
      clear kI kG ha hnt hslV htk kI2 kG2
      go_wp2_with fail
      go_roundw
      case rel => exact ⟨k' + 1, by simp, by omega, KI2.out, KG2.out⟩
      case measure => simp [intOf]; omega
    · obtain rfl : k' = L.length := by omega
      rw [List.take_length] at kI
      have hbV : Below W4.heap.size W4 V := by
        have h := below_g HB6.out kG (by rw [HGI.out]; exact Nat.le_refl _)
        rwa [HGI.out] at h
      have HP := Lib.hid (HP.out.keep hbV)
      have HQ := Lib.hid (HQ.out.keep hbV)
      have HROB := Lib.hid (show Sl V oa 12 (js.map JV.vals) ∧ Sl V oms 5 (ms.map MV.vals) ∧ ms.length ≤ 2 from ⟨HROB.out.1.keep hbV, HROB.out.2.1.keep hbV, HROB.out.2.2⟩)
      have r9V := HR9.out.keep hbV
      have y0 : V.cell? ⟨n9, 0, none⟩ = some (.slice oa js.length cj) := r9V.c 0 _ rfl
      have y1 : V.cell? ⟨n9, 1, none⟩ = some (.slice oms ms.length cms) := r9V.c 1 _ rfl
      have l9 := r9V.lt
      have hne := nearest16 oa oms op ot oq cj cms cp ct cq js ms pts t q (pts.length + 1) V (by omega) (by have := HROB.out.2.2; omega) HROB.out.1 HROB.out.2.1 HP.out (HT.out.keep hbV) HQ.out (by omega) (by omega) (by omega) HFI.out (by omega) (by omega)
      rw [show ((pts.length + 1 : Nat) : Int) = (pts.length : Int) + 1 from by omega] at hne
      have HNE := Lib.hid hne
      have hwr : IntKind.i64.wrap ((pts.length : Int) + 1) = (pts.length : Int) + 1 := IntWalk.i64_in _ (by omega)
      have HR9 := Lib.hid r9V
      have HB4 := Lib.hid (below_call HB4.out hbV)
      have KI := Lib.hid kI
      have hkr : ¬ ((L.length : Int) < (L.length : Int)) := Int.lt_irrefl _
      clear hne kI kG hslV hbV r9V hlt hk'
      go_wp2_with fail
      with_reducible refine HNE.out.mono ?_
      rintro e W8 ⟨R, bR, hR, rfl, -, hb8, hkR⟩
      have hRl : R.length = pts.length := by have := hR.set.len; omega
      rw [hRl]
      have hslR : Sl W8 (some ⟨bR, 0, none⟩) 1 (pvals (R.map fun x => ((x : Nat) : Int))) := by
        have h := blk_sl R.length hkR
        rwa [List.take_of_length_le (by simp)] at h
      have HSR := Lib.hid hslR
      have HRR := Lib.hid hR
      have HRL := Lib.hid hRl
      have HB8 := Lib.hid hb8
      clear hR hb8 hkR hslR hRl hwr hkr y0 y1 l9 HNE HSL HFR HB6 KB
      go_wp2_with fail
      go_loopw [18] (fun i X => ∃ k' : Nat, i = .int .i64 (k' : Nat) ∧ k' ≤ pts.length ∧ Below W8.heap.size W8 X) (fun i _ => pts.length - (intOf i).toNat)
      case atStart => exact ⟨0, rfl, Nat.zero_le _, Below.refl _ _⟩
      case round =>
        obtain ⟨k', rfl, hk', hb⟩ := hrel
        obtain ⟨V2, rfl⟩ : ∃ X, X = V := ⟨_, rfl⟩
        obtain ⟨V, rfl⟩ : ∃ X, X = wr := ⟨_, rfl⟩
        have hbV := below_call HB8.out hb
        by_cases hlt : k' < pts.length
        · obtain ⟨a, ha⟩ : ∃ a, R[k']? = some a := ⟨_, List.getElem?_eq_getElem (by rw [HRL.out]; exact hlt)⟩
          have han : a < pts.length := HRR.out.set.lt a (List.mem_of_getElem? ha)
          obtain ⟨x, hx⟩ : ∃ x, pts[a]? = some x := ⟨_, List.getElem?_eq_getElem han⟩
          obtain ⟨br, offr, hbr, z1, lr⟩ := pv_get (HSR.out.keep hb) (show (R.map fun x => ((x : Nat) : Int))[k']? = some ((a : Nat) : Int) by rw [List.getElem?_map, ha]; rfl)
          injection hbr with hbr
          injection hbr with hb0 hb1
          subst hb0
          subst hb1
          rw [Nat.zero_add] at z1
          obtain ⟨bp, offp, ox, cx, hope, y4, lp, hox⟩ := (HP.out.keep hbV).get hx
          subst hope
          have z9 := HR9.out.keep hbV
          have y0 : V.cell? ⟨n9, 0, none⟩ = some (.slice oa js.length cj) := z9.c 0 _ rfl
          have y1 : V.cell? ⟨n9, 1, none⟩ = some (.slice oms ms.length cms) := z9.c 1 _ rfl
          have l9 := z9.lt
          have kI2 := KI.out.keep hbV
          have lI := kI2.lt
          have z2 : V.cell? ⟨gI, a, none⟩ = some (.bool (decide (a ∈ L))) := kI2.c a _ (bls_get (inB_get han))
          have hmk : ∀ Y, Below V.heap.size V Y → Y.cell? ⟨n9, 0, none⟩ = some (.slice oa js.length cj) ∧ Y.cell? ⟨n9, 1, none⟩ = some (.slice oms ms.length cms) ∧ Y.cell? ⟨bR, k', none⟩ = some (.int .i64 (a : Nat)) ∧ Y.cell? ⟨gI, a, none⟩ = some (.bool (decide (a ∈ L))) ∧ Y.cell? ⟨bp, offp + a, none⟩ = some (.slice ox x.length cx) ∧ Below V.heap.size V Y := fun Y hY => ⟨(hY.cell (p := ⟨n9, 0, none⟩) l9).trans y0, (hY.cell (p := ⟨n9, 1, none⟩) l9).trans y1, (hY.cell (p := ⟨bR, k', none⟩) lr).trans z1, (hY.cell (p := ⟨gI, a, none⟩) lI).trans z2, (hY.cell (p := ⟨bp, offp + a, none⟩) lp).trans y4, hY⟩
          have hS := hmk V (Below.refl _ _)
          have HDI := Lib.hid (fun (X : World) (hX : Below V.heap.size V X) => (dist_pt (X := X) (oj := oa) (om := oms) (ox := ox) (oq := oq) (cj := cj) (cm := cms) (cx := cx) (cq := cq) HFI.out (by have := HROB.out.2.2; omega) (HROB.out.1.keep (hbV.trans (hX.mono hbV.size))) (HROB.out.2.1.keep (hbV.trans (hX.mono hbV.size))) hx (hox.keep hX) (HQ.out.keep (hbV.trans (hX.mono hbV.size)))))
          have ha0 : decide ((a : Int) < 0) = false := decide_eq_false (by omega)
          have ha1 : decide ((pts.length : Int) ≤ (a : Int)) = false := decide_eq_false (by omega)
          have ha1n : decide (pts.length ≤ a) = false := decide_eq_false (by omega)
          have ha2 : (a : Int) < (pts.length : Int) := by omega
          have hkr : (k' : Int) < (pts.length : Int) := by omega
          have HBB := Lib.hid hb
          have HMI := Lib.hid (HLM.out a)
          clear hx hox hb hbV z9 y0 y1 y4 z1 z2 HP ha kI2
          by_cases hle : dP js q pts a ≤ most
          · have hd1 : decide (dP js q pts a ≤ most) = true := decide_eq_true hle
            have hd2 : decide (a ∈ L) = true := decide_eq_true (HMI.out.2 ⟨han, hle⟩)
            rw [hd2] at hmk hS
            have HMK := Lib.hid hmk
            clear hmk hle hd2
            go_upto_region 16 with fail
            go_region_held3 (fun Y => Y.cell? ⟨n9, 0, none⟩ = some (.slice oa js.length cj) ∧ Y.cell? ⟨n9, 1, none⟩ = some (.slice oms ms.length cms) ∧ Y.cell? ⟨bR, k', none⟩ = some (.int .i64 (a : Nat)) ∧ Y.cell? ⟨gI, a, none⟩ = some (.bool true) ∧ Y.cell? ⟨bp, offp + a, none⟩ = some (.slice ox x.length cx) ∧ Below V.heap.size V Y)
              (first
                | assumption
                | exact HMK.out _ (by repeat (first | assumption | exact Below.refl _ _ | apply Below.drew | exact (by assumption : _ ∧ _ ∧ _ ∧ _ ∧ _ ∧ Below V.heap.size V _).2.2.2.2.2)))
              ((go_at_call 15
                with_reducible refine (HDI.out _ (by assumption : _ ∧ _ ∧ _ ∧ _ ∧ _ ∧ Below V.heap.size V _).2.2.2.2.2).mono ?_
                rintro e Xa ⟨rfl, hba⟩
                have hbs := (by assumption : _ ∧ _ ∧ _ ∧ _ ∧ _ ∧ Below V.heap.size V _).2.2.2.2.2
                replace hba := below_call hbs hba))
            all_goals
              go_wp2_with fail
              go_roundw
              case rel => exact ⟨k' + 1, by simp, by omega, below_call HBB.out hba⟩
              case measure => simp [intOf]; omega
          · have hd1 : decide (dP js q pts a ≤ most) = false := decide_eq_false hle
            have hd2 : decide (a ∈ L) = false := decide_eq_false (fun h => hle (HMI.out.1 h).2)
            rw [hd2] at hmk hS
            have HMK := Lib.hid hmk
            clear hmk hle hd2
            go_upto_region 16 with fail
            go_region_held3 (fun Y => Y.cell? ⟨n9, 0, none⟩ = some (.slice oa js.length cj) ∧ Y.cell? ⟨n9, 1, none⟩ = some (.slice oms ms.length cms) ∧ Y.cell? ⟨bR, k', none⟩ = some (.int .i64 (a : Nat)) ∧ Y.cell? ⟨gI, a, none⟩ = some (.bool false) ∧ Y.cell? ⟨bp, offp + a, none⟩ = some (.slice ox x.length cx) ∧ Below V.heap.size V Y)
              (first
                | assumption
                | exact HMK.out _ (by repeat (first | assumption | exact Below.refl _ _ | apply Below.drew | exact (by assumption : _ ∧ _ ∧ _ ∧ _ ∧ _ ∧ Below V.heap.size V _).2.2.2.2.2)))
              ((go_at_call 15
                with_reducible refine (HDI.out _ (by assumption : _ ∧ _ ∧ _ ∧ _ ∧ _ ∧ Below V.heap.size V _).2.2.2.2.2).mono ?_
                rintro e Xa ⟨rfl, hba⟩
                have hbs := (by assumption : _ ∧ _ ∧ _ ∧ _ ∧ _ ∧ Below V.heap.size V _).2.2.2.2.2
                replace hba := below_call hbs hba))
            all_goals
              go_wp2_with fail
              go_roundw
              case rel => exact ⟨k' + 1, by simp, by omega, below_call HBB.out hba⟩
              case measure => simp [intOf]; omega
        · obtain rfl : k' = pts.length := by omega
          have hpn : ¬ ((pts.length : Int) < (pts.length : Int)) := Int.lt_irrefl _
          have HBB := Lib.hid hbV
          clear hb hbV
          go_wp2_with fail
          refine (Tryz.awake _).mono ?_
          rintro e W9 ⟨rfl, hb9⟩
          go_wp2_with fail
          go_ret
          exact ⟨rfl, below_call HB4.out (below_call HBB.out hb9)⟩
end Go.Proofs.Ng
end

section
/-
  What the readings of the arguments say of memory.
-/
namespace Go.Proofs.Ng
open Go.RowKit
theorem list_of {A : Type} (P : Nat → A → Prop) : ∀ n : Nat, (∀ i, i < n → ∃ r, P i r) → ∃ rs : List A, rs.length = n ∧ ∀ (i : Nat) (r : A), rs[i]? = some r → P i r
  | 0, _ => ⟨[], rfl, fun i r h => by simp at h⟩
  | n + 1, h => by
    obtain ⟨rs, hl, hr⟩ := list_of P n fun i hi => h i (by omega)
    obtain ⟨r, hp⟩ := h n (by omega)
    refine ⟨rs ++ [r], by simp [hl], fun i r' hi => ?_⟩
    rcases Nat.lt_or_ge i rs.length with hlt | hge
    · rw [List.getElem?_append_left hlt] at hi
      exact hr i r' hi
    · rw [List.getElem?_append_right hge] at hi
      have : i = n := by
        rcases Nat.eq_or_lt_of_le hge with h | h
        · omega
        · rw [List.getElem?_eq_none (by simp; omega)] at hi; cases hi
      subst this
      have e : i - rs.length = 0 := by omega
      rw [e] at hi
      simp at hi
      subst hi
      exact hp

/-- A slice that is read lies in memory, row for row. -/
theorem open_rows {H : Type} {enc : TypeId × Value → H} {P : Program} {w : World} {base : Nat} {spare : Nat → Bool} {held : Bool} {A : Type} (f : A → List Value) {t e : TypeId} {n fuel : Nat} {v : Value} {x : DataW H × List MemPlace} (ht : P.underlying t = some (.slice e)) (hc : P.cellsOf e = n) (hn : 0 < n)
    (hrow : ∀ (m : Nat) (cs : List Value) (y : DataW H × List MemPlace), cs.length = n → DataW.trod enc P w base spare held m e cs = some y → ∃ r : A, cs = f r)
    (h : DataW.trod enc P w base spare held fuel t [v] = some x) : ∃ (oa : Option Addr) (cap : Nat) (rs : List A), v = .slice oa rs.length cap ∧ rs.length ≤ 9223372036854775807 ∧ Sl w oa n (rs.map f) ∧ (oa = none → rs = [] ∧ cap = 0) ∧ (x.1 = .nil ∧ rs = [] ∨ ∃ elems spare, x.1 = .slice elems spare ∧ elems.length = rs.length) := by
  rcases Go.Deep.open_slice ht h with ⟨h0, hx0⟩ | ⟨a, len, cap, m, k, D, Pl, h1, hb, hl, hm, hmm, hx0, hx⟩
  · injection h0 with h0 _
    subst h0
    exact ⟨none, 0, [], rfl, by simp, fun h => absurd rfl h, fun _ => ⟨rfl, rfl⟩, .inl ⟨by rw [hx0], rfl⟩⟩
  · injection h1 with h1 _
    subst h1
    have hlm : len ≤ m := by rw [hmm]; split <;> omega
    obtain ⟨rs, hrl, hr⟩ := list_of (fun i r => w.cells? base (a.add (i * n)) n = some (f r)) len (fun i hi => by
      obtain ⟨cs, c1, c2⟩ := hx i (by omega)
      rw [hc] at c1
      obtain ⟨r, rfl⟩ := hrow _ _ _ (World.cells?_some c1).2.1 c2
      exact ⟨r, c1⟩)
    subst hrl
    refine ⟨some a, cap, rs, rfl, by unfold maxLen at hm; omega, fun hne => ?_, fun h => by (cases h), .inr ⟨_, _, by rw [hx0], by simp⟩⟩
    have hne' : rs ≠ [] := fun h => hne (by simp [h])
    have cell : ∀ (i : Nat) (r : A), rs[i]? = some r → ∀ q u, (f r)[q]? = some u → w.cell? ((a.add (i * n)).add q) = some u := by
      intro i r hi q u hq
      obtain ⟨_, c2, c3⟩ := World.cells?_some (hr i r hi)
      have hqn : q < n := by
        rcases Nat.lt_or_ge q (f r).length with h' | h'
        · omega
        · rw [List.getElem?_eq_none h'] at hq; cases hq
      rw [c3 q hqn, hq]
    -- the slice's address has no spot
    have sp : a.spot = none := by
      cases rs with
      | nil => exact absurd rfl hne'
      | cons r0 rt =>
        obtain ⟨_, c2, c3⟩ := World.cells?_some (hr 0 r0 rfl)
        have c4 := c3 0 hn
        have : (f r0)[0]? = some ((f r0)[0]'(by omega)) := List.getElem?_eq_getElem _
        rw [this] at c4
        cases hs : a.spot with
        | none => rfl
        | some s =>
          exfalso
          have e0 : ((a.add (0 * n)).add 0) = a := by simp [Addr.add]
          rw [e0] at c4
          unfold World.cell? at c4
          rw [hs] at c4
          revert c4
          cases w.heap[a.block]? with
          | none => simp
          | some o => cases o <;> simp
    obtain ⟨b, off, sp'⟩ := a
    simp at sp
    subst sp
    refine ⟨b, off, rfl, ?_, fun i r hi q u hq => ?_⟩
    · cases rs with
      | nil => exact absurd rfl hne'
      | cons r0 rt =>
        obtain ⟨_, c2, c3⟩ := World.cells?_some (hr 0 r0 rfl)
        have c4 := c3 0 hn
        have : (f r0)[0]? = some ((f r0)[0]'(by omega)) := List.getElem?_eq_getElem _
        rw [this] at c4
        rcases Nat.lt_or_ge b w.heap.size with h' | h'
        · exact h'
        · exfalso
          have e0 : (((⟨b, off, none⟩ : Addr).add (0 * n)).add 0) = ⟨b, off, none⟩ := by simp [Addr.add]
          rw [e0] at c4
          simp [World.cell?, Array.getElem?_eq_none h'] at c4
    · rw [List.getElem?_map] at hi
      cases hri : rs[i]? with
      | none => rw [hri] at hi; cases hi
      | some r' =>
        rw [hri] at hi
        simp at hi
        subst hi
        rw [← cell i r' hri q u hq]
        congr 1
        simp only [Addr.add]
        split <;> split <;> simp_all <;> omega

theorem row_int {H : Type} {enc : TypeId × Value → H} {w : World} {base : Nat} {spare : Nat → Bool} {held : Bool} (e : TypeId) (hu : Tryz.prog.underlying e = some (.int .i64)) (m : Nat) (cs : List Value) (y : DataW H × List MemPlace) (_ : cs.length = 1) (h : DataW.trod enc Tryz.prog w base spare held m e cs = some y) : ∃ r : Int, cs = [.int .i64 r] := by
  obtain ⟨n, rfl, _⟩ := DataW.trod_int hu h
  exact ⟨n, rfl⟩
theorem clo3 : Tryz.prog.cellsOf 3 = 1 := by kernel_rfl
theorem open_nums {H : Type} {enc : TypeId × Value → H} {w : World} {base : Nat} {spare : Nat → Bool} {held : Bool} {t e : TypeId} {fuel : Nat} {v : Value} {x : DataW H × List MemPlace} (ht : Tryz.prog.underlying t = some (.slice e)) (hu : Tryz.prog.underlying e = some (.int .i64)) (hc : Tryz.prog.cellsOf e = 1)
    (h : DataW.trod enc Tryz.prog w base spare held fuel t [v] = some x) : ∃ (oa : Option Addr) (cap : Nat) (rs : List Int), v = .slice oa rs.length cap ∧ rs.length ≤ 9223372036854775807 ∧ Sl w oa 1 (pvals rs) ∧ (oa = none → rs = [] ∧ cap = 0) ∧ (x.1 = .nil ∧ rs = [] ∨ ∃ elems spare, x.1 = .slice elems spare ∧ elems.length = rs.length) :=
  open_rows (fun p : Int => [.int .i64 p]) ht hc (by omega) (row_int e hu) h
theorem laidOut : laidOutB Tryz.prog = true := by kernel_rfl
open Go.ChangeShapes Go.WideShapes Go.ChangeAt
set_option linter.unusedVariables false
/-- The post, of a world of which it is known that nothing that stood before has changed. -/
theorem post_below {H : Type} {enc : TypeId × Value → H} {P : Program} {f : Func} {s : ChangeSpec} {apart fresh handsOn again : Bool} {W W' : World} {args : Array Value} {v : Value} {ds gs : List (DataW H)} {before pa pv : List MemPlace}
    (hW : DataW.Whole enc P f.params.toList s.vars apart W args.toList ds gs before)
    (hres : ∀ (b : Nat) (sp : Nat → Bool) (hd : Bool), DataW.TrodAll enc P W' b sp hd f.resultTypes.toList (v.resultList f.resultTypes.size) (s.fn H (ds ++ gs)).results [])
    (hargs : ∀ sp : Nat → Bool, (∀ p ∈ before, sp p.block = true) → DataW.TrodAll enc P W' 0 sp true f.params.toList args.toList (s.fn H (ds ++ gs)).args pa)
    (hvars : ∀ sp : Nat → Bool, (∀ p ∈ before, sp p.block = true) → DataW.TrodVars enc P W' sp s.vars (s.fn H (ds ++ gs)).vars pv)
    (hps : before = pa ++ pv) (hb : Below W.heap.size W W')
    (hok : ∀ (j : Nat) (t : TypeId) (r : Value), f.resultTypes[j]? = some t → (v.resultList f.resultTypes.size)[j]? = some r → Value.okWide P W' .any 0 t r) :
    s.post enc P f apart fresh handsOn again W args v W' := by
  have hlt : ∀ p ∈ before, p.block < W.heap.size := fun p hp => hW.lt p hp
  have hold : ∀ p ∈ before, (fun b => decide (b < W.heap.size)) p.block = true := fun p hp => by simpa using hlt p hp
  refine ⟨ds, gs, before, [], pa, pv, hW, hres _ _ _, hargs _ hold, hvars _ hold, World.keptBut_mono (fun p hp => ⟨hp, ?_⟩) (hb.frame (· ∈ before)), fun _ => ?_⟩
  · rw [hps, List.mem_append] at hp
    exact Or.inr hp
  · obtain ⟨_, _, _, _, _, hz, hn⟩ := hW
    refine ⟨hok, _, _, ([] ++ pa) ++ pv, ⟨[] ++ pa, pv, trodAll_append (hargs _ (fun _ _ => rfl)) (hres _ _ _), hvars _ (fun _ _ => rfl), rfl, ?_, ?_⟩, ?_⟩
    · intro b off hp
      have hin : MemPlace.cell b off ∈ before := by rw [hps]; simpa using hp
      rw [hb.frozen (hlt _ hin)]
      exact hz b off hin
    · intro ha
      have := hn ha
      rw [hps] at this
      simpa using this
    · intro p hp _
      rw [hps]
      simpa using hp


/-- What was read reads as it did. -/
theorem stays {H : Type} {enc : TypeId × Value → H} {P : Program} (hl : laidOutB P = true) {W W' : World} {sp' : Nat → Bool} : ∀ (ts : List TypeId) (vs : List Value) (ds : List (DataW H)) (ps : List MemPlace), (∀ t ∈ ts, P.readableRec t = true ∧ t < P.types.size) →
    DataW.TrodAll enc P W 0 (fun _ => true) true ts vs ds ps → (∀ p ∈ ps, W.sameAt W' p) → (∀ p ∈ ps, sp' p.block = true) → DataW.TrodAll enc P W' 0 sp' true ts vs ds ps
  | [], [], [], ps, _, h, _, _ => h
  | t :: ts, v :: vs, d :: ds, ps, ht, h, h1, h2 => by
    obtain ⟨p, q, a, b, rfl⟩ := h
    exact ⟨p, q, WideElems.Trod_stays hl (ht t (by simp)).1 (ht t (by simp)).2 a (fun x hx => h1 x (by simp [hx])) (fun x hx => h2 x (by simp [hx])), stays hl ts vs ds q (fun t h => ht t (by simp [h])) b (fun x hx => h1 x (by simp [hx])) (fun x hx => h2 x (by simp [hx])), rfl⟩
  | [], _ :: _, _, _, _, h, _, _ => by simp [DataW.TrodAll] at h
  | [], [], _ :: _, _, _, h, _, _ => by simp [DataW.TrodAll] at h
  | _ :: _, [], _, _, _, h, _, _ => by simp [DataW.TrodAll] at h
  | _ :: _, _ :: _, [], _, _, h, _, _ => by simp [DataW.TrodAll] at h

theorem own24 : ownKnob Tryz.prog.godebug = none := by kernel_rfl
theorem clo2 : Tryz.prog.cellsOf 2 = 1 := by kernel_rfl
theorem clo31 : Tryz.prog.cellsOf 28 = 1 := by kernel_rfl
theorem clo36 : Tryz.prog.cellsOf 57 = 4 := by kernel_rfl
theorem read3 : Tryz.prog.readableRec 3 = true ∧ 3 < Tryz.prog.types.size := ⟨by kernel_rfl, of_decide_eq_true (by kernel_rfl)⟩
theorem read22 : Tryz.prog.readableRec 26 = true ∧ 26 < Tryz.prog.types.size := ⟨by kernel_rfl, of_decide_eq_true (by kernel_rfl)⟩
theorem read23 : Tryz.prog.readableRec 27 = true ∧ 27 < Tryz.prog.types.size := ⟨by kernel_rfl, of_decide_eq_true (by kernel_rfl)⟩
theorem read24 : Tryz.prog.readableRec 29 = true ∧ 29 < Tryz.prog.types.size := ⟨by kernel_rfl, of_decide_eq_true (by kernel_rfl)⟩
/-- A slice of points, as it is read. -/
theorem open_pts {H : Type} {enc : TypeId × Value → H} {w : World} {base : Nat} {spare : Nat → Bool} {held : Bool} {fuel : Nat} {v : Value} {x : DataW H × List MemPlace}
    (h : DataW.trod enc Tryz.prog w base spare held fuel 26 [v] = some x) : ∃ (oa : Option Addr) (cap : Nat) (pts : List (List Int)), v = .slice oa pts.length cap ∧ Pts w oa pts := by
  obtain ⟨oa, cap, rs, rfl, _, hs, _⟩ := open_rows (A := { p : Value × List Int // PtAt w p.1 p.2 }) (fun r => [r.1.1]) Tryz.underlying26 clo31 (by omega) (fun m cs y hc hy => by
    match cs, hc with
    | [u], _ =>
      obtain ⟨ox, cx, xs, rfl, _, hX, _⟩ := open_nums Tryz.underlying28 Tryz.underlying2 clo2 hy
      exact ⟨⟨(.slice ox xs.length cx, xs), ox, cx, rfl, hX⟩, rfl⟩) h
  refine ⟨oa, cap, rs.map fun r => r.1.2, by simp, ⟨rs.map fun r => r.1.1, by simp, by rw [List.map_map]; exact hs, fun k u xs hu hx => ?_⟩⟩
  rw [List.getElem?_map, Option.map_eq_some_iff] at hu hx
  obtain ⟨r, hr, rfl⟩ := hu
  obtain ⟨r', hr', rfl⟩ := hx
  rw [hr] at hr'
  injection hr' with hr'
  subst hr'
  exact r.2
theorem get_some' {A : Type} {xs : List A} {n i : Nat} (h : xs.length = n) (hi : i < n) : ∃ y, xs[i]? = some y := ⟨_, List.getElem?_eq_getElem (by omega)⟩
set_option maxRecDepth 100000 in
theorem row_node {H : Type} {enc : TypeId × Value → H} {w : World} {base : Nat} {spare : Nat → Bool} {held : Bool} (m : Nat) (cs : List Value) (y : DataW H × List MemPlace) (_ : cs.length = 4) (h : DataW.trod enc Tryz.prog w base spare held m 57 cs = some y) : ∃ r : Nd, cs = r.vals := by
  obtain ⟨xs, n, _, _, hc, hl, hf⟩ := DataW.trod_struct Tryz.underlying57 h
  rw [clo36] at hc
  match cs, hc with
  | [a, b, c, d], _ =>
    have hl' : xs.length = 4 := hl
    obtain ⟨y0, g0⟩ := get_some' hl' (i := 0) (by omega)
    have h0 : DataW.trod enc Tryz.prog w base spare held n 3 (List.take (Tryz.prog.cellsOf 3) (List.drop 0 ([a, b, c, d] : List Value))) = xs[0]? := hf 0 _ rfl
    simp only [g0] at h0
    obtain ⟨y1, g1⟩ := get_some' hl' (i := 1) (by omega)
    have h1 : DataW.trod enc Tryz.prog w base spare held n 3 (List.take (Tryz.prog.cellsOf 3) (List.drop 1 ([a, b, c, d] : List Value))) = xs[1]? := hf 1 _ rfl
    simp only [g1] at h1
    obtain ⟨y2, g2⟩ := get_some' hl' (i := 2) (by omega)
    have h2 : DataW.trod enc Tryz.prog w base spare held n 3 (List.take (Tryz.prog.cellsOf 3) (List.drop 2 ([a, b, c, d] : List Value))) = xs[2]? := hf 2 _ rfl
    simp only [g2] at h2
    obtain ⟨y3, g3⟩ := get_some' hl' (i := 3) (by omega)
    have h3 : DataW.trod enc Tryz.prog w base spare held n 3 (List.take (Tryz.prog.cellsOf 3) (List.drop 3 ([a, b, c, d] : List Value))) = xs[3]? := hf 3 _ rfl
    simp only [g3] at h3
    rw [clo3] at h0 h1 h2 h3
    obtain ⟨x0, e0⟩ := row_int 3 Tryz.underlying3 _ _ _ rfl h0
    obtain ⟨x1, e1⟩ := row_int 3 Tryz.underlying3 _ _ _ rfl h1
    obtain ⟨x2, e2⟩ := row_int 3 Tryz.underlying3 _ _ _ rfl h2
    obtain ⟨x3, e3⟩ := row_int 3 Tryz.underlying3 _ _ _ rfl h3
    simp at e0 e1 e2 e3
    subst e0 e1 e2 e3
    exact ⟨⟨x0, x1, x2, x3⟩, rfl⟩
theorem open_nodes {H : Type} {enc : TypeId × Value → H} {w : World} {base : Nat} {spare : Nat → Bool} {held : Bool} {fuel : Nat} {v : Value} {x : DataW H × List MemPlace}
    (h : DataW.trod enc Tryz.prog w base spare held fuel 27 [v] = some x) : ∃ (oa : Option Addr) (cap : Nat) (t : List Nd), v = .slice oa t.length cap ∧ Sl w oa 4 (t.map Nd.vals) := by
  obtain ⟨oa, cap, rs, rfl, _, hs, _⟩ := open_rows Nd.vals Tryz.underlying27 clo36 (by omega) row_node h
  exact ⟨oa, cap, rs, rfl, hs⟩
end Go.Proofs.Ng
end

