/-
  Texts put together: Df Dg.
-/
import Derived.Test.YtemchlakoalhcaaZJointCloses14
set_option linter.unusedVariables false
section
/-
  Walks: newCrew.
-/
namespace Go.Proofs.Jn
open Go.RowKit

set_option maxRecDepth 100000 in
set_option maxHeartbeats 4000000 in
theorem newCrew_any (om oc : Option Addr) (cm cc : Nat) (T : Tm) (w : World) (hO : TeamOk T) (hT : TeamAt w om oc T) :
    Calls Try.prog 46 #[T.val om oc cm cc] w (CrewE T w) := by
  unfold Tm.val
  obtain ⟨n1, n2, mo, cn, cf⟩ := id hO
  have HO := Lib.hid hO
  have HMO := Lib.hid mo
  have HCF := Lib.hid cf
  clear hO mo cf
  have hmm : ∀ u : World, (Instr.makeMap 80 none).run Try.prog u = .ok (.map (some u.heap.size)) (u.alloc (.map #[] 0)) := fun u => rfl
  go_enter Try.func46, Try.ntmps46
  go_upto_region 1 with fail
  have hbx_ := blks2 w [.slice om T.ms.length cm, .slice oc T.cs.length cc] [.slice none 0 0, .map none] 26 82
  replace hT := hT.keep hbx_.2.2
  have HB := Lib.hid (hbx_.2.2)
  have hod : w.heap.size ≤ w.heap.size ∧ w.heap.size < w.heap.size + 1 := by omega
  generalize (w.alloc (.cells #[.slice om T.ms.length cm, .slice oc T.cs.length cc] 26)).alloc (.cells #[.slice none 0 0, .map none] 82) = W0 at hbx_ hT HB ⊢
  obtain ⟨r1, r2, hbel_⟩ := hbx_
  generalize w.heap.size + 1 = n2' at r2 hod ⊢
  obtain ⟨n1', hn_⟩ : ∃ n, n = w.heap.size := ⟨_, rfl⟩
  rw [← hn_] at r1 ⊢
  replace hod := And.intro (Nat.le_of_eq hn_.symm) (hn_ ▸ hod.2)
  clear hn_ hbel_
  go_upto_region 2 with fail
  have hR := XR.new (Below.refl W0.heap.size W0)
  have hl1 := r1.lt
  have hl2 := r2.lt
  generalize (W0.alloc (.map #[] 0)).alloc (.cells #[.slice none 0 0, .map (some W0.heap.size)] 82) = V0 at hR ⊢
  obtain ⟨nx, hnx⟩ : ∃ n, n = W0.heap.size + 1 := ⟨_, rfl⟩
  obtain ⟨gm, hgm⟩ : ∃ n, n = W0.heap.size := ⟨_, rfl⟩
  rw [← hnx] at hR ⊢
  rw [← hgm] at hR ⊢
  clear hmm hnx hgm
  have R1 := r1.keep (by have := hR.bel; exact this)
  have a0 := R1.c 0 _ rfl
  have l1 := R1.lt
  go_wp2_with fail
  clear R1 a0 l1
  go_loopw [18] (fun i W => ∃ (es : List NxE) (vx : Value), i = .int .i64 (es.length : Nat) ∧ es.length ≤ T.ms.length ∧ es.map NxE.ls = (T.ms.take es.length).map nextOf ∧ XR W0 nx gm [] es vx W) (fun i _ => T.ms.length - (intOf i).toNat)
  case atStart => exact ⟨[], _, rfl, by simp, by simp, hR⟩
  case round =>
    clear hR
    obtain ⟨es, vx, rfl, hk, hes, hR⟩ := hrel
    have HE := Lib.hid hes
    clear hes
    by_cases hlt : es.length < T.ms.length
    · obtain ⟨Wb, rfl⟩ : ∃ X, X = wr := ⟨_, rfl⟩
      obtain ⟨m, hm⟩ : ∃ r, T.ms[es.length]? = some r := ⟨_, List.getElem?_eq_getElem hlt⟩
      have hTb := hT.keep hR.bel
      obtain ⟨bm, offm, hom, hMr⟩ := hTb.ms (map_ne hlt)
      subst hom
      have x0 : Wb.cell? ⟨bm, offm + es.length * 2, none⟩ = some (.slice m.op m.n m.cp) := hMr.c _ _ (map_get hm) 0 _ rfl
      have x1 : Wb.cell? ⟨bm, offm + es.length * 2 + 1, none⟩ = some (.slice m.oe m.es.length m.ce) := hMr.c _ _ (map_get hm) 1 _ rfl
      have hmo := HMO.out m (List.mem_of_getElem? hm)
      have HMP := Lib.hid hmo
      obtain ⟨mn1, mn2, mlen, -, -⟩ := hmo
      have HES := Lib.hid (hTb.es m (List.mem_of_getElem? hm))
      have HM := Lib.hid hm
      clear hMr hTb hm
      go_upto_region 5 with fail
      clear x0 x1
      have hbx_ := blks1 Wb [.slice m.op m.n m.cp, .slice m.oe m.es.length m.ce] 43
      replace hR := hR.keep hbx_.2
      replace HES := Lib.hid (HES.out.keep hbx_.2)
      generalize Wb.alloc (.cells #[.slice m.op m.n m.cp, .slice m.oe m.es.length m.ce] 43) = V1 at hbx_ hR HES ⊢
      obtain ⟨r5, hbel_⟩ := hbx_
      obtain ⟨n5, hn_⟩ : ∃ n, n = Wb.heap.size := ⟨_, rfl⟩
      rw [← hn_] at r5 ⊢
      clear hn_
      have hmk := run_make30 m.n mn2
      have y0 := r5.c 0 _ rfl
      have y1 := r5.c 1 _ rfl
      have l5 := r5.lt
      go_upto_region 6 with fail
      have hN := NB.new V1 m.n
      have hb5 : Below V1.heap.size V1 (V1.alloc (.cells (Array.replicate m.n (Value.slice none 0 0)) 22)) := (Below.refl _ _).alloc (Nat.le_refl _) _
      rw [← selfTo_zero] at hN
      clear hmk y0 y1 l5
      generalize V1.alloc (.cells (Array.replicate m.n (Value.slice none 0 0)) 22) = V2 at hN hb5 ⊢
      generalize hg : V1.heap.size = g at hN ⊢
      have HG := Lib.hid hg
      have HR := Lib.hid hR
      clear hR
      go_wp2_with fail
      go_loopw [28] (fun i W => ∃ (j : Nat) (vs : List Value), i = .int .i64 (j : Nat) ∧ j ≤ m.n ∧ NB W (g + 1) g vs (selfTo m.n j) ∧ Below V1.heap.size V1 W) (fun i _ => m.n - (intOf i).toNat)
      case atStart => exact ⟨0, _, rfl, by omega, hN, hb5⟩
      case round =>
        clear hN hb5
        obtain ⟨j, vs, rfl, hj, hN, hW⟩ := hrel
        by_cases hlt : j < m.n
        · obtain ⟨v, hv⟩ : ∃ v, vs[j]? = some v := ⟨_, List.getElem?_eq_getElem (by rw [hN.len]; simp [selfTo]; exact hlt)⟩
          have hN' := hN.keep ((Below.refl wr.heap.size wr).alloc (Nat.le_refl _) (.cells #[.int .i64 (j : Nat)] 3))
          have c0 := hN'.cell hv
          have f0 := hN'.fz j
          have l0 := hN'.lt
          have HNB := Lib.hid (nb_make hN HG.out hW v hv hlt)
          clear hN hN' hW hg
          go_wp2_with fail
          go_roundw
          case rel => exact ⟨j + 1, _, by simp, by omega, HNB.out.1, HNB.out.2⟩
          case measure => simp [intOf]; omega
        · have hjn : j = m.n := by omega
          subst hjn
          rw [selfTo_all, ← laid_zero] at hN
          have R5 := r5.keep hW
          have y1 := R5.c 1 _ rfl
          have l5 := R5.lt
          clear hg
          go_wp2_with fail
          clear R5 y1 l5
          go_loopw [40] (fun i W => ∃ (k : Nat) (vs : List Value), i = .int .i64 (k : Nat) ∧ k ≤ m.es.length ∧ NB W (g + 1) g vs (laid m k) ∧ Below V1.heap.size V1 W) (fun i _ => m.es.length - (intOf i).toNat)
          case atStart => exact ⟨0, _, rfl, by omega, hN, hW⟩
          case round =>
            clear hN hW
            obtain ⟨k, vs, rfl, hk, hN, hW⟩ := hrel
            by_cases hlt : k < m.es.length
            · obtain ⟨e, he⟩ : ∃ r, m.es[k]? = some r := ⟨_, List.getElem?_eq_getElem hlt⟩
              obtain ⟨be, offe, hoe, hEr⟩ := HES.out (map_ne hlt)
              have hbe := hEr.lt
              have hbg : be < g + 1 := by have := HG.out; omega
              have hne : be ≠ g := by have := HG.out; omega
              have hE0 := hEr
              have hEr2 := hEr.keep hW
              have R5 := r5.keep hW
              have y1 := R5.c 1 _ rfl
              rw [hoe] at y1
              clear hoe
              have l5 := R5.lt
              have x3 : wr.cell? ⟨be, offe + k * 12 + 3, none⟩ = some (.int .i64 e.st) := hEr2.c k _ (map_get he) 3 _ rfl
              have hle := hEr2.lt
              have e3 := int_beq e.st 1
              have HER := Lib.hid hEr2
              have HEE := Lib.hid he
              obtain ⟨Wc, rfl⟩ : ∃ X, X = wr := ⟨_, rfl⟩
              clear hEr hEr2 he
              by_cases hst : e.st = 1
              · rw [decide_eq_true hst] at e3
                go_upto_region 16 with fail
                have hed := HMP.out.ed e (List.mem_of_getElem? HEE.out)
                have hu : e.u < m.n := by omega
                have hv : e.v < m.n := by omega
                have x0 : Wc.cell? ⟨be, offe + k * 12, none⟩ = some (.int .i64 (e.u : Nat)) := HER.out.c k _ (map_get HEE.out) 0 _ rfl
                have x1 : Wc.cell? ⟨be, offe + k * 12 + 1, none⟩ = some (.int .i64 (e.v : Nat)) := HER.out.c k _ (map_get HEE.out) 1 _ rfl
                have hfa := laid_fair HMP.out k (by omega)
                have hll := laid_len m k
                clear x3 e3 y1 l5 hed
                go_cut [] (fun X => ∃ vs', NB X (g + 1) g vs' (addAt (laid m k) e.u e.v) ∧ Below V1.heap.size V1 X)
                case first =>
                  obtain ⟨vu, hvu⟩ : ∃ v, vs[e.u]? = some v := ⟨_, List.getElem?_eq_getElem (by rw [hN.len, hll]; exact hu)⟩
                  obtain ⟨lu, hlu⟩ : ∃ v, (laid m k)[e.u]? = some v := ⟨_, List.getElem?_eq_getElem (by rw [hll]; exact hu)⟩
                  have hfair := hfa lu (List.mem_of_getElem? hlu)
                  have c0 := hN.cell hvu
                  have f0 := hN.fz e.u
                  have l0 := hN.lt
                  have hdr : Below Wc.heap.size Wc (Wc.drew.alloc (.cells #[.int .i64 (e.v : Nat)] 3)) := (Below.refl _ _).drew.alloc (Nat.le_refl _) _
                  have HN8 := Lib.hid (hN.keep hdr)
                  have HW8 := Lib.hid (below_call hW hdr)
                  have HER8 := Lib.hid (HER.out.keep hdr)
                  have HO := Lib.hid (HN8.out.own e.u vu lu hvu hlu)
                  have hb8 : g + 1 ≤ (Wc.drew.alloc (.cells #[.int .i64 (e.v : Nat)] 3)).heap.size := by have := HN8.out.lt; omega
                  have HB8 := Lib.hid hb8
                  have HVU := Lib.hid hvu
                  have HLU := Lib.hid hlu
                  have hlul : lu.length ≤ 1 + 2 * k + 1 := by have := hfair.2; omega
                  have HFA := Lib.hid hlul
                  obtain ⟨i0, hi, hz0, hz1, hz2⟩ := info_parts info3
                  clear hdr hb8 hN hW hvu hlu hfair hlul
                  go_region_law
                    (first
                    | (refine step_append_lies _ rfl (.tmp 63) (.tmp 68) 22 rfl (g + 1) 3 i0 (.int .i64 0) 1 8 under22 hi hz0 hz1 hz2 rfl (by decide) vu lu.length _ (by simp [Act.eval]) HO.out ⟨Wc.heap.size, 0, none⟩ 1 1 [.int .i64 (e.v : Nat)] (by simp [Act.eval]) rfl (new_cells _ _ _) (by simp [Value.oneCell']) (by decide) (by unfold maxLen; have := HFA.out; omega) (by have := HFA.out; omega) HB8.out _ rfl ?_
                       intro g' c' W9 hown hgrow hat hlt9
                       have hb9 := grown_below HO.out hgrow HB8.out
                       have hE9 := HER8.out.low hbg hb9
                       have z0 : W9.cell? ⟨be, offe + k * 12, none⟩ = some (.int .i64 (e.u : Nat)) := hE9.c k _ (map_get HEE.out) 0 _ rfl
                       have z1 : W9.cell? ⟨be, offe + k * 12 + 1, none⟩ = some (.int .i64 (e.v : Nat)) := hE9.c k _ (map_get HEE.out) 1 _ rfl
                       have c9 : W9.cell? ⟨g, e.u, none⟩ = some vu := by rw [← HN8.out.cell HVU.out]; simp [World.cell?, hb9.block g (Nat.lt_succ_self _)]
                       have f9 : W9.frozen? ⟨g, e.u, none⟩ = false := by rw [← HN8.out.fz e.u]; simp [World.frozen?, hb9.block g (Nat.lt_succ_self _)]
                       have HAP := Lib.hid (nb_app HN8.out HG.out HW8.out HVU.out HLU.out hown hgrow (by rcases hat with h | h; exact .inl h; exact .inr (by simp at h ⊢; omega)))
                       clear hown hgrow hat))
                  all_goals
                    have hap := HAP.out
                    clear x0 x1 hle hfa hll
                    go_wp2_with fail
                    go_meet
                    exact ⟨_, hap.1, hap.2⟩
                case rest =>
                  clear x0 x1 hN hW
                  obtain ⟨vs1, hN, hW⟩ := hcut
                  obtain ⟨Wd, rfl⟩ : ∃ X, X = wc := ⟨_, rfl⟩
                  have hb := HES.out
                  have HERd := Lib.hid (hE0.keep hW)
                  have x0 : Wd.cell? ⟨be, offe + k * 12, none⟩ = some (.int .i64 (e.u : Nat)) := HERd.out.c k _ (map_get HEE.out) 0 _ rfl
                  have x1 : Wd.cell? ⟨be, offe + k * 12 + 1, none⟩ = some (.int .i64 (e.v : Nat)) := HERd.out.c k _ (map_get HEE.out) 1 _ rfl
                  have hle := HERd.out.lt
                  have hfa' := hfa.addAt (x := e.v) (by rw [hll]; exact hu)
                  have hll' : (addAt (laid m k) e.u e.v).length = m.n := by rw [addAt_len, hll]
                  clear hfa hll
                  go_upto_region 17 with fail
                  have hls : addAt (addAt (laid m k) e.u e.v) e.v e.u = laid m (k + 1) := by
                    rw [laid_succ HEE.out]; unfold addE; rw [if_pos hst]
                  have HLS := Lib.hid hls
                  have HKL := Lib.hid hlt
                  clear hls
                  obtain ⟨vu, hvu⟩ : ∃ v, vs1[e.v]? = some v := ⟨_, List.getElem?_eq_getElem (by rw [hN.len, hll']; exact hv)⟩
                  obtain ⟨lu, hlu⟩ : ∃ v, (addAt (laid m k) e.u e.v)[e.v]? = some v := ⟨_, List.getElem?_eq_getElem (by rw [hll']; exact hv)⟩
                  have hfair := hfa' lu (List.mem_of_getElem? hlu)
                  have c0 := hN.cell hvu
                  have f0 := hN.fz e.v
                  have l0 := hN.lt
                  have hdr : Below Wd.heap.size Wd (Wd.drew.alloc (.cells #[.int .i64 (e.u : Nat)] 3)) := (Below.refl _ _).drew.alloc (Nat.le_refl _) _
                  have HN8 := Lib.hid (hN.keep hdr)
                  have HW8 := Lib.hid (below_call hW hdr)
                  have HER8 := Lib.hid (HERd.out.keep hdr)
                  have HO := Lib.hid (HN8.out.own e.v vu lu hvu hlu)
                  have hb8 : g + 1 ≤ (Wd.drew.alloc (.cells #[.int .i64 (e.u : Nat)] 3)).heap.size := by have := HN8.out.lt; omega
                  have HB8 := Lib.hid hb8
                  have HVU := Lib.hid hvu
                  have HLU := Lib.hid hlu
                  have hlul : lu.length ≤ 1 + 2 * k + 1 := by have := hfair.2; omega
                  have HFA := Lib.hid hlul
                  obtain ⟨i0, hi, hz0, hz1, hz2⟩ := info_parts info3
                  clear hdr hb8 hN hW hvu hlu hfair hlul
                  go_region_law
                    (first
                    | (refine step_append_lies _ rfl (.tmp 82) (.tmp 87) 22 rfl (g + 1) 3 i0 (.int .i64 0) 1 8 under22 hi hz0 hz1 hz2 rfl (by decide) vu lu.length _ (by simp [Act.eval]) HO.out ⟨Wd.heap.size, 0, none⟩ 1 1 [.int .i64 (e.u : Nat)] (by simp [Act.eval]) rfl (new_cells _ _ _) (by simp [Value.oneCell']) (by decide) (by unfold maxLen; have := HFA.out; omega) (by have := HFA.out; omega) HB8.out _ rfl ?_
                       intro g' c' W9 hown hgrow hat hlt9
                       have hb9 := grown_below HO.out hgrow HB8.out
                       have hE9 := HER8.out.low hbg hb9
                       have z0 : W9.cell? ⟨be, offe + k * 12, none⟩ = some (.int .i64 (e.u : Nat)) := hE9.c k _ (map_get HEE.out) 0 _ rfl
                       have z1 : W9.cell? ⟨be, offe + k * 12 + 1, none⟩ = some (.int .i64 (e.v : Nat)) := hE9.c k _ (map_get HEE.out) 1 _ rfl
                       have c9 : W9.cell? ⟨g, e.v, none⟩ = some vu := by rw [← HN8.out.cell HVU.out]; simp [World.cell?, hb9.block g (Nat.lt_succ_self _)]
                       have f9 : W9.frozen? ⟨g, e.v, none⟩ = false := by rw [← HN8.out.fz e.v]; simp [World.frozen?, hb9.block g (Nat.lt_succ_self _)]
                       have HAP := Lib.hid (nb_app HN8.out HG.out HW8.out HVU.out HLU.out hown hgrow (by rcases hat with h | h; exact .inl h; exact .inr (by simp at h ⊢; omega)))
                       clear hown hgrow hat))
                  all_goals
                    have hap := HAP.out
                    rw [HLS.out] at hap
                    clear x0 x1 hle hfa' hll'
                    go_wp2_with fail
                    go_roundw
                    case rel => exact ⟨k + 1, _, by simp, HKL.out, hap.1, hap.2⟩
                    case measure => have := HKL.out; simp [intOf]; omega
              · rw [decide_eq_false hst] at e3
                rw [← laid_eq e HEE.out hst] at hN
                go_wp2_with fail
                go_roundw
                case rel => exact ⟨k + 1, _, by simp, by omega, hN, hW⟩
                case measure => simp [intOf]; omega
            · have hkm : k = m.es.length := by omega
              subst hkm
              have HML := Lib.hid mlen
              go_wp2_with fail
              go_loopw [93] (fun i W => ∃ (j : Nat) (vs : List Value), i = .int .i64 (j : Nat) ∧ j ≤ m.n ∧ NB W (g + 1) g vs (sorted (laid m m.es.length) j) ∧ Below V1.heap.size V1 W) (fun i _ => m.n - (intOf i).toNat)
              case atStart => exact ⟨0, _, rfl, by omega, by rw [sorted_zero]; exact hN, hW⟩
              case round =>
                clear hN hW
                obtain ⟨j, vs, rfl, hj, hN, hW⟩ := hrel
                by_cases hlt : j < m.n
                · obtain ⟨v, hv⟩ : ∃ v, vs[j]? = some v := ⟨_, List.getElem?_eq_getElem (by rw [hN.len, sorted_len, laid_len]; exact hlt)⟩
                  obtain ⟨l, hl⟩ : ∃ v, (laid m m.es.length)[j]? = some v := ⟨_, List.getElem?_eq_getElem (by rw [laid_len]; exact hlt)⟩
                  have hfa := laid_fair HMP.out m.es.length (Nat.le_refl _) l (List.mem_of_getElem? hl)
                  have c0 := hN.cell hv
                  have l0 := hN.lt
                  have hso := sort_own (g + 1) v l wr (hN.own j v l hv (sorted_get hl)) hfa.1 (by omega)
                  have HSO := Lib.hid hso
                  have HNH := Lib.hid hN
                  have HWH := Lib.hid hW
                  have HV := Lib.hid hv
                  have HL := Lib.hid hl
                  clear hN hW hso hv hl hfa
                  go_wp2_with (go_at_call 63; refine HSO.out.mono ?_; rintro e w9 ⟨rfl, hown, hgrow⟩)
                  have HNN := Lib.hid (nb_sort HNH.out HG.out HWH.out HV.out HL.out hown hgrow)
                  clear c0 l0 hown hgrow
                  go_wp2
                  go_roundw
                  case rel => exact ⟨j + 1, _, by simp, by omega, HNN.out.1, HNN.out.2⟩
                  case measure => simp [intOf]; omega
                · have hjn : j = m.n := by omega
                  subst hjn
                  have hE := nxOf_ok hN
                  have hX := HR.out.keep hW
                  have hap := nxOf_ap (m := m) HG.out hN HR.out
                  rw [sorted_all _ _ (by rw [laid_len]; exact Nat.le_refl _)] at hN
                  have x0 := hX.x.c 0 _ rfl
                  have lx := hX.x.lt
                  have hal : Below wr.heap.size wr (wr.alloc (.cells #[.slice (some ⟨g, 0, none⟩) m.n m.n] 30)) := (Below.refl _ _).alloc (Nat.le_refl _) _
                  have HX := Lib.hid (hX.keep hal)
                  have HEN := Lib.hid (hE.keep hal)
                  have HAPN := Lib.hid hap
                  have HCC := Lib.hid (new_cells wr [.slice (some ⟨g, 0, none⟩) m.n m.n] 30)
                  have hlow := HX.out.low
                  have HLOW := Lib.hid hlow
                  obtain ⟨i0, hi, hz0, hz1, hz2⟩ := info_parts info30
                  clear hN hW hE hX hap hal hlow
                  go_wp2_with (at_builtin; go_loud (refine wpList_append_lies _ rfl _ _ 79 rfl (nx + 1) 30 i0 (.slice none 0 0) 1 24 under79 hi hz0 hz1 hz2 rfl (by decide) _ _ _ rfl HX.out.own ⟨wr.heap.size, 0, none⟩ 1 1 [.slice (some ⟨g, 0, none⟩) m.n m.n] rfl rfl ?c1 ?c2 (by decide) ?c3 ?c4 ?c5 _ rfl ?_))
                  case c1 => simpa using HCC.out
                  case c2 => intro u hu; simp at hu; subst hu; rfl
                  case c3 => unfold maxLen; omega
                  case c4 => omega
                  case c5 => have := HX.out.x.lt; omega
                  intro g' c' W9 hown hgrow hat hlt9
                  have hown2 : W9.ownsRow (nx + 1) 30 1 (.slice (some ⟨g', 0, none⟩) (es.length + 1) c') (es.length + 1) (es.map NxE.v ++ [(nxOf g m vs).v]) := by rw [nxOf_v]; exact hown
                  have HA := Lib.hid (HX.out.app (nxOf g m vs) g' c' hown2 hgrow (by rcases hat with h | h; exact .inl h; exact .inr (by simp at h ⊢; omega)) HEN.out HAPN.out)
                  have hB3 := HX.out.x.low (Nat.lt_succ_self _) (grown_below HX.out.own hgrow (by have := HX.out.x.lt; omega))
                  have c04 := hB3.c 0 _ rfl
                  have f04 := hB3.f 0
                  clear hown hown2 hgrow hat hi hz0 hz1 hz2 x0 lx hB3
                  go_wp2
                  go_roundw
                  case rel => exact ⟨es ++ [nxOf g m vs], _, by simp, by simp; omega, by rw [List.map_append, HE.out, List.length_append]; show _ = List.map nextOf (T.ms.take (es.length + 1)); rw [List.take_add_one, HM.out]; simp [nxOf], HA.out⟩
                  case measure => simp [intOf]; omega
    · have hke : es.length = T.ms.length := by omega
      rw [hke, List.take_length] at HE
      have HKE := Lib.hid hke
      obtain ⟨on, cn, rfl⟩ := own_slice hR.own
      have R1 := r1.keep hR.bel
      have a1 := R1.c 1 _ rfl
      have l1 := R1.lt
      clear hke
      obtain ⟨Wa, rfl⟩ : ∃ X, X = wr := ⟨_, rfl⟩
      go_wp2_with fail
      clear R1 a1 l1
      go_loopw [112] (fun i W => ∃ (k : Nat) (l : List ((Mv × Mv) × Value)), i = .int .i64 (k : Nat) ∧ k ≤ T.cs.length ∧ l = clOf (T.cs.take k) ∧ XR W0 nx gm l es (.slice on es.length cn) W) (fun i _ => T.cs.length - (intOf i).toNat)
      case atStart => exact ⟨0, [], rfl, by omega, rfl, hR⟩
      case round =>
        clear hR
        obtain ⟨k, l, rfl, hk, hl, hR⟩ := hrel
        have HL := Lib.hid hl
        clear hl
        by_cases hlt : k < T.cs.length
        · obtain ⟨c, hc⟩ : ∃ r, T.cs[k]? = some r := ⟨_, List.getElem?_eq_getElem hlt⟩
          obtain ⟨bc, offc, hoc, hCr⟩ := (hT.keep hR.bel).cs (map_ne hlt)
          subst hoc
          have x0 : wr.cell? ⟨bc, offc + k * 6, none⟩ = some (.int .i64 (c.a.arm : Nat)) := hCr.c k _ (map_get hc) 0 _ rfl
          have x1 : wr.cell? ⟨bc, offc + k * 6 + 1, none⟩ = some (.int .i64 (c.a.x : Nat)) := hCr.c k _ (map_get hc) 1 _ rfl
          have x2 : wr.cell? ⟨bc, offc + k * 6 + 2, none⟩ = some (.int .i64 (c.a.y : Nat)) := hCr.c k _ (map_get hc) 2 _ rfl
          have x3 : wr.cell? ⟨bc, offc + k * 6 + 3, none⟩ = some (.int .i64 (c.b.arm : Nat)) := hCr.c k _ (map_get hc) 3 _ rfl
          have x4 : wr.cell? ⟨bc, offc + k * 6 + 4, none⟩ = some (.int .i64 (c.b.x : Nat)) := hCr.c k _ (map_get hc) 4 _ rfl
          have x5 : wr.cell? ⟨bc, offc + k * 6 + 5, none⟩ = some (.int .i64 (c.b.y : Nat)) := hCr.c k _ (map_get hc) 5 _ rfl
          have HC := Lib.hid hc
          clear hc
          go_upto_region 29 with fail
          clear x0 x1 x2 x3 x4 x5 hCr
          have hbx_ := boxes1 wr [.int .i64 (c.a.arm : Nat), .int .i64 (c.a.x : Nat), .int .i64 (c.a.y : Nat), .int .i64 (c.b.arm : Nat), .int .i64 (c.b.x : Nat), .int .i64 (c.b.y : Nat)] 74
          replace hR := hR.keep hbx_.2
          generalize wr.alloc (.cells #[.int .i64 (c.a.arm : Nat), .int .i64 (c.a.x : Nat), .int .i64 (c.a.y : Nat), .int .i64 (c.b.arm : Nat), .int .i64 (c.b.x : Nat), .int .i64 (c.b.y : Nat)] 74) = V at hbx_ hR ⊢
          obtain ⟨r12, hbel_⟩ := hbx_
          obtain ⟨n12, hn_⟩ : ∃ n, n = wr.heap.size := ⟨_, rfl⟩
          rw [← hn_] at r12 ⊢
          clear hn_
          have y0 : V.cell? ⟨n12, 0, none⟩ = some (.int .i64 (c.a.arm : Nat)) := r12.c 0 _ rfl
          have y1 : V.cell? ⟨n12, 1, none⟩ = some (.int .i64 (c.a.x : Nat)) := r12.c 1 _ rfl
          have y2 : V.cell? ⟨n12, 2, none⟩ = some (.int .i64 (c.a.y : Nat)) := r12.c 2 _ rfl
          have y3 : V.cell? ⟨n12, 3, none⟩ = some (.int .i64 (c.b.arm : Nat)) := r12.c 3 _ rfl
          have y4 : V.cell? ⟨n12, 4, none⟩ = some (.int .i64 (c.b.x : Nat)) := r12.c 4 _ rfl
          have y5 : V.cell? ⟨n12, 5, none⟩ = some (.int .i64 (c.b.y : Nat)) := r12.c 5 _ rfl
          have l12 := r12.lt
          have z1 := hR.x.c 1 _ rfl
          have lx := hR.x.lt
          have HR := Lib.hid hR
          clear hR
          by_cases h : c.a.arm < c.b.arm
          · have hd : decide ((c.a.arm : Int) < (c.b.arm : Int)) = true := decide_eq_true (by omega)
            have hmu := run_mapUpdate k130 Try.underlying80 V gm l (c.a, c.b) (.bool true) HR.out.map
            simp only [enc2] at hmu
            have HRP := Lib.hid (HR.out.put (l' := putL l (c.a, c.b) (.bool true)))
            go_wp2_with fail
            clear hmu y0 y1 y2 y3 y4 y5 z1 lx l12 r12
            generalize wput V gm enc2 (putL l (c.a, c.b) (.bool true)) = V9 at HRP ⊢
            go_wp2
            go_roundw
            case rel => exact ⟨k + 1, _, by simp, by omega, by rw [clOf_step HC.out, ← HL.out]; unfold putC keyOf; rw [if_pos h], HRP.out⟩
            case measure => simp [intOf]; omega
          · have hd : decide ((c.a.arm : Int) < (c.b.arm : Int)) = false := decide_eq_false (by omega)
            have hmu := run_mapUpdate k130 Try.underlying80 V gm l (c.b, c.a) (.bool true) HR.out.map
            simp only [enc2] at hmu
            have HRP := Lib.hid (HR.out.put (l' := putL l (c.b, c.a) (.bool true)))
            go_wp2_with fail
            clear hmu y0 y1 y2 y3 y4 y5 z1 lx l12 r12
            generalize wput V gm enc2 (putL l (c.b, c.a) (.bool true)) = V9 at HRP ⊢
            go_wp2
            go_roundw
            case rel => exact ⟨k + 1, _, by simp, by omega, by rw [clOf_step HC.out, ← HL.out]; unfold putC keyOf; rw [if_neg h], HRP.out⟩
            case measure => simp [intOf]; omega
        · have hkc : k = T.cs.length := by omega
          have HLL : l = clOf T.cs := by rw [HL.out, hkc, List.take_length]
          subst HLL
          have x0 := hR.x.c 0 _ rfl
          have x1 := hR.x.c 1 _ rfl
          have lx := hR.x.lt
          have R2 := r2.keep hR.bel
          have e0 := R2.c 0 _ rfl
          have e1 := R2.c 1 _ rfl
          have g0 := R2.f 0
          have g1 := R2.f 1
          have l2 := R2.lt
          have hn2 := r2.lt
          have HR := Lib.hid hR
          have HN2 := Lib.hid hn2
          have HOD := Lib.hid hod
          clear hR hn2 hod R2
          go_wp2_with fail
          have hbl := HR.out.bel
          have hlt2 := HN2.out
          have hw2 : w.heap.size ≤ n2' := by have := HOD.out; omega
          refine bodyPost_ret (v := .agg #[.slice on es.length cn, .map (some gm)]) (by simp [results, Try.results46, go_sem, e0, e1]) rfl ⟨es, on, cn, gm, rfl, HR.out.crew fun q hq => set2_heapD wr n2' _ _ q (by omega), HE.out, ?_⟩
          exact (((below_call HB.out hbl).setCell (p := ⟨n2', 0, none⟩) hw2 _).setCell (p := ⟨n2', 1, none⟩) hw2 _)
end Go.Proofs.Jn
end

section
/-
  expand: what it does, by any pair of functions that it is handed; its frame.
-/
namespace Go.Proofs.Jn
open Go.RowKit Go.Shelf

def nextAt (nx : List (List (List Nat))) (k x : Nat) : List Nat := (((nx[k]?).getD [])[x]?).getD []
def loopF {σ : Type} (f : Nat → σ → Bool × σ) : List Nat → σ → Bool × σ
  | [], s => (false, s)
  | v :: r, s => if (f v s).1 = true then (true, (f v s).2) else loopF f r (f v s).2
def expF {σ : Type} (nx : List (List (List Nat))) (fr : S4 → Nat → Bool) (op : σ → S4 → Nat → Bool) (vi : σ → S4 → Bool × σ) (a : Nat → Nat) : Nat → Nat → S4 → σ → Bool × σ
  | 0, _, t, s => vi s t
  | d + 1, k, t, s => loopF (fun v s => if op s (t.set k v) (k + 1) && fr (t.set k v) k then expF nx fr op vi a d (k + 1) (t.set k v) s else (false, s)) (nextAt nx k (a k)) s
def frB (l : List ((Mv × Mv) × Value)) (a : Nat → Nat) (t : S4) (k : Nat) : Bool := freeB l a (fun i => (t.get i).toNat) k

/-- What a call may do: it writes what it owns. -/
structure Stp {σ : Type} (Own : σ → World → Nat → Prop) (s : σ) (W : World) (s' : σ) (W' : World) : Prop where
  os : W'.os = W.os
  tape : W'.tape = W.tape
  output : W'.output = W.output
  size : W.heap.size ≤ W'.heap.size
  block : ∀ b, b < W.heap.size → ¬ Own s W b → W'.heap[b]? = W.heap[b]?
  own : ∀ b, Own s' W' b → Own s W b ∨ W.heap.size ≤ b
theorem Stp.refl {σ : Type} (Own : σ → World → Nat → Prop) (s : σ) (W : World) : Stp Own s W s W := ⟨rfl, rfl, rfl, Nat.le_refl _, fun _ _ _ => rfl, fun _ h => .inl h⟩
theorem Stp.of_below {σ : Type} {Own : σ → World → Nat → Prop} {s : σ} {W W' : World} (hst : ∀ b, Own s W' b → Own s W b) (h : Below W.heap.size W W') : Stp Own s W s W' := ⟨h.os, h.tape, h.output, h.size, fun b hb _ => h.block b hb, fun b h => .inl (hst b h)⟩
theorem Stp.trans {σ : Type} {Own : σ → World → Nat → Prop} {s s' s'' : σ} {W W' W'' : World} (h : Stp Own s W s' W') (k : Stp Own s' W' s'' W'') : Stp Own s W s'' W'' := by
  refine ⟨k.os.trans h.os, k.tape.trans h.tape, k.output.trans h.output, Nat.le_trans h.size k.size, fun b hb hn => ?_, fun b hb => ?_⟩
  · rw [k.block b (Nat.lt_of_lt_of_le hb h.size) (fun e => ?_), h.block b hb hn]
    rcases h.own b e with h1 | h1
    · exact hn h1
    · omega
  · rcases k.own b hb with h1 | h1
    · exact h.own b h1
    · exact .inr (Nat.le_trans h.size h1)
/-- From a world in which some blocks more lie. -/
theorem Stp.low {σ : Type} {Own : σ → World → Nat → Prop} {s s' : σ} {W V W' : World} (hst : ∀ b, Own s V b → Own s W b) (hV : Below W.heap.size W V) (k : Stp Own s V s' W') : Stp Own s W s' W' :=
  (Stp.of_below hst hV).trans k
theorem Stp.set {σ : Type} {Own : σ → World → Nat → Prop} {s s' : σ} {W W' : World} (h : Stp Own s W s' W') {n i : Nat} (hn : W.heap.size ≤ n) (v : Value) (hst : ∀ b, Own s' (W'.setCell ⟨n, i, none⟩ v) b → Own s' W' b) : Stp Own s W s' (W'.setCell ⟨n, i, none⟩ v) :=
  ⟨h.os, h.tape, h.output, by have := h.size; simp [World.setCell]; exact this, fun b hb ho => by rw [Below.heap_setCell W' ⟨n, i, none⟩ v b (by show b ≠ n; omega)]; exact h.block b hb ho, fun b hb => h.own b (hst b hb)⟩
theorem Stp.row {σ : Type} {Own : σ → World → Nat → Prop} {s s' : σ} {W W' : World} {n : Nat} {l : List Value} (h : Stp Own s W s' W') (r : Row W n l) (hn : ¬ Own s W n) : Row W' n l :=
  ⟨fun i v hi => by rw [← r.c i v hi]; simp [World.cell?, h.block n r.lt hn], Nat.lt_of_lt_of_le r.lt h.size⟩
theorem Stp.blk {σ : Type} {Own : σ → World → Nat → Prop} {s s' : σ} {W W' : World} {n : Nat} {l : List Value} (h : Stp Own s W s' W') (r : Blk W n l) (hn : ¬ Own s W n) : Blk W' n l := r.keepN (h.block n r.lt hn) h.size
theorem Stp.below {σ : Type} {Own : σ → World → Nat → Prop} {s s' : σ} {W0 W W' : World} (h : Stp Own s W s' W') (hb : Below W0.heap.size W0 W) (ho : ∀ b, Own s W b → W0.heap.size ≤ b) : Below W0.heap.size W0 W' :=
  hb.trans ⟨h.os, h.tape, h.output, h.size, fun b hbl => h.block b (Nat.lt_of_lt_of_le hbl hb.size) fun e => by have := ho b e; omega⟩

/-- The functions that expand is handed, and what they do. -/
structure Gh (σ : Type) where
  Inv : σ → World → Prop
  Own : σ → World → Nat → Prop
  R : Nat → σ → Prop
  fo : FuncId
  fv : FuncId
  Fo : Array Value
  Cv : Array Value
  op : σ → S4 → Nat → Bool
  vi : σ → S4 → Bool × σ
def Gh.InTo {σ : Type} (_ : Gh σ) (nx : List (List (List Nat))) (a : Nat → Nat) (k : Nat) (t : S4) : Prop := (∀ i, i < k → ∃ x : Nat, t.get i = (x : Int) ∧ x ∈ nextAt nx i (a i)) ∧ ∀ i, k ≤ i → i < 4 → t.get i = -1
structure GhOk {σ : Type} (G : Gh σ) (nx : List (List (List Nat))) (a : Nat → Nat) (B : Nat) : Prop where
  eo : Enters Try.prog G.fo
  ev : Enters Try.prog G.fv
  keep : ∀ s W W', G.Inv s W → Below W.heap.size W W' → G.Inv s W'
  kset : ∀ s W n i v, G.Inv s W → B ≤ n → ¬ G.Own s W n → n < W.heap.size → G.Inv s (W.setCell ⟨n, i, none⟩ v)
  own : ∀ s W b, G.Inv s W → G.Own s W b → b < W.heap.size
  ownB : ∀ s W W' b, G.Inv s W → Below W.heap.size W W' → G.Own s W' b → G.Own s W b
  ownS : ∀ s W n i v b, G.Inv s W → B ≤ n → ¬ G.Own s W n → G.Own s (W.setCell ⟨n, i, none⟩ v) b → G.Own s W b
  mono : ∀ c c' s, G.R c s → c' ≤ c → G.R c' s
  callO : ∀ s W (t : S4) (k : Nat), G.Inv s W → k ≤ nx.length → Calls Try.prog G.fo (G.Fo ++ #[t.v, .int .i64 (k : Nat)]) W (BoolP (G.op s t k) W)
  callV : ∀ s W (t : S4) c, G.Inv s W → G.R (c + 1) s → G.InTo nx a nx.length t → G.op s t nx.length = true →
    Calls Try.prog G.fv (#[t.v] ++ G.Cv) W fun e W' => e = .returned (.bool (G.vi s t).1) ∧ Stp G.Own s W (G.vi s t).2 W' ∧ G.Inv (G.vi s t).2 W' ∧ G.R c (G.vi s t).2
theorem EOk.row {W : World} {e : NxE} (h : EOk W e) {i : Nat} {x : List Nat} (hx : e.ls[i]? = some x) : ∃ ou cu, W.cell? ⟨e.g, i, none⟩ = some (.slice ou x.length cu) ∧ Sl W ou 1 (nvals x) := by
  have hi : i < e.vs.length := by rw [h.len]; exact (List.getElem?_eq_some_iff.1 hx).1
  have hv : e.vs[i]? = some e.vs[i] := List.getElem?_eq_getElem hi
  have ho := h.own i _ x hv hx
  obtain ⟨ou, cu, hs⟩ := own_slice ho
  refine ⟨ou, cu, by rw [h.cell hv, hs], ?_⟩
  rw [← nvals_flat, ← nvals_len] at ho
  intro hne
  obtain ⟨oa, cap, hv2, hS⟩ := own_rows (nvals_one x) ho
  rw [hs] at hv2
  injection hv2 with h1 _ _
  rw [h1]
  exact hS hne
/-- The blocks of a crew. -/
def crewUses (on : Option Addr) (es : List NxE) (gm b : Nat) : Prop := (es ≠ [] ∧ ∃ off s, on = some ⟨b, off, s⟩) ∨ b = gm ∨ ∃ e ∈ es, e.uses b
/-- These blocks are as they were. -/
structure CK (Cb : Nat → Prop) (W0 W : World) : Prop where
  size : W0.heap.size ≤ W.heap.size
  block : ∀ b, Cb b → W.heap[b]? = W0.heap[b]?
theorem RowsAt.keepQ {w w' : World} {b off n : Nat} {l : List (List Value)} (h : RowsAt w b off n l) (hs : w.heap.size ≤ w'.heap.size) (e : w'.heap[b]? = w.heap[b]?) : RowsAt w' b off n l :=
  ⟨Nat.lt_of_lt_of_le h.lt hs, fun i r hi k v hv => by rw [← h.c i r hi k v hv]; simp [World.cell?, e]⟩
theorem CK.refl (Cb : Nat → Prop) (W : World) : CK Cb W W := ⟨Nat.le_refl _, fun _ _ => rfl⟩
theorem CK.of_below {Cb : Nat → Prop} {W0 W : World} (h : Below W0.heap.size W0 W) (hc : ∀ b, Cb b → b < W0.heap.size) : CK Cb W0 W := ⟨h.size, fun b hb => h.block b (hc b hb)⟩
theorem CK.below {Cb : Nat → Prop} {W0 W W' : World} (h : CK Cb W0 W) (hc : ∀ b, Cb b → b < W0.heap.size) (k : Below W.heap.size W W') : CK Cb W0 W' :=
  ⟨Nat.le_trans h.size k.size, fun b hb => by rw [k.block b (Nat.lt_of_lt_of_le (hc b hb) h.size), h.block b hb]⟩
theorem CK.cell {Cb : Nat → Prop} {W0 W : World} (h : CK Cb W0 W) {b : Nat} (hb : Cb b) (i : Nat) : W.cell? ⟨b, i, none⟩ = W0.cell? ⟨b, i, none⟩ := by simp [World.cell?, h.block b hb]
theorem Stp.ck {σ : Type} {Own : σ → World → Nat → Prop} {s s' : σ} {Cb : Nat → Prop} {W0 W W' : World} (h : Stp Own s W s' W') (hb : CK Cb W0 W) (hc : ∀ b, Cb b → b < W0.heap.size) (ho : ∀ b, Own s W b → ¬ Cb b) : CK Cb W0 W' :=
  ⟨Nat.le_trans hb.size h.size, fun b hbl => by rw [h.block b (Nat.lt_of_lt_of_le (hc b hbl) hb.size) fun e => ho b e hbl, hb.block b hbl]⟩
theorem CrewAt.lt {W : World} {on : Option Addr} {es : List NxE} {gm : Nat} {l : List ((Mv × Mv) × Value)} (h : CrewAt W on es gm l) : ∀ b, crewUses on es gm b → b < W.heap.size := by
  rintro b (⟨hne, off, s, ho⟩ | rfl | ⟨e, he, hb⟩)
  · obtain ⟨b', off', ho', hr⟩ := h.nx (by simpa using hne)
    rw [ho] at ho'
    injection ho' with ho'
    injection ho' with h1
    rw [h1]; exact hr.lt
  · exact h.map.lt
  · exact ((h.ok e he).lt b hb).1
theorem CrewAt.keepC {W W' : World} {on : Option Addr} {es : List NxE} {gm : Nat} {l : List ((Mv × Mv) × Value)} (h : CrewAt W on es gm l) (k : CK (crewUses on es gm) W W') : CrewAt W' on es gm l := by
  refine ⟨fun hne => ?_, fun e he => (h.ok e he).keepQ fun b hb => k.block b (.inr (.inr ⟨e, he, hb⟩)), h.map.keepN (k.block gm (.inr (.inl rfl)))⟩
  obtain ⟨b, off, ho, hr⟩ := h.nx hne
  exact ⟨b, off, ho, hr.keepQ k.size (k.block b (.inl ⟨by simpa using hne, off, none, ho⟩))⟩
theorem EOk.rowU {W : World} {e : NxE} (h : EOk W e) {i : Nat} {x : List Nat} (hx : e.ls[i]? = some x) : ∃ ou cu, W.cell? ⟨e.g, i, none⟩ = some (.slice ou x.length cu) ∧ Sl W ou 1 (nvals x) ∧ ∀ b off s, ou = some ⟨b, off, s⟩ → e.uses b := by
  obtain ⟨ou, cu, h1, h2⟩ := h.row hx
  refine ⟨ou, cu, h1, h2, fun b off s hb => ?_⟩
  have hi : i < e.vs.length := by rw [h.len]; exact (List.getElem?_eq_some_iff.1 hx).1
  have hv : e.vs[i]? = some e.vs[i] := List.getElem?_eq_getElem hi
  have hc := h.cell hv
  rw [h1] at hc
  injection hc with hc
  refine .inr ⟨e.vs[i], List.getElem_mem hi, ?_⟩
  rw [← hc, hb]
  rfl
theorem loopF_drop {σ : Type} {f : Nat → σ → Bool × σ} {l : List Nat} {j x : Nat} (h : l[j]? = some x) (s : σ) : loopF f (l.drop j) s = if (f x s).1 = true then (true, (f x s).2) else loopF f (l.drop (j + 1)) (f x s).2 := by
  obtain ⟨hj, rfl⟩ := List.getElem?_eq_some_iff.1 h
  rw [List.drop_eq_getElem_cons hj]
  rfl
theorem InTo.set {σ : Type} {G : Gh σ} {nx : List (List (List Nat))} {a : Nat → Nat} {k : Nat} {t : S4} (h : G.InTo nx a k t) (hk : k < 4) {x : Nat} (hx : x ∈ nextAt nx k (a k)) : G.InTo nx a (k + 1) (t.set k (x : Nat)) := by
  refine ⟨fun i hi => ?_, fun i hi h4 => ?_⟩
  · rw [S4.get_set t k i _ hk (by omega)]
    by_cases e : i = k
    · subst e; rw [if_pos rfl]; exact ⟨x, rfl, hx⟩
    · rw [if_neg e]; exact h.1 i (by omega)
  · rw [S4.get_set t k i _ hk h4, if_neg (by omega)]; exact h.2 i (by omega) h4
theorem InTo.nat {σ : Type} {G : Gh σ} {nx : List (List (List Nat))} {a : Nat → Nat} {k : Nat} {t : S4} (h : G.InTo nx a k t) : ∀ i, i < k → t.get i = ((t.get i).toNat : Nat) := by
  intro i hi
  obtain ⟨x, hx, _⟩ := h.1 i hi
  rw [hx]; simp
theorem S4.set_set (t : S4) (k : Nat) (x y : Int) : (t.set k x).set k y = t.set k y := by
  match k with
  | 0 | 1 | 2 | _ + 3 => rfl
end Go.Proofs.Jn
end

