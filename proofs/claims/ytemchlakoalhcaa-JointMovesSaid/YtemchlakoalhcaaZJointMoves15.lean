/-
  Texts put together: Df Dg Dh.
-/
import Derived.Test.YtemchlakoalhcaaZJointMoves14
set_option linter.unusedVariables false
section
/-
  Walks: newCrew.
-/
namespace Go.Proofs.Jn
open Go.RowKit

set_option maxRecDepth 100000 in
set_option maxHeartbeats 4000000 in
theorem newCrew_any (om oc : Option Addr) (cm cc : Nat) (T : Tm) (w : World) (hO : TeamOk T) (hT : TeamAt w om oc T) :
    Calls Try.prog 46 #[T.val om oc cm cc] w (CrewE T w) := by
  unfold Tm.val
  obtain ⟨n1, n2, mo, cn, cf⟩ := id hO
  have HO := Lib.hid hO
  have HMO := Lib.hid mo
  have HCF := Lib.hid cf
  clear hO mo cf
  have hmm : ∀ u : World, (Instr.makeMap 80 none).run Try.prog u = .ok (.map (some u.heap.size)) (u.alloc (.map #[] 0)) := fun u => rfl
  go_enter Try.func46, Try.ntmps46
  go_upto_region 1 with fail
  have hbx_ := blks2 w [.slice om T.ms.length cm, .slice oc T.cs.length cc] [.slice none 0 0, .map none] 26 82
  replace hT := hT.keep hbx_.2.2
  have HB := Lib.hid (hbx_.2.2)
  have hod : w.heap.size ≤ w.heap.size ∧ w.heap.size < w.heap.size + 1 := by omega
  generalize (w.alloc (.cells #[.slice om T.ms.length cm, .slice oc T.cs.length cc] 26)).alloc (.cells #[.slice none 0 0, .map none] 82) = W0 at hbx_ hT HB ⊢
  obtain ⟨r1, r2, hbel_⟩ := hbx_
  generalize w.heap.size + 1 = n2' at r2 hod ⊢
  obtain ⟨n1', hn_⟩ : ∃ n, n = w.heap.size := ⟨_, rfl⟩
  rw [← hn_] at r1 ⊢
  replace hod := And.intro (Nat.le_of_eq hn_.symm) (hn_ ▸ hod.2)
  clear hn_ hbel_
  go_upto_region 2 with fail
  have hR := XR.new (Below.refl W0.heap.size W0)
  have hl1 := r1.lt
  have hl2 := r2.lt
  generalize (W0.alloc (.map #[] 0)).alloc (.cells #[.slice none 0 0, .map (some W0.heap.size)] 82) = V0 at hR ⊢
  obtain ⟨nx, hnx⟩ : ∃ n, n = W0.heap.size + 1 := ⟨_, rfl⟩
  obtain ⟨gm, hgm⟩ : ∃ n, n = W0.heap.size := ⟨_, rfl⟩
  rw [← hnx] at hR ⊢
  rw [← hgm] at hR ⊢
  clear hmm hnx hgm
  have R1 := r1.keep (by have := hR.bel; exact this)
  have a0 := R1.c 0 _ rfl
  have l1 := R1.lt
  go_wp2_with fail
  clear R1 a0 l1
  go_loopw [18] (fun i W => ∃ (es : List NxE) (vx : Value), i = .int .i64 (es.length : Nat) ∧ es.length ≤ T.ms.length ∧ es.map NxE.ls = (T.ms.take es.length).map nextOf ∧ XR W0 nx gm [] es vx W) (fun i _ => T.ms.length - (intOf i).toNat)
  case atStart => exact ⟨[], _, rfl, by simp, by simp, hR⟩
  case round =>
    clear hR
    obtain ⟨es, vx, rfl, hk, hes, hR⟩ := hrel
    have HE := Lib.hid hes
    clear hes
    by_cases hlt : es.length < T.ms.length
    · obtain ⟨Wb, rfl⟩ : ∃ X, X = wr := ⟨_, rfl⟩
      obtain ⟨m, hm⟩ : ∃ r, T.ms[es.length]? = some r := ⟨_, List.getElem?_eq_getElem hlt⟩
      have hTb := hT.keep hR.bel
      obtain ⟨bm, offm, hom, hMr⟩ := hTb.ms (map_ne hlt)
      subst hom
      have x0 : Wb.cell? ⟨bm, offm + es.length * 2, none⟩ = some (.slice m.op m.n m.cp) := hMr.c _ _ (map_get hm) 0 _ rfl
      have x1 : Wb.cell? ⟨bm, offm + es.length * 2 + 1, none⟩ = some (.slice m.oe m.es.length m.ce) := hMr.c _ _ (map_get hm) 1 _ rfl
      have hmo := HMO.out m (List.mem_of_getElem? hm)
      have HMP := Lib.hid hmo
      obtain ⟨mn1, mn2, mlen, -, -⟩ := hmo
      have HES := Lib.hid (hTb.es m (List.mem_of_getElem? hm))
      have HM := Lib.hid hm
      clear hMr hTb hm
      go_upto_region 5 with fail
      clear x0 x1
      have hbx_ := blks1 Wb [.slice m.op m.n m.cp, .slice m.oe m.es.length m.ce] 43
      replace hR := hR.keep hbx_.2
      replace HES := Lib.hid (HES.out.keep hbx_.2)
      generalize Wb.alloc (.cells #[.slice m.op m.n m.cp, .slice m.oe m.es.length m.ce] 43) = V1 at hbx_ hR HES ⊢
      obtain ⟨r5, hbel_⟩ := hbx_
      obtain ⟨n5, hn_⟩ : ∃ n, n = Wb.heap.size := ⟨_, rfl⟩
      rw [← hn_] at r5 ⊢
      clear hn_
      have hmk := run_make30 m.n mn2
      have y0 := r5.c 0 _ rfl
      have y1 := r5.c 1 _ rfl
      have l5 := r5.lt
      go_upto_region 6 with fail
      have hN := NB.new V1 m.n
      have hb5 : Below V1.heap.size V1 (V1.alloc (.cells (Array.replicate m.n (Value.slice none 0 0)) 22)) := (Below.refl _ _).alloc (Nat.le_refl _) _
      rw [← selfTo_zero] at hN
      clear hmk y0 y1 l5
      generalize V1.alloc (.cells (Array.replicate m.n (Value.slice none 0 0)) 22) = V2 at hN hb5 ⊢
      generalize hg : V1.heap.size = g at hN ⊢
      have HG := Lib.hid hg
      have HR := Lib.hid hR
      clear hR
      go_wp2_with fail
      go_loopw [28] (fun i W => ∃ (j : Nat) (vs : List Value), i = .int .i64 (j : Nat) ∧ j ≤ m.n ∧ NB W (g + 1) g vs (selfTo m.n j) ∧ Below V1.heap.size V1 W) (fun i _ => m.n - (intOf i).toNat)
      case atStart => exact ⟨0, _, rfl, by omega, hN, hb5⟩
      case round =>
        clear hN hb5
        obtain ⟨j, vs, rfl, hj, hN, hW⟩ := hrel
        by_cases hlt : j < m.n
        · obtain ⟨v, hv⟩ : ∃ v, vs[j]? = some v := ⟨_, List.getElem?_eq_getElem (by rw [hN.len]; simp [selfTo]; exact hlt)⟩
          have hN' := hN.keep ((Below.refl wr.heap.size wr).alloc (Nat.le_refl _) (.cells #[.int .i64 (j : Nat)] 3))
          have c0 := hN'.cell hv
          have f0 := hN'.fz j
          have l0 := hN'.lt
          have HNB := Lib.hid (nb_make hN HG.out hW v hv hlt)
          clear hN hN' hW hg
          go_wp2_with fail
          go_roundw
          case rel => exact ⟨j + 1, _, by simp, by omega, HNB.out.1, HNB.out.2⟩
          case measure => simp [intOf]; omega
        · have hjn : j = m.n := by omega
          subst hjn
          rw [selfTo_all, ← laid_zero] at hN
          have R5 := r5.keep hW
          have y1 := R5.c 1 _ rfl
          have l5 := R5.lt
          clear hg
          go_wp2_with fail
          clear R5 y1 l5
          go_loopw [40] (fun i W => ∃ (k : Nat) (vs : List Value), i = .int .i64 (k : Nat) ∧ k ≤ m.es.length ∧ NB W (g + 1) g vs (laid m k) ∧ Below V1.heap.size V1 W) (fun i _ => m.es.length - (intOf i).toNat)
          case atStart => exact ⟨0, _, rfl, by omega, hN, hW⟩
          case round =>
            clear hN hW
            obtain ⟨k, vs, rfl, hk, hN, hW⟩ := hrel
            by_cases hlt : k < m.es.length
            · obtain ⟨e, he⟩ : ∃ r, m.es[k]? = some r := ⟨_, List.getElem?_eq_getElem hlt⟩
              obtain ⟨be, offe, hoe, hEr⟩ := HES.out (map_ne hlt)
              have hbe := hEr.lt
              have hbg : be < g + 1 := by have := HG.out; omega
              have hne : be ≠ g := by have := HG.out; omega
              have hE0 := hEr
              have hEr2 := hEr.keep hW
              have R5 := r5.keep hW
              have y1 := R5.c 1 _ rfl
              rw [hoe] at y1
              clear hoe
              have l5 := R5.lt
              have x3 : wr.cell? ⟨be, offe + k * 12 + 3, none⟩ = some (.int .i64 e.st) := hEr2.c k _ (map_get he) 3 _ rfl
              have hle := hEr2.lt
              have e3 := int_beq e.st 1
              have HER := Lib.hid hEr2
              have HEE := Lib.hid he
              obtain ⟨Wc, rfl⟩ : ∃ X, X = wr := ⟨_, rfl⟩
              clear hEr hEr2 he
              by_cases hst : e.st = 1
              · rw [decide_eq_true hst] at e3
                go_upto_region 16 with fail
                have hed := HMP.out.ed e (List.mem_of_getElem? HEE.out)
                have hu : e.u < m.n := by omega
                have hv : e.v < m.n := by omega
                have x0 : Wc.cell? ⟨be, offe + k * 12, none⟩ = some (.int .i64 (e.u : Nat)) := HER.out.c k _ (map_get HEE.out) 0 _ rfl
                have x1 : Wc.cell? ⟨be, offe + k * 12 + 1, none⟩ = some (.int .i64 (e.v : Nat)) := HER.out.c k _ (map_get HEE.out) 1 _ rfl
                have hfa := laid_fair HMP.out k (by omega)
                have hll := laid_len m k
                clear x3 e3 y1 l5 hed
                go_cut [] (fun X => ∃ vs', NB X (g + 1) g vs' (addAt (laid m k) e.u e.v) ∧ Below V1.heap.size V1 X)
                case first =>
                  obtain ⟨vu, hvu⟩ : ∃ v, vs[e.u]? = some v := ⟨_, List.getElem?_eq_getElem (by rw [hN.len, hll]; exact hu)⟩
                  obtain ⟨lu, hlu⟩ : ∃ v, (laid m k)[e.u]? = some v := ⟨_, List.getElem?_eq_getElem (by rw [hll]; exact hu)⟩
                  have hfair := hfa lu (List.mem_of_getElem? hlu)
                  have c0 := hN.cell hvu
                  have f0 := hN.fz e.u
                  have l0 := hN.lt
                  have hdr : Below Wc.heap.size Wc (Wc.drew.alloc (.cells #[.int .i64 (e.v : Nat)] 3)) := (Below.refl _ _).drew.alloc (Nat.le_refl _) _
                  have HN8 := Lib.hid (hN.keep hdr)
                  have HW8 := Lib.hid (below_call hW hdr)
                  have HER8 := Lib.hid (HER.out.keep hdr)
                  have HO := Lib.hid (HN8.out.own e.u vu lu hvu hlu)
                  have hb8 : g + 1 ≤ (Wc.drew.alloc (.cells #[.int .i64 (e.v : Nat)] 3)).heap.size := by have := HN8.out.lt; omega
                  have HB8 := Lib.hid hb8
                  have HVU := Lib.hid hvu
                  have HLU := Lib.hid hlu
                  have hlul : lu.length ≤ 1 + 2 * k + 1 := by have := hfair.2; omega
                  have HFA := Lib.hid hlul
                  obtain ⟨i0, hi, hz0, hz1, hz2⟩ := info_parts info3
                  clear hdr hb8 hN hW hvu hlu hfair hlul
                  go_region_law
                    (first
                    | (refine step_append_lies _ rfl (.tmp 63) (.tmp 68) 22 rfl (g + 1) 3 i0 (.int .i64 0) 1 8 under22 hi hz0 hz1 hz2 rfl (by decide) vu lu.length _ (by simp [Act.eval]) HO.out ⟨Wc.heap.size, 0, none⟩ 1 1 [.int .i64 (e.v : Nat)] (by simp [Act.eval]) rfl (new_cells _ _ _) (by simp [Value.oneCell']) (by decide) (by unfold maxLen; have := HFA.out; omega) (by have := HFA.out; omega) HB8.out _ rfl ?_
                       intro g' c' W9 hown hgrow hat hlt9
                       have hb9 := grown_below HO.out hgrow HB8.out
                       have hE9 := HER8.out.low hbg hb9
                       have z0 : W9.cell? ⟨be, offe + k * 12, none⟩ = some (.int .i64 (e.u : Nat)) := hE9.c k _ (map_get HEE.out) 0 _ rfl
                       have z1 : W9.cell? ⟨be, offe + k * 12 + 1, none⟩ = some (.int .i64 (e.v : Nat)) := hE9.c k _ (map_get HEE.out) 1 _ rfl
                       have c9 : W9.cell? ⟨g, e.u, none⟩ = some vu := by rw [← HN8.out.cell HVU.out]; simp [World.cell?, hb9.block g (Nat.lt_succ_self _)]
                       have f9 : W9.frozen? ⟨g, e.u, none⟩ = false := by rw [← HN8.out.fz e.u]; simp [World.frozen?, hb9.block g (Nat.lt_succ_self _)]
                       have HAP := Lib.hid (nb_app HN8.out HG.out HW8.out HVU.out HLU.out hown hgrow (by rcases hat with h | h; exact .inl h; exact .inr (by simp at h ⊢; omega)))
                       clear hown hgrow hat))
                  all_goals
                    have hap := HAP.out
                    clear x0 x1 hle hfa hll
                    go_wp2_with fail
                    go_meet
                    exact ⟨_, hap.1, hap.2⟩
                case rest =>
                  clear x0 x1 hN hW
                  obtain ⟨vs1, hN, hW⟩ := hcut
                  obtain ⟨Wd, rfl⟩ : ∃ X, X = wc := ⟨_, rfl⟩
                  have hb := HES.out
                  have HERd := Lib.hid (hE0.keep hW)
                  have x0 : Wd.cell? ⟨be, offe + k * 12, none⟩ = some (.int .i64 (e.u : Nat)) := HERd.out.c k _ (map_get HEE.out) 0 _ rfl
                  have x1 : Wd.cell? ⟨be, offe + k * 12 + 1, none⟩ = some (.int .i64 (e.v : Nat)) := HERd.out.c k _ (map_get HEE.out) 1 _ rfl
                  have hle := HERd.out.lt
                  have hfa' := hfa.addAt (x := e.v) (by rw [hll]; exact hu)
                  have hll' : (addAt (laid m k) e.u e.v).length = m.n := by rw [addAt_len, hll]
                  clear hfa hll
                  go_upto_region 17 with fail
                  have hls : addAt (addAt (laid m k) e.u e.v) e.v e.u = laid m (k + 1) := by
                    rw [laid_succ HEE.out]; unfold addE; rw [if_pos hst]
                  have HLS := Lib.hid hls
                  have HKL := Lib.hid hlt
                  clear hls
                  obtain ⟨vu, hvu⟩ : ∃ v, vs1[e.v]? = some v := ⟨_, List.getElem?_eq_getElem (by rw [hN.len, hll']; exact hv)⟩
                  obtain ⟨lu, hlu⟩ : ∃ v, (addAt (laid m k) e.u e.v)[e.v]? = some v := ⟨_, List.getElem?_eq_getElem (by rw [hll']; exact hv)⟩
                  have hfair := hfa' lu (List.mem_of_getElem? hlu)
                  have c0 := hN.cell hvu
                  have f0 := hN.fz e.v
                  have l0 := hN.lt
                  have hdr : Below Wd.heap.size Wd (Wd.drew.alloc (.cells #[.int .i64 (e.u : Nat)] 3)) := (Below.refl _ _).drew.alloc (Nat.le_refl _) _
                  have HN8 := Lib.hid (hN.keep hdr)
                  have HW8 := Lib.hid (below_call hW hdr)
                  have HER8 := Lib.hid (HERd.out.keep hdr)
                  have HO := Lib.hid (HN8.out.own e.v vu lu hvu hlu)
                  have hb8 : g + 1 ≤ (Wd.drew.alloc (.cells #[.int .i64 (e.u : Nat)] 3)).heap.size := by have := HN8.out.lt; omega
                  have HB8 := Lib.hid hb8
                  have HVU := Lib.hid hvu
                  have HLU := Lib.hid hlu
                  have hlul : lu.length ≤ 1 + 2 * k + 1 := by have := hfair.2; omega
                  have HFA := Lib.hid hlul
                  obtain ⟨i0, hi, hz0, hz1, hz2⟩ := info_parts info3
                  clear hdr hb8 hN hW hvu hlu hfair hlul
                  go_region_law
                    (first
                    | (refine step_append_lies _ rfl (.tmp 82) (.tmp 87) 22 rfl (g + 1) 3 i0 (.int .i64 0) 1 8 under22 hi hz0 hz1 hz2 rfl (by decide) vu lu.length _ (by simp [Act.eval]) HO.out ⟨Wd.heap.size, 0, none⟩ 1 1 [.int .i64 (e.u : Nat)] (by simp [Act.eval]) rfl (new_cells _ _ _) (by simp [Value.oneCell']) (by decide) (by unfold maxLen; have := HFA.out; omega) (by have := HFA.out; omega) HB8.out _ rfl ?_
                       intro g' c' W9 hown hgrow hat hlt9
                       have hb9 := grown_below HO.out hgrow HB8.out
                       have hE9 := HER8.out.low hbg hb9
                       have z0 : W9.cell? ⟨be, offe + k * 12, none⟩ = some (.int .i64 (e.u : Nat)) := hE9.c k _ (map_get HEE.out) 0 _ rfl
                       have z1 : W9.cell? ⟨be, offe + k * 12 + 1, none⟩ = some (.int .i64 (e.v : Nat)) := hE9.c k _ (map_get HEE.out) 1 _ rfl
                       have c9 : W9.cell? ⟨g, e.v, none⟩ = some vu := by rw [← HN8.out.cell HVU.out]; simp [World.cell?, hb9.block g (Nat.lt_succ_self _)]
                       have f9 : W9.frozen? ⟨g, e.v, none⟩ = false := by rw [← HN8.out.fz e.v]; simp [World.frozen?, hb9.block g (Nat.lt_succ_self _)]
                       have HAP := Lib.hid (nb_app HN8.out HG.out HW8.out HVU.out HLU.out hown hgrow (by rcases hat with h | h; exact .inl h; exact .inr (by simp at h ⊢; omega)))
                       clear hown hgrow hat))
                  all_goals
                    have hap := HAP.out
                    rw [HLS.out] at hap
                    clear x0 x1 hle hfa' hll'
                    go_wp2_with fail
                    go_roundw
                    case rel => exact ⟨k + 1, _, by simp, HKL.out, hap.1, hap.2⟩
                    case measure => have := HKL.out; simp [intOf]; omega
              · rw [decide_eq_false hst] at e3
                rw [← laid_eq e HEE.out hst] at hN
                go_wp2_with fail
                go_roundw
                case rel => exact ⟨k + 1, _, by simp, by omega, hN, hW⟩
                case measure => simp [intOf]; omega
            · have hkm : k = m.es.length := by omega
              subst hkm
              have HML := Lib.hid mlen
              go_wp2_with fail
              go_loopw [93] (fun i W => ∃ (j : Nat) (vs : List Value), i = .int .i64 (j : Nat) ∧ j ≤ m.n ∧ NB W (g + 1) g vs (sorted (laid m m.es.length) j) ∧ Below V1.heap.size V1 W) (fun i _ => m.n - (intOf i).toNat)
              case atStart => exact ⟨0, _, rfl, by omega, by rw [sorted_zero]; exact hN, hW⟩
              case round =>
                clear hN hW
                obtain ⟨j, vs, rfl, hj, hN, hW⟩ := hrel
                by_cases hlt : j < m.n
                · obtain ⟨v, hv⟩ : ∃ v, vs[j]? = some v := ⟨_, List.getElem?_eq_getElem (by rw [hN.len, sorted_len, laid_len]; exact hlt)⟩
                  obtain ⟨l, hl⟩ : ∃ v, (laid m m.es.length)[j]? = some v := ⟨_, List.getElem?_eq_getElem (by rw [laid_len]; exact hlt)⟩
                  have hfa := laid_fair HMP.out m.es.length (Nat.le_refl _) l (List.mem_of_getElem? hl)
                  have c0 := hN.cell hv
                  have l0 := hN.lt
                  have hso := sort_own (g + 1) v l wr (hN.own j v l hv (sorted_get hl)) hfa.1 (by omega)
                  have HSO := Lib.hid hso
                  have HNH := Lib.hid hN
                  have HWH := Lib.hid hW
                  have HV := Lib.hid hv
                  have HL := Lib.hid hl
                  clear hN hW hso hv hl hfa
                  go_wp2_with (go_at_call 63; refine HSO.out.mono ?_; rintro e w9 ⟨rfl, hown, hgrow⟩)
                  have HNN := Lib.hid (nb_sort HNH.out HG.out HWH.out HV.out HL.out hown hgrow)
                  clear c0 l0 hown hgrow
                  go_wp2
                  go_roundw
                  case rel => exact ⟨j + 1, _, by simp, by omega, HNN.out.1, HNN.out.2⟩
                  case measure => simp [intOf]; omega
                · have hjn : j = m.n := by omega
                  subst hjn
                  have hE := nxOf_ok hN
                  have hX := HR.out.keep hW
                  have hap := nxOf_ap (m := m) HG.out hN HR.out
                  rw [sorted_all _ _ (by rw [laid_len]; exact Nat.le_refl _)] at hN
                  have x0 := hX.x.c 0 _ rfl
                  have lx := hX.x.lt
                  have hal : Below wr.heap.size wr (wr.alloc (.cells #[.slice (some ⟨g, 0, none⟩) m.n m.n] 30)) := (Below.refl _ _).alloc (Nat.le_refl _) _
                  have HX := Lib.hid (hX.keep hal)
                  have HEN := Lib.hid (hE.keep hal)
                  have HAPN := Lib.hid hap
                  have HCC := Lib.hid (new_cells wr [.slice (some ⟨g, 0, none⟩) m.n m.n] 30)
                  have hlow := HX.out.low
                  have HLOW := Lib.hid hlow
                  obtain ⟨i0, hi, hz0, hz1, hz2⟩ := info_parts info30
                  clear hN hW hE hX hap hal hlow
                  go_wp2_with (at_builtin; go_loud (refine wpList_append_lies _ rfl _ _ 79 rfl (nx + 1) 30 i0 (.slice none 0 0) 1 24 under79 hi hz0 hz1 hz2 rfl (by decide) _ _ _ rfl HX.out.own ⟨wr.heap.size, 0, none⟩ 1 1 [.slice (some ⟨g, 0, none⟩) m.n m.n] rfl rfl ?c1 ?c2 (by decide) ?c3 ?c4 ?c5 _ rfl ?_))
                  case c1 => simpa using HCC.out
                  case c2 => intro u hu; simp at hu; subst hu; rfl
                  case c3 => unfold maxLen; omega
                  case c4 => omega
                  case c5 => have := HX.out.x.lt; omega
                  intro g' c' W9 hown hgrow hat hlt9
                  have hown2 : W9.ownsRow (nx + 1) 30 1 (.slice (some ⟨g', 0, none⟩) (es.length + 1) c') (es.length + 1) (es.map NxE.v ++ [(nxOf g m vs).v]) := by rw [nxOf_v]; exact hown
                  have HA := Lib.hid (HX.out.app (nxOf g m vs) g' c' hown2 hgrow (by rcases hat with h | h; exact .inl h; exact .inr (by simp at h ⊢; omega)) HEN.out HAPN.out)
                  have hB3 := HX.out.x.low (Nat.lt_succ_self _) (grown_below HX.out.own hgrow (by have := HX.out.x.lt; omega))
                  have c04 := hB3.c 0 _ rfl
                  have f04 := hB3.f 0
                  clear hown hown2 hgrow hat hi hz0 hz1 hz2 x0 lx hB3
                  go_wp2
                  go_roundw
                  case rel => exact ⟨es ++ [nxOf g m vs], _, by simp, by simp; omega, by rw [List.map_append, HE.out, List.length_append]; show _ = List.map nextOf (T.ms.take (es.length + 1)); rw [List.take_add_one, HM.out]; simp [nxOf], HA.out⟩
                  case measure => simp [intOf]; omega
    · have hke : es.length = T.ms.length := by omega
      rw [hke, List.take_length] at HE
      have HKE := Lib.hid hke
      obtain ⟨on, cn, rfl⟩ := own_slice hR.own
      have R1 := r1.keep hR.bel
      have a1 := R1.c 1 _ rfl
      have l1 := R1.lt
      clear hke
      obtain ⟨Wa, rfl⟩ : ∃ X, X = wr := ⟨_, rfl⟩
      go_wp2_with fail
      clear R1 a1 l1
      go_loopw [112] (fun i W => ∃ (k : Nat) (l : List ((Mv × Mv) × Value)), i = .int .i64 (k : Nat) ∧ k ≤ T.cs.length ∧ l = clOf (T.cs.take k) ∧ XR W0 nx gm l es (.slice on es.length cn) W) (fun i _ => T.cs.length - (intOf i).toNat)
      case atStart => exact ⟨0, [], rfl, by omega, rfl, hR⟩
      case round =>
        clear hR
        obtain ⟨k, l, rfl, hk, hl, hR⟩ := hrel
        have HL := Lib.hid hl
        clear hl
        by_cases hlt : k < T.cs.length
        · obtain ⟨c, hc⟩ : ∃ r, T.cs[k]? = some r := ⟨_, List.getElem?_eq_getElem hlt⟩
          obtain ⟨bc, offc, hoc, hCr⟩ := (hT.keep hR.bel).cs (map_ne hlt)
          subst hoc
          have x0 : wr.cell? ⟨bc, offc + k * 6, none⟩ = some (.int .i64 (c.a.arm : Nat)) := hCr.c k _ (map_get hc) 0 _ rfl
          have x1 : wr.cell? ⟨bc, offc + k * 6 + 1, none⟩ = some (.int .i64 (c.a.x : Nat)) := hCr.c k _ (map_get hc) 1 _ rfl
          have x2 : wr.cell? ⟨bc, offc + k * 6 + 2, none⟩ = some (.int .i64 (c.a.y : Nat)) := hCr.c k _ (map_get hc) 2 _ rfl
          have x3 : wr.cell? ⟨bc, offc + k * 6 + 3, none⟩ = some (.int .i64 (c.b.arm : Nat)) := hCr.c k _ (map_get hc) 3 _ rfl
          have x4 : wr.cell? ⟨bc, offc + k * 6 + 4, none⟩ = some (.int .i64 (c.b.x : Nat)) := hCr.c k _ (map_get hc) 4 _ rfl
          have x5 : wr.cell? ⟨bc, offc + k * 6 + 5, none⟩ = some (.int .i64 (c.b.y : Nat)) := hCr.c k _ (map_get hc) 5 _ rfl
          have HC := Lib.hid hc
          clear hc
          go_upto_region 29 with fail
          clear x0 x1 x2 x3 x4 x5 hCr
          have hbx_ := boxes1 wr [.int .i64 (c.a.arm : Nat), .int .i64 (c.a.x : Nat), .int .i64 (c.a.y : Nat), .int .i64 (c.b.arm : Nat), .int .i64 (c.b.x : Nat), .int .i64 (c.b.y : Nat)] 74
          replace hR := hR.keep hbx_.2
          generalize wr.alloc (.cells #[.int .i64 (c.a.arm : Nat), .int .i64 (c.a.x : Nat), .int .i64 (c.a.y : Nat), .int .i64 (c.b.arm : Nat), .int .i64 (c.b.x : Nat), .int .i64 (c.b.y : Nat)] 74) = V at hbx_ hR ⊢
          obtain ⟨r12, hbel_⟩ := hbx_
          obtain ⟨n12, hn_⟩ : ∃ n, n = wr.heap.size := ⟨_, rfl⟩
          rw [← hn_] at r12 ⊢
          clear hn_
          have y0 : V.cell? ⟨n12, 0, none⟩ = some (.int .i64 (c.a.arm : Nat)) := r12.c 0 _ rfl
          have y1 : V.cell? ⟨n12, 1, none⟩ = some (.int .i64 (c.a.x : Nat)) := r12.c 1 _ rfl
          have y2 : V.cell? ⟨n12, 2, none⟩ = some (.int .i64 (c.a.y : Nat)) := r12.c 2 _ rfl
          have y3 : V.cell? ⟨n12, 3, none⟩ = some (.int .i64 (c.b.arm : Nat)) := r12.c 3 _ rfl
          have y4 : V.cell? ⟨n12, 4, none⟩ = some (.int .i64 (c.b.x : Nat)) := r12.c 4 _ rfl
          have y5 : V.cell? ⟨n12, 5, none⟩ = some (.int .i64 (c.b.y : Nat)) := r12.c 5 _ rfl
          have l12 := r12.lt
          have z1 := hR.x.c 1 _ rfl
          have lx := hR.x.lt
          have HR := Lib.hid hR
          clear hR
          by_cases h : c.a.arm < c.b.arm
          · have hd : decide ((c.a.arm : Int) < (c.b.arm : Int)) = true := decide_eq_true (by omega)
            have hmu := run_mapUpdate k130 Try.underlying80 V gm l (c.a, c.b) (.bool true) HR.out.map
            simp only [enc2] at hmu
            have HRP := Lib.hid (HR.out.put (l' := putL l (c.a, c.b) (.bool true)))
            go_wp2_with fail
            clear hmu y0 y1 y2 y3 y4 y5 z1 lx l12 r12
            generalize wput V gm enc2 (putL l (c.a, c.b) (.bool true)) = V9 at HRP ⊢
            go_wp2
            go_roundw
            case rel => exact ⟨k + 1, _, by simp, by omega, by rw [clOf_step HC.out, ← HL.out]; unfold putC keyOf; rw [if_pos h], HRP.out⟩
            case measure => simp [intOf]; omega
          · have hd : decide ((c.a.arm : Int) < (c.b.arm : Int)) = false := decide_eq_false (by omega)
            have hmu := run_mapUpdate k130 Try.underlying80 V gm l (c.b, c.a) (.bool true) HR.out.map
            simp only [enc2] at hmu
            have HRP := Lib.hid (HR.out.put (l' := putL l (c.b, c.a) (.bool true)))
            go_wp2_with fail
            clear hmu y0 y1 y2 y3 y4 y5 z1 lx l12 r12
            generalize wput V gm enc2 (putL l (c.b, c.a) (.bool true)) = V9 at HRP ⊢
            go_wp2
            go_roundw
            case rel => exact ⟨k + 1, _, by simp, by omega, by rw [clOf_step HC.out, ← HL.out]; unfold putC keyOf; rw [if_neg h], HRP.out⟩
            case measure => simp [intOf]; omega
        · have hkc : k = T.cs.length := by omega
          have HLL : l = clOf T.cs := by rw [HL.out, hkc, List.take_length]
          subst HLL
          have x0 := hR.x.c 0 _ rfl
          have x1 := hR.x.c 1 _ rfl
          have lx := hR.x.lt
          have R2 := r2.keep hR.bel
          have e0 := R2.c 0 _ rfl
          have e1 := R2.c 1 _ rfl
          have g0 := R2.f 0
          have g1 := R2.f 1
          have l2 := R2.lt
          have hn2 := r2.lt
          have HR := Lib.hid hR
          have HN2 := Lib.hid hn2
          have HOD := Lib.hid hod
          clear hR hn2 hod R2
          go_wp2_with fail
          have hbl := HR.out.bel
          have hlt2 := HN2.out
          have hw2 : w.heap.size ≤ n2' := by have := HOD.out; omega
          refine bodyPost_ret (v := .agg #[.slice on es.length cn, .map (some gm)]) (by simp [results, Try.results46, go_sem, e0, e1]) rfl ⟨es, on, cn, gm, rfl, HR.out.crew fun q hq => set2_heapD wr n2' _ _ q (by omega), HE.out, ?_, fun b hb => by have h1 := HR.out.usesLow b hb; have h2 := HB.out.size; omega⟩
          exact (((below_call HB.out hbl).setCell (p := ⟨n2', 0, none⟩) hw2 _).setCell (p := ⟨n2', 1, none⟩) hw2 _)
end Go.Proofs.Jn
end

section
/-
  expand: what it does, by any pair of functions that it is handed; its frame.
-/
namespace Go.Proofs.Jn
open Go.RowKit Go.Shelf

def nextAt (nx : List (List (List Nat))) (k x : Nat) : List Nat := (((nx[k]?).getD [])[x]?).getD []
def loopF {σ : Type} (f : Nat → σ → Bool × σ) : List Nat → σ → Bool × σ
  | [], s => (false, s)
  | v :: r, s => if (f v s).1 = true then (true, (f v s).2) else loopF f r (f v s).2
def expF {σ : Type} (nx : List (List (List Nat))) (fr : S4 → Nat → Bool) (op : σ → S4 → Nat → Bool) (vi : σ → S4 → Bool × σ) (a : Nat → Nat) : Nat → Nat → S4 → σ → Bool × σ
  | 0, _, t, s => vi s t
  | d + 1, k, t, s => loopF (fun v s => if op s (t.set k v) (k + 1) && fr (t.set k v) k then expF nx fr op vi a d (k + 1) (t.set k v) s else (false, s)) (nextAt nx k (a k)) s
def frB (l : List ((Mv × Mv) × Value)) (a : Nat → Nat) (t : S4) (k : Nat) : Bool := freeB l a (fun i => (t.get i).toNat) k

/-- What a call may do: it writes what it owns. -/
structure Stp {σ : Type} (Own : σ → World → Nat → Prop) (s : σ) (W : World) (s' : σ) (W' : World) : Prop where
  os : W'.os = W.os
  tape : W'.tape = W.tape
  output : W'.output = W.output
  size : W.heap.size ≤ W'.heap.size
  block : ∀ b, b < W.heap.size → ¬ Own s W b → W'.heap[b]? = W.heap[b]?
  own : ∀ b, Own s' W' b → Own s W b ∨ W.heap.size ≤ b
theorem Stp.refl {σ : Type} (Own : σ → World → Nat → Prop) (s : σ) (W : World) : Stp Own s W s W := ⟨rfl, rfl, rfl, Nat.le_refl _, fun _ _ _ => rfl, fun _ h => .inl h⟩
theorem Stp.of_below {σ : Type} {Own : σ → World → Nat → Prop} {s : σ} {W W' : World} (hst : ∀ b, Own s W' b → Own s W b) (h : Below W.heap.size W W') : Stp Own s W s W' := ⟨h.os, h.tape, h.output, h.size, fun b hb _ => h.block b hb, fun b h => .inl (hst b h)⟩
theorem Stp.trans {σ : Type} {Own : σ → World → Nat → Prop} {s s' s'' : σ} {W W' W'' : World} (h : Stp Own s W s' W') (k : Stp Own s' W' s'' W'') : Stp Own s W s'' W'' := by
  refine ⟨k.os.trans h.os, k.tape.trans h.tape, k.output.trans h.output, Nat.le_trans h.size k.size, fun b hb hn => ?_, fun b hb => ?_⟩
  · rw [k.block b (Nat.lt_of_lt_of_le hb h.size) (fun e => ?_), h.block b hb hn]
    rcases h.own b e with h1 | h1
    · exact hn h1
    · omega
  · rcases k.own b hb with h1 | h1
    · exact h.own b h1
    · exact .inr (Nat.le_trans h.size h1)
/-- From a world in which some blocks more lie. -/
theorem Stp.low {σ : Type} {Own : σ → World → Nat → Prop} {s s' : σ} {W V W' : World} (hst : ∀ b, Own s V b → Own s W b) (hV : Below W.heap.size W V) (k : Stp Own s V s' W') : Stp Own s W s' W' :=
  (Stp.of_below hst hV).trans k
theorem Stp.set {σ : Type} {Own : σ → World → Nat → Prop} {s s' : σ} {W W' : World} (h : Stp Own s W s' W') {n i : Nat} (hn : W.heap.size ≤ n) (v : Value) (hst : ∀ b, Own s' (W'.setCell ⟨n, i, none⟩ v) b → Own s' W' b) : Stp Own s W s' (W'.setCell ⟨n, i, none⟩ v) :=
  ⟨h.os, h.tape, h.output, by have := h.size; simp [World.setCell]; exact this, fun b hb ho => by rw [Below.heap_setCell W' ⟨n, i, none⟩ v b (by show b ≠ n; omega)]; exact h.block b hb ho, fun b hb => h.own b (hst b hb)⟩
theorem Stp.row {σ : Type} {Own : σ → World → Nat → Prop} {s s' : σ} {W W' : World} {n : Nat} {l : List Value} (h : Stp Own s W s' W') (r : Row W n l) (hn : ¬ Own s W n) : Row W' n l :=
  ⟨fun i v hi => by rw [← r.c i v hi]; simp [World.cell?, h.block n r.lt hn], Nat.lt_of_lt_of_le r.lt h.size⟩
theorem Stp.blk {σ : Type} {Own : σ → World → Nat → Prop} {s s' : σ} {W W' : World} {n : Nat} {l : List Value} (h : Stp Own s W s' W') (r : Blk W n l) (hn : ¬ Own s W n) : Blk W' n l := r.keepN (h.block n r.lt hn) h.size
theorem Stp.below {σ : Type} {Own : σ → World → Nat → Prop} {s s' : σ} {W0 W W' : World} (h : Stp Own s W s' W') (hb : Below W0.heap.size W0 W) (ho : ∀ b, Own s W b → W0.heap.size ≤ b) : Below W0.heap.size W0 W' :=
  hb.trans ⟨h.os, h.tape, h.output, h.size, fun b hbl => h.block b (Nat.lt_of_lt_of_le hbl hb.size) fun e => by have := ho b e; omega⟩

/-- The functions that expand is handed, and what they do. -/
structure Gh (σ : Type) where
  Inv : σ → World → Prop
  Own : σ → World → Nat → Prop
  R : Nat → σ → Prop
  fo : FuncId
  fv : FuncId
  Fo : Array Value
  Cv : Array Value
  op : σ → S4 → Nat → Bool
  vi : σ → S4 → Bool × σ
def Gh.InTo {σ : Type} (_ : Gh σ) (nx : List (List (List Nat))) (a : Nat → Nat) (k : Nat) (t : S4) : Prop := (∀ i, i < k → ∃ x : Nat, t.get i = (x : Int) ∧ x ∈ nextAt nx i (a i)) ∧ ∀ i, k ≤ i → i < 4 → t.get i = -1
structure GhOk {σ : Type} (G : Gh σ) (nx : List (List (List Nat))) (a : Nat → Nat) (B : Nat) : Prop where
  eo : Enters Try.prog G.fo
  ev : Enters Try.prog G.fv
  keep : ∀ s W W', G.Inv s W → Below W.heap.size W W' → G.Inv s W'
  kset : ∀ s W n i v, G.Inv s W → B ≤ n → ¬ G.Own s W n → n < W.heap.size → G.Inv s (W.setCell ⟨n, i, none⟩ v)
  own : ∀ s W b, G.Inv s W → G.Own s W b → b < W.heap.size
  ownB : ∀ s W W' b, G.Inv s W → Below W.heap.size W W' → G.Own s W' b → G.Own s W b
  ownS : ∀ s W n i v b, G.Inv s W → B ≤ n → ¬ G.Own s W n → G.Own s (W.setCell ⟨n, i, none⟩ v) b → G.Own s W b
  mono : ∀ c c' s, G.R c s → c' ≤ c → G.R c' s
  callO : ∀ s W (t : S4) (k : Nat), G.Inv s W → k ≤ nx.length → Calls Try.prog G.fo (G.Fo ++ #[t.v, .int .i64 (k : Nat)]) W (BoolP (G.op s t k) W)
  callV : ∀ s W (t : S4) c, G.Inv s W → G.R (c + 1) s → G.InTo nx a nx.length t → G.op s t nx.length = true →
    Calls Try.prog G.fv (#[t.v] ++ G.Cv) W fun e W' => e = .returned (.bool (G.vi s t).1) ∧ Stp G.Own s W (G.vi s t).2 W' ∧ G.Inv (G.vi s t).2 W' ∧ G.R c (G.vi s t).2
theorem EOk.row {W : World} {e : NxE} (h : EOk W e) {i : Nat} {x : List Nat} (hx : e.ls[i]? = some x) : ∃ ou cu, W.cell? ⟨e.g, i, none⟩ = some (.slice ou x.length cu) ∧ Sl W ou 1 (nvals x) := by
  have hi : i < e.vs.length := by rw [h.len]; exact (List.getElem?_eq_some_iff.1 hx).1
  have hv : e.vs[i]? = some e.vs[i] := List.getElem?_eq_getElem hi
  have ho := h.own i _ x hv hx
  obtain ⟨ou, cu, hs⟩ := own_slice ho
  refine ⟨ou, cu, by rw [h.cell hv, hs], ?_⟩
  rw [← nvals_flat, ← nvals_len] at ho
  intro hne
  obtain ⟨oa, cap, hv2, hS⟩ := own_rows (nvals_one x) ho
  rw [hs] at hv2
  injection hv2 with h1 _ _
  rw [h1]
  exact hS hne
/-- These blocks are as they were. -/
structure CK (Cb : Nat → Prop) (W0 W : World) : Prop where
  size : W0.heap.size ≤ W.heap.size
  block : ∀ b, Cb b → W.heap[b]? = W0.heap[b]?
theorem RowsAt.keepQ {w w' : World} {b off n : Nat} {l : List (List Value)} (h : RowsAt w b off n l) (hs : w.heap.size ≤ w'.heap.size) (e : w'.heap[b]? = w.heap[b]?) : RowsAt w' b off n l :=
  ⟨Nat.lt_of_lt_of_le h.lt hs, fun i r hi k v hv => by rw [← h.c i r hi k v hv]; simp [World.cell?, e]⟩
theorem CK.refl (Cb : Nat → Prop) (W : World) : CK Cb W W := ⟨Nat.le_refl _, fun _ _ => rfl⟩
theorem CK.of_below {Cb : Nat → Prop} {W0 W : World} (h : Below W0.heap.size W0 W) (hc : ∀ b, Cb b → b < W0.heap.size) : CK Cb W0 W := ⟨h.size, fun b hb => h.block b (hc b hb)⟩
theorem CK.below {Cb : Nat → Prop} {W0 W W' : World} (h : CK Cb W0 W) (hc : ∀ b, Cb b → b < W0.heap.size) (k : Below W.heap.size W W') : CK Cb W0 W' :=
  ⟨Nat.le_trans h.size k.size, fun b hb => by rw [k.block b (Nat.lt_of_lt_of_le (hc b hb) h.size), h.block b hb]⟩
theorem CK.cell {Cb : Nat → Prop} {W0 W : World} (h : CK Cb W0 W) {b : Nat} (hb : Cb b) (i : Nat) : W.cell? ⟨b, i, none⟩ = W0.cell? ⟨b, i, none⟩ := by simp [World.cell?, h.block b hb]
theorem Stp.ck {σ : Type} {Own : σ → World → Nat → Prop} {s s' : σ} {Cb : Nat → Prop} {W0 W W' : World} (h : Stp Own s W s' W') (hb : CK Cb W0 W) (hc : ∀ b, Cb b → b < W0.heap.size) (ho : ∀ b, Own s W b → ¬ Cb b) : CK Cb W0 W' :=
  ⟨Nat.le_trans hb.size h.size, fun b hbl => by rw [h.block b (Nat.lt_of_lt_of_le (hc b hbl) hb.size) fun e => ho b e hbl, hb.block b hbl]⟩
theorem CrewAt.lt {W : World} {on : Option Addr} {es : List NxE} {gm : Nat} {l : List ((Mv × Mv) × Value)} (h : CrewAt W on es gm l) : ∀ b, crewUses on es gm b → b < W.heap.size := by
  rintro b (⟨hne, off, s, ho⟩ | rfl | ⟨e, he, hb⟩)
  · obtain ⟨b', off', ho', hr⟩ := h.nx (by simpa using hne)
    rw [ho] at ho'
    injection ho' with ho'
    injection ho' with h1
    rw [h1]; exact hr.lt
  · exact h.map.lt
  · exact ((h.ok e he).lt b hb).1
theorem CrewAt.keepC {W W' : World} {on : Option Addr} {es : List NxE} {gm : Nat} {l : List ((Mv × Mv) × Value)} (h : CrewAt W on es gm l) (k : CK (crewUses on es gm) W W') : CrewAt W' on es gm l := by
  refine ⟨fun hne => ?_, fun e he => (h.ok e he).keepQ fun b hb => k.block b (.inr (.inr ⟨e, he, hb⟩)), h.map.keepN (k.block gm (.inr (.inl rfl)))⟩
  obtain ⟨b, off, ho, hr⟩ := h.nx hne
  exact ⟨b, off, ho, hr.keepQ k.size (k.block b (.inl ⟨by simpa using hne, off, none, ho⟩))⟩
theorem EOk.rowU {W : World} {e : NxE} (h : EOk W e) {i : Nat} {x : List Nat} (hx : e.ls[i]? = some x) : ∃ ou cu, W.cell? ⟨e.g, i, none⟩ = some (.slice ou x.length cu) ∧ Sl W ou 1 (nvals x) ∧ ∀ b off s, ou = some ⟨b, off, s⟩ → e.uses b := by
  obtain ⟨ou, cu, h1, h2⟩ := h.row hx
  refine ⟨ou, cu, h1, h2, fun b off s hb => ?_⟩
  have hi : i < e.vs.length := by rw [h.len]; exact (List.getElem?_eq_some_iff.1 hx).1
  have hv : e.vs[i]? = some e.vs[i] := List.getElem?_eq_getElem hi
  have hc := h.cell hv
  rw [h1] at hc
  injection hc with hc
  refine .inr ⟨e.vs[i], List.getElem_mem hi, ?_⟩
  rw [← hc, hb]
  rfl
theorem loopF_drop {σ : Type} {f : Nat → σ → Bool × σ} {l : List Nat} {j x : Nat} (h : l[j]? = some x) (s : σ) : loopF f (l.drop j) s = if (f x s).1 = true then (true, (f x s).2) else loopF f (l.drop (j + 1)) (f x s).2 := by
  obtain ⟨hj, rfl⟩ := List.getElem?_eq_some_iff.1 h
  rw [List.drop_eq_getElem_cons hj]
  rfl
theorem InTo.set {σ : Type} {G : Gh σ} {nx : List (List (List Nat))} {a : Nat → Nat} {k : Nat} {t : S4} (h : G.InTo nx a k t) (hk : k < 4) {x : Nat} (hx : x ∈ nextAt nx k (a k)) : G.InTo nx a (k + 1) (t.set k (x : Nat)) := by
  refine ⟨fun i hi => ?_, fun i hi h4 => ?_⟩
  · rw [S4.get_set t k i _ hk (by omega)]
    by_cases e : i = k
    · subst e; rw [if_pos rfl]; exact ⟨x, rfl, hx⟩
    · rw [if_neg e]; exact h.1 i (by omega)
  · rw [S4.get_set t k i _ hk h4, if_neg (by omega)]; exact h.2 i (by omega) h4
theorem InTo.nat {σ : Type} {G : Gh σ} {nx : List (List (List Nat))} {a : Nat → Nat} {k : Nat} {t : S4} (h : G.InTo nx a k t) : ∀ i, i < k → t.get i = ((t.get i).toNat : Nat) := by
  intro i hi
  obtain ⟨x, hx, _⟩ := h.1 i hi
  rw [hx]; simp
theorem S4.set_set (t : S4) (k : Nat) (x y : Int) : (t.set k x).set k y = t.set k y := by
  match k with
  | 0 | 1 | 2 | _ + 3 => rfl
end Go.Proofs.Jn
end

section
/-
  Walks: expand.
-/
namespace Go.Proofs.Jn
open Go.RowKit Go.Shelf

/-- What expand answers. -/
def ExpE {σ : Type} (G : Gh σ) (r : Bool × σ) (c : Nat) (s : σ) (W : World) (e : Ending) (W' : World) : Prop := e = .returned (.bool r.1) ∧ Stp G.Own s W r.2 W' ∧ G.Inv r.2 W' ∧ G.R c r.2
set_option maxRecDepth 100000 in
set_option maxHeartbeats 4000000 in
theorem expand_any {σ : Type} (G : Gh σ) (W0 : World) (on : Option Addr) (es : List NxE) (cn gm : Nat) (l : List ((Mv × Mv) × Value)) (f : S4) (a : Nat → Nat) (L : Nat) (hG : GhOk G (es.map NxE.ls) a W0.heap.size) (hC : CrewAt W0 on es gm l) (hv : ∀ e ∈ l, e.2 = .bool true) (hn : es.length ≤ 4)
    (ha : ∀ i, i < es.length → f.get i = (a i : Nat)) (hb : ∀ (i : Nat) (e : NxE), es[i]? = some e → a i < e.ls.length ∧ e.ls.length ≤ 100000 ∧ ∀ x ∈ e.ls, x.length ≤ L) (hL : L ≤ 100000) :
    ∀ (d k : Nat) (t : S4) (s : σ) (c : Nat) (w : World), k + d = es.length → CK (crewUses on es gm) W0 w → G.Inv s w → (∀ b, G.Own s w b → ¬ crewUses on es gm b) → G.R (c + L ^ d) s → G.InTo (es.map NxE.ls) a k t → (d = 0 → G.op s t es.length = true) →
    Calls Try.prog 47 #[.agg #[.slice on es.length cn, .map (some gm)], f.v, t.v, .int .i64 (k : Nat), .func (.func G.fo) G.Fo #[], .func (.func G.fv) #[] G.Cv] w (ExpE G (expF (es.map NxE.ls) (frB l a) G.op G.vi a d k t s) c s w) := by
  intro d
  induction d with
  | zero =>
    intro k t s c w hk hW hI hO hR hT ho
    unfold S4.v
    go_enter Try.func47, Try.ntmps47
    go_upto_region 1 with fail
    have hbx_ := boxes3 w [.slice on es.length cn, .map (some gm)] [.int .i64 f.a, .int .i64 f.b, .int .i64 f.c, .int .i64 f.d] [.int .i64 t.a, .int .i64 t.b, .int .i64 t.c, .int .i64 t.d] 82 84 84
    have HB := Lib.hid (hbx_.2.2.2)
    generalize ((w.alloc (.cells #[.slice on es.length cn, .map (some gm)] 82)).alloc (.cells #[.int .i64 f.a, .int .i64 f.b, .int .i64 f.c, .int .i64 f.d] 84)).alloc (.cells #[.int .i64 t.a, .int .i64 t.b, .int .i64 t.c, .int .i64 t.d] 84) = W1 at hbx_ HB ⊢
    obtain ⟨r6, r7, r8, hbel_⟩ := hbx_
    generalize w.heap.size + 1 + 1 = n8 at r8  ⊢
    generalize w.heap.size + 1 = n7 at r7  ⊢
    obtain ⟨n6, hn_⟩ : ∃ n, n = w.heap.size := ⟨_, rfl⟩
    rw [← hn_] at r6 ⊢
    clear hn_ hbel_
    have hI1 := hG.keep s w W1 hI HB.out
    have hkn : ((k : Int) == (es.length : Int)) = true := by simp; omega
    have ev : ∀ args w, (callFunc G.fv args).run Try.prog w = .ok (.enter G.fv args) w := hG.ev
    have HV := Lib.hid (hG.callV s W1 t c hI1 (by simpa using hR) (by rw [List.length_map]; have : k = es.length := by omega
                                                                      rw [← this]; exact hT) (by rw [List.length_map]; exact ho rfl))
    have a0 : W1.cell? ⟨n6, 0, none⟩ = some (.slice on es.length cn) := r6.c 0 _ rfl
    have a1 : W1.cell? ⟨n6, 1, none⟩ = some (.map (some gm)) := r6.c 1 _ rfl
    have l6 := r6.lt
    have b0 : W1.cell? ⟨n8, 0, none⟩ = some (.int .i64 t.a) := r8.c 0 _ rfl
    have b1 : W1.cell? ⟨n8, 1, none⟩ = some (.int .i64 t.b) := r8.c 1 _ rfl
    have b2 : W1.cell? ⟨n8, 2, none⟩ = some (.int .i64 t.c) := r8.c 2 _ rfl
    have b3 : W1.cell? ⟨n8, 3, none⟩ = some (.int .i64 t.d) := r8.c 3 _ rfl
    have l8 := r8.lt
    unfold S4.v at HV
    go_wp2_with (go_at_fn G.fv; refine HV.out.mono ?_; rintro e w' ⟨rfl, hS, hI', hR'⟩)
    go_ret
    exact ⟨rfl, hS.low (fun b => hG.ownB s w W1 b hI HB.out) HB.out, hI', hR'⟩
  | succ d ih =>
    intro k t s c w hk hW hI hO hR hT ho
    have hkl : k < es.length := by omega
    obtain ⟨e, he⟩ : ∃ r, es[k]? = some r := ⟨_, List.getElem?_eq_getElem hkl⟩
    obtain ⟨hak, hel, hll⟩ := hb k e he
    obtain ⟨lv, hlv⟩ : ∃ r, e.ls[a k]? = some r := ⟨_, List.getElem?_eq_getElem hak⟩
    have hnx : nextAt (es.map NxE.ls) k (a k) = lv := by simp [nextAt, he, hlv]
    have hlvL : lv.length ≤ L := hll lv (List.mem_of_getElem? hlv)
    obtain ⟨F, hF⟩ : ∃ F : Nat → σ → Bool × σ, F = fun (v : Nat) s => if G.op s (t.set k v) (k + 1) && frB l a (t.set k v) k then expF (es.map NxE.ls) (frB l a) G.op G.vi a d (k + 1) (t.set k v) s else (false, s) := ⟨_, rfl⟩
    have hexp : expF (es.map NxE.ls) (frB l a) G.op G.vi a (d + 1) k t s = loopF F lv s := by rw [hF, ← hnx]; rfl
    rw [hexp]
    have hW1 : Below w.heap.size w w := Below.refl _ _
    have hI0 := hI
    have HIH := Lib.hid ih
    have HG := Lib.hid hG
    have HC0 := Lib.hid hC
    have HV := Lib.hid hv
    have HHW := Lib.hid hW
    have HO := Lib.hid hO
    have HT := Lib.hid hT
    have HAI := Lib.hid ha
    have HF := Lib.hid hF
    have HNX := Lib.hid hnx
    have HFK : Hid (f.get k = (a k : Nat)) := Lib.hid (ha k hkl)
    obtain ⟨bn, offn, hon, hNr⟩ := (hC.keepC hW).nx (map_ne hkl)
    have hE := (hC.keepC hW).ok e (List.mem_of_getElem? he)
    obtain ⟨ou, cu, hcu, hSu, hUse⟩ := (hC.ok e (List.mem_of_getElem? he)).rowU hlv
    have hcu' : w.cell? ⟨e.g, a k, none⟩ = some (.slice ou lv.length cu) := by rw [← hcu]; exact hW.cell (.inr (.inr ⟨e, List.mem_of_getElem? he, .inl rfl⟩)) (a k)
    have HCB : Hid (∀ b off s, ou = some ⟨b, off, s⟩ → crewUses on es gm b) := Lib.hid fun b off s h => .inr (.inr ⟨e, List.mem_of_getElem? he, hUse b off s h⟩)
    have HCL : Hid (∀ b, crewUses on es gm b → b < W0.heap.size) := Lib.hid hC.lt
    clear hUse
    have HSU := Lib.hid hSu
    have x0 : w.cell? ⟨bn, offn + k, none⟩ = some (.slice (some ⟨e.g, 0, none⟩) e.ls.length e.cap) := by have := hNr.c k _ (map_get he) 0 _ rfl; simpa [NxE.v] using this
    have lbn := hNr.lt
    have lge := NB.lt hE
    clear ih hG hv hO hT ha hF hb hll hNr hSu hnx hexp hcu he hlv hE hC hI ho
    subst hon
    unfold S4.v
    have hkn : ((k : Int) == (es.length : Int)) = false := nat_bne (by omega)
    go_enter Try.func47, Try.ntmps47
    go_upto_region 1 with fail
    have hbx_ := blks3 w [.slice (some ⟨bn, offn, none⟩) es.length cn, .map (some gm)] [.int .i64 f.a, .int .i64 f.b, .int .i64 f.c, .int .i64 f.d] [.int .i64 t.a, .int .i64 t.b, .int .i64 t.c, .int .i64 t.d] 82 84 84
    have HB := Lib.hid (hbx_.2.2.2)
    have hod : w.heap.size ≤ w.heap.size ∧ w.heap.size < w.heap.size + 1 ∧ w.heap.size + 1 < w.heap.size + 1 + 1 := by omega
    generalize ((w.alloc (.cells #[.slice (some ⟨bn, offn, none⟩) es.length cn, .map (some gm)] 82)).alloc (.cells #[.int .i64 f.a, .int .i64 f.b, .int .i64 f.c, .int .i64 f.d] 84)).alloc (.cells #[.int .i64 t.a, .int .i64 t.b, .int .i64 t.c, .int .i64 t.d] 84) = W1 at hbx_ HB ⊢
    obtain ⟨r6, r7, r8, hbel_⟩ := hbx_
    generalize w.heap.size + 1 + 1 = n8 at r8 hod ⊢
    generalize w.heap.size + 1 = n7 at r7 hod ⊢
    obtain ⟨n6, hn_⟩ : ∃ n, n = w.heap.size := ⟨_, rfl⟩
    rw [← hn_] at r6 ⊢
    replace hod := And.intro (Nat.le_of_eq hn_.symm) (hn_ ▸ hod.2)
    clear hn_ hbel_
    replace x0 := (HB.out.cell (p := ⟨bn, offn + k, none⟩) lbn).trans x0
    replace hcu' := (HB.out.cell (p := ⟨e.g, a k, none⟩) lge).trans hcu'
    have lbn1 := Nat.lt_of_lt_of_le lbn HB.out.size
    have lge1 := Nat.lt_of_lt_of_le lge HB.out.size
    have b0 : W1.cell? ⟨n6, 0, none⟩ = some (.slice (some ⟨bn, offn, none⟩) es.length cn) := r6.c 0 _ rfl
    have b1 : W1.cell? ⟨n6, 1, none⟩ = some (.map (some gm)) := r6.c 1 _ rfl
    have l6 := r6.lt
    have l7 := r7.lt
    have l8 := r8.lt
    have y7 : W1.cell? ⟨n7, k, none⟩ = some (.int .i64 (a k : Nat)) := by rw [← HFK.out]; exact r7.c k _ (f.l_get k (by omega))
    go_upto_region 3 with fail
    go_quiet (fail)
    have hBV := below_drew W1 nq
    replace r6 := r6.keep hBV
    replace r7 := r7.keep hBV
    replace r8 := r8.keep hBV
    have HBV := Lib.hid (below_call HB.out hBV)
    clear x0 hcu' lbn1 lge1 b0 b1 l6 l7 l8 y7 hBV HB lbn lge
    generalize W1.drewN nq = V at r6 r7 r8 HBV ⊢
    have hno : ∀ n, w.heap.size ≤ n → n < V.heap.size → ∀ s1 X, (∀ b, G.Own s1 X b → G.Own s w b ∨ V.heap.size ≤ b) → ¬ G.Own s1 X n := fun n h1 h2 s1 X h3 h4 => by
      rcases h3 n h4 with h5 | h5
      · have := HG.out.own s w n hI0 h5; omega
      · omega
    have n6' : w.heap.size ≤ n6 := by omega
    have n7' : w.heap.size ≤ n7 := by omega
    have n8' : w.heap.size ≤ n8 := by omega
    have hne6 : n6 ≠ n8 := by omega
    have hne7 : n7 ≠ n8 := by omega
    have HNO := Lib.hid hno
    have HBD := Lib.hid (And.intro n6' (And.intro n7' (And.intro n8' (And.intro hne6 hne7))))
    have HL6 := Lib.hid r6.lt
    have HL7 := Lib.hid r7.lt
    have HL8 := Lib.hid r8.lt
    clear hno n6' n7' n8' hne6 hne7 hod
    go_wp2_with fail
    go_loopw [34] (fun i X => ∃ (j : Nat) (s1 : σ) (u : S4), i = .int .i64 (j : Nat) ∧ j ≤ lv.length ∧ Stp G.Own s w s1 X ∧ (∀ b, G.Own s1 X b → G.Own s w b ∨ V.heap.size ≤ b) ∧ V.heap.size ≤ X.heap.size ∧ G.Inv s1 X ∧ G.R (c + (lv.length - j) * L ^ d) s1 ∧ Blk X n6 [.slice (some ⟨bn, offn, none⟩) es.length cn, .map (some gm)] ∧ Blk X n7 f.l ∧ Blk X n8 u.l ∧ (∀ x, u.set k x = t.set k x) ∧ loopF F lv s = loopF F (lv.drop j) s1) (fun i _ => lv.length - (intOf i).toNat)
    case atStart => exact ⟨0, s, t, rfl, by omega, Stp.of_below (fun b => HG.out.ownB s w V b hI0 HBV.out) HBV.out, fun b h => .inl (HG.out.ownB s w V b hI0 HBV.out h), Nat.le_refl _, HG.out.keep s w V hI0 HBV.out, HG.out.mono _ _ s hR (by rw [Nat.pow_succ, Nat.mul_comm (L ^ d) L]; exact Nat.add_le_add_left (Nat.mul_le_mul_right _ (by omega)) _), r6, r7, r8, fun x => rfl, rfl⟩
    case round =>
      clear r6 r7 r8
      obtain ⟨j, s1, u, rfl, hj, hS, hOw, hVs, hI, hR1, r6, r7, r8, hu, hlp⟩ := hrel
      have HLP := Lib.hid hlp
      have HU := Lib.hid hu
      have HOW := Lib.hid hOw
      have HR1 := Lib.hid hR1
      clear hlp hu hR1 hOw
      by_cases hlt : j < lv.length
      · obtain ⟨x, hx⟩ : ∃ r, lv[j]? = some r := ⟨_, List.getElem?_eq_getElem hlt⟩
        have HX := Lib.hid hx
        obtain ⟨bu, offu, hou, hUr⟩ := HSU.out (nvals_ne hlt)
        subst hou
        have HW0 := Lib.hid (hS.ck HHW.out HCL.out HO.out)
        have hUr2 := hUr.keepQ HW0.out.size (HW0.out.block bu (HCB.out bu offu none rfl))
        have x0 : wr.cell? ⟨bu, offu + j, none⟩ = some (.int .i64 (x : Nat)) := by have := hUr2.c j _ (nvals_get hx) 0 _ rfl; simpa using this
        have lu := hUr2.lt
        have HS := Lib.hid hS
        have hnx8 := HNO.out n8 HBD.out.2.2.1 HL8.out s1 wr HOW.out
        have c8 : wr.cell? ⟨n8, k, none⟩ = some (.int .i64 (u.get k)) := r8.c k _ (u.l_get k (by omega))
        have f8 := r8.f k
        have l8 := r8.lt
        clear hS hx hUr hUr2
        go_upto_region 7 with fail
        have r8n : Blk (wr.setCell ⟨n8, k, none⟩ (.int .i64 (x : Nat))) n8 (t.set k (x : Nat)).l := by
          have := r8.put k (.int .i64 (x : Nat))
          rw [← S4.l_set u k _ (by omega), HU.out] at this
          exact this
        have hst : ∀ b, b ≠ n8 → (wr.setCell ⟨n8, k, none⟩ (.int .i64 (x : Nat))).heap[b]? = wr.heap[b]? := fun b hb => Below.heap_setCell wr ⟨n8, k, none⟩ _ b hb
        have hsz : wr.heap.size ≤ (wr.setCell ⟨n8, k, none⟩ (.int .i64 (x : Nat))).heap.size := by simp [World.setCell]
        replace r6 := r6.keepN (hst n6 HBD.out.2.2.2.1) hsz
        replace r7 := r7.keepN (hst n7 HBD.out.2.2.2.2) hsz
        have hI2 := HG.out.kset s1 wr n8 k (.int .i64 (x : Nat)) hI (Nat.le_trans HHW.out.size HBD.out.2.2.1) hnx8 l8
        have HS2 := Lib.hid (HS.out.set (i := k) HBD.out.2.2.1 (.int .i64 (x : Nat)) (fun b => HG.out.ownS s1 wr n8 k _ b hI (Nat.le_trans HHW.out.size HBD.out.2.2.1) hnx8))
        have HO2 : Hid (∀ b, G.Own s1 (wr.setCell ⟨n8, k, none⟩ (.int .i64 (x : Nat))) b → G.Own s w b ∨ V.heap.size ≤ b) := Lib.hid fun b h => HOW.out b (HG.out.ownS s1 wr n8 k _ b hI (Nat.le_trans HHW.out.size HBD.out.2.2.1) hnx8 h)
        have hVs2 : V.heap.size ≤ (wr.setCell ⟨n8, k, none⟩ (.int .i64 (x : Nat))).heap.size := Nat.le_trans hVs hsz
        clear hI r8 x0 lu c8 f8 l8 hst hsz hnx8 HS HW0 hVs HOW
        generalize wr.setCell ⟨n8, k, none⟩ (.int .i64 (x : Nat)) = Y at r8n r6 r7 hI2 HS2 HO2 hVs2 ⊢
        obtain ⟨t2, ht2⟩ : ∃ r, r = t.set k (x : Nat) := ⟨_, rfl⟩
        rw [← ht2] at r8n
        have r8 := r8n
        clear r8n
        have HT2 := Lib.hid ht2
        clear ht2
        have HOC := Lib.hid (HG.out.callO s1 Y t2 (k + 1) hI2 (by rw [List.length_map]; omega))
        unfold S4.v at HOC
        have eo : ∀ args w, (callFunc G.fo args).run Try.prog w = .ok (.enter G.fo args) w := HG.out.eo
        have hstep := loopF_drop (f := F) HX.out s1
        have b0 : Y.cell? ⟨n6, 0, none⟩ = some (.slice (some ⟨bn, offn, none⟩) es.length cn) := r6.c 0 _ rfl
        have b1 : Y.cell? ⟨n6, 1, none⟩ = some (.map (some gm)) := r6.c 1 _ rfl
        have d0 : Y.cell? ⟨n7, 0, none⟩ = some (.int .i64 f.a) := r7.c 0 _ rfl
        have d1 : Y.cell? ⟨n7, 1, none⟩ = some (.int .i64 f.b) := r7.c 1 _ rfl
        have d2 : Y.cell? ⟨n7, 2, none⟩ = some (.int .i64 f.c) := r7.c 2 _ rfl
        have d3 : Y.cell? ⟨n7, 3, none⟩ = some (.int .i64 f.d) := r7.c 3 _ rfl
        have e0 : Y.cell? ⟨n8, 0, none⟩ = some (.int .i64 t2.a) := r8.c 0 _ rfl
        have e1 : Y.cell? ⟨n8, 1, none⟩ = some (.int .i64 t2.b) := r8.c 1 _ rfl
        have e2 : Y.cell? ⟨n8, 2, none⟩ = some (.int .i64 t2.c) := r8.c 2 _ rfl
        have e3 : Y.cell? ⟨n8, 3, none⟩ = some (.int .i64 t2.d) := r8.c 3 _ rfl
        have l6 := r6.lt
        have l7 := r7.lt
        have l8 := r8.lt
        go_wp2_with fail
        refine HOC.out.mono ?_
        rintro e9 X2 ⟨rfl, hb⟩
        clear b0 b1 d0 d1 d2 d3 e0 e1 e2 e3 l6 l7 l8
        replace r6 := r6.keep hb
        replace r7 := r7.keep hb
        replace r8 := r8.keep hb
        have hI3 := HG.out.keep s1 Y X2 hI2 hb
        have HS3 := Lib.hid (HS2.out.trans (Stp.of_below (fun b => HG.out.ownB s1 Y X2 b hI2 hb) hb))
        have HO3 : Hid (∀ b, G.Own s1 X2 b → G.Own s w b ∨ V.heap.size ≤ b) := Lib.hid fun b h => HO2.out b (HG.out.ownB s1 Y X2 b hI2 hb h)
        have hVs3 := Nat.le_trans hVs2 hb.size
        clear hb hI2 HS2 HO2 hVs2 eo HOC
        have b0 : X2.cell? ⟨n6, 0, none⟩ = some (.slice (some ⟨bn, offn, none⟩) es.length cn) := r6.c 0 _ rfl
        have b1 : X2.cell? ⟨n6, 1, none⟩ = some (.map (some gm)) := r6.c 1 _ rfl
        have d0 : X2.cell? ⟨n7, 0, none⟩ = some (.int .i64 f.a) := r7.c 0 _ rfl
        have d1 : X2.cell? ⟨n7, 1, none⟩ = some (.int .i64 f.b) := r7.c 1 _ rfl
        have d2 : X2.cell? ⟨n7, 2, none⟩ = some (.int .i64 f.c) := r7.c 2 _ rfl
        have d3 : X2.cell? ⟨n7, 3, none⟩ = some (.int .i64 f.d) := r7.c 3 _ rfl
        have e0 : X2.cell? ⟨n8, 0, none⟩ = some (.int .i64 t2.a) := r8.c 0 _ rfl
        have e1 : X2.cell? ⟨n8, 1, none⟩ = some (.int .i64 t2.b) := r8.c 1 _ rfl
        have e2 : X2.cell? ⟨n8, 2, none⟩ = some (.int .i64 t2.c) := r8.c 2 _ rfl
        have e3 : X2.cell? ⟨n8, 3, none⟩ = some (.int .i64 t2.d) := r8.c 3 _ rfl
        have l6 := r6.lt
        have l7 := r7.lt
        have l8 := r8.lt
        cases hop : G.op s1 t2 (k + 1) with
        | false =>
          go_wp2_with fail
          clear b0 b1 d0 d1 d2 d3 e0 e1 e2 e3 l6 l7 l8
          have hFx : F x s1 = (false, s1) := by rw [HF.out]; show (if _ then _ else _) = _; rw [← HT2.out, if_neg (by simp [hop])]
          have hnext := HLP.out.trans hstep
          rw [hFx] at hnext
          have HN := Lib.hid hnext
          have HRR := Lib.hid (HG.out.mono _ (c + (lv.length - (j + 1)) * L ^ d) s1 HR1.out (Nat.add_le_add_left (Nat.mul_le_mul_right _ (by omega)) _))
          clear hnext hFx hstep
          go_wp2_with fail
          go_roundw
          case rel => exact ⟨j + 1, s1, t2, by simp, by omega, HS3.out, HO3.out, hVs3, hI3, HRR.out, r6, r7, r8, fun y => by rw [HT2.out]; exact S4.set_set t k _ y, HN.out⟩
          case measure => simp [intOf]; omega
        | true =>
          have hInto := InTo.set (G := G) HT.out (by omega) (x := x) (by rw [HNX.out]; exact List.mem_of_getElem? HX.out)
          rw [← HT2.out] at hInto
          have HIN := Lib.hid hInto
          have hB0 := HS3.out.ck HHW.out HCL.out HO.out
          have hfc := free_any (some ⟨bn, offn, none⟩) es.length cn gm l f t2 k a (fun i => (t2.get i).toNat) X2 (by omega) (fun i hi => HAI.out i (by omega)) (fun i hi => InTo.nat hInto i (by omega)) (HC0.out.map.keepN (hB0.block gm (.inr (.inl rfl)))) HV.out
          unfold S4.v at hfc
          have HFC := Lib.hid hfc
          have HOP := Lib.hid hop
          clear hInto hB0 hfc hop
          go_wp2_with fail
          refine HFC.out.mono ?_
          rintro e9 X3 ⟨rfl, hb⟩
          clear b0 b1 d0 d1 d2 d3 e0 e1 e2 e3 l6 l7 l8
          replace r6 := r6.keep hb
          replace r7 := r7.keep hb
          replace r8 := r8.keep hb
          have hI4 := HG.out.keep s1 X2 X3 hI3 hb
          have HS4 := Lib.hid (HS3.out.trans (Stp.of_below (fun b => HG.out.ownB s1 X2 X3 b hI3 hb) hb))
          have HO4 : Hid (∀ b, G.Own s1 X3 b → G.Own s w b ∨ V.heap.size ≤ b) := Lib.hid fun b h => HO3.out b (HG.out.ownB s1 X2 X3 b hI3 hb h)
          have hVs4 := Nat.le_trans hVs3 hb.size
          clear hb hI3 HS3 HO3 hVs3 HFC
          have b0 : X3.cell? ⟨n6, 0, none⟩ = some (.slice (some ⟨bn, offn, none⟩) es.length cn) := r6.c 0 _ rfl
          have b1 : X3.cell? ⟨n6, 1, none⟩ = some (.map (some gm)) := r6.c 1 _ rfl
          have d0 : X3.cell? ⟨n7, 0, none⟩ = some (.int .i64 f.a) := r7.c 0 _ rfl
          have d1 : X3.cell? ⟨n7, 1, none⟩ = some (.int .i64 f.b) := r7.c 1 _ rfl
          have d2 : X3.cell? ⟨n7, 2, none⟩ = some (.int .i64 f.c) := r7.c 2 _ rfl
          have d3 : X3.cell? ⟨n7, 3, none⟩ = some (.int .i64 f.d) := r7.c 3 _ rfl
          have e0 : X3.cell? ⟨n8, 0, none⟩ = some (.int .i64 t2.a) := r8.c 0 _ rfl
          have e1 : X3.cell? ⟨n8, 1, none⟩ = some (.int .i64 t2.b) := r8.c 1 _ rfl
          have e2 : X3.cell? ⟨n8, 2, none⟩ = some (.int .i64 t2.c) := r8.c 2 _ rfl
          have e3 : X3.cell? ⟨n8, 3, none⟩ = some (.int .i64 t2.d) := r8.c 3 _ rfl
          have l6 := r6.lt
          have l7 := r7.lt
          have l8 := r8.lt
          cases hfr : freeB l a (fun i => (t2.get i).toNat) k with
          | false =>
            have HFR := Lib.hid hfr
            clear hfr
            go_wp2_with fail
            clear b0 b1 d0 d1 d2 d3 e0 e1 e2 e3 l6 l7 l8
            have hFx : F x s1 = (false, s1) := by rw [HF.out]; show (if _ then _ else _) = _; rw [← HT2.out, if_neg (by simp [(show frB l a t2 k = false from HFR.out)])]
            have hnext := HLP.out.trans hstep
            rw [hFx] at hnext
            have HN := Lib.hid hnext
            have HRR := Lib.hid (HG.out.mono _ (c + (lv.length - (j + 1)) * L ^ d) s1 HR1.out (Nat.add_le_add_left (Nat.mul_le_mul_right _ (by omega)) _))
            clear hnext hFx hstep
            go_wp2_with fail
            go_roundw
            case rel => exact ⟨j + 1, s1, t2, by simp, by omega, HS4.out, HO4.out, hVs4, hI4, HRR.out, r6, r7, r8, fun y => by rw [HT2.out]; exact S4.set_set t k _ y, HN.out⟩
            case measure => simp [intOf]; omega
          | true =>
            have HFR := Lib.hid hfr
            clear hfr
            have hB0 := HS4.out.ck HHW.out HCL.out HO.out
            have HSO := Lib.hid hB0.size
            have hrec := HIH.out (k + 1) t2 s1 (c + (lv.length - (j + 1)) * L ^ d) X3 (by omega) hB0 hI4 (fun b h => by
              rcases HO4.out b h with h1 | h1
              · exact HO.out b h1
              · intro hu; have := HCL.out b hu; have := HBV.out.size; have := HHW.out.size; omega) (by
              have := HR1.out
              rw [show lv.length - j = (lv.length - (j + 1)) + 1 by omega, Nat.succ_mul, ← Nat.add_assoc] at this
              exact this) HIN.out (fun h0 => by rw [← HOP.out]; congr 1; omega)
            have hFx : F x s1 = expF (es.map NxE.ls) (frB l a) G.op G.vi a d (k + 1) t2 s1 := by rw [HF.out]; show (if _ then _ else _) = _; rw [← HT2.out, if_pos (by rw [HOP.out, show frB l a t2 k = true from HFR.out]; rfl)]
            generalize expF (es.map NxE.ls) (frB l a) G.op G.vi a d (k + 1) t2 s1 = r at hrec hFx
            have hnext := HLP.out.trans hstep
            rw [hFx] at hnext
            have HN := Lib.hid hnext
            unfold S4.v at hrec
            have HREC := Lib.hid hrec
            clear hrec hFx hnext hstep hB0
            go_wp2_with fail
            refine HREC.out.mono ?_
            rintro e9 X5 ⟨rfl, hS5, hI5, hR5⟩
            obtain ⟨rb, rs⟩ := r
            have hq : ∀ n, w.heap.size ≤ n → n < V.heap.size → ¬ G.Own s1 X3 n := fun n h1 h2 => HNO.out n h1 h2 s1 X3 HO4.out
            replace r6 := hS5.blk r6 (hq n6 HBD.out.1 HL6.out)
            replace r7 := hS5.blk r7 (hq n7 HBD.out.2.1 HL7.out)
            replace r8 := hS5.blk r8 (hq n8 HBD.out.2.2.1 HL8.out)
            have HS5 := Lib.hid (HS4.out.trans hS5)
            have hOw5 : ∀ b, G.Own rs X5 b → G.Own s w b ∨ V.heap.size ≤ b := fun b h => by
              rcases hS5.own b h with h1 | h1
              · exact HO4.out b h1
              · exact .inr (by omega)
            have HOW5 := Lib.hid hOw5
            have hVs5 := Nat.le_trans hVs4 hS5.size
            have HI5 := Lib.hid hI5
            have HR5 := Lib.hid hR5
            clear b0 b1 d0 d1 d2 d3 e0 e1 e2 e3 l6 l7 l8
            clear hq hS5 hOw5 hI4 HS4 HO4 hVs4 hI5 hR5 HREC
            cases rb with
            | false =>
              go_wp2_with fail
              go_roundw
              case rel => exact ⟨j + 1, rs, t2, by simp, by omega, HS5.out, HOW5.out, hVs5, HI5.out, HR5.out, r6, r7, r8, fun y => by rw [HT2.out]; exact S4.set_set t k _ y, HN.out⟩
              case measure => simp [intOf]; omega
            | true =>
              clear r6 r7 r8
              go_wp2
              go_ret
              have hn := HN.out
              simp only [if_true] at hn
              rw [hn]
              exact ⟨rfl, HS5.out, HI5.out, HG.out.mono _ _ _ HR5.out (Nat.le_add_right _ _)⟩
      · have hje : j = lv.length := by omega
        clear r6 r7 r8
        have hn := HLP.out
        rw [hje, List.drop_length] at hn
        have hr := HR1.out
        rw [hje, Nat.sub_self, Nat.zero_mul] at hr
        have HN := Lib.hid hn
        have HS := Lib.hid hS
        have HR := Lib.hid hr
        clear hn hr hS
        go_wp2
        go_ret
        rw [HN.out]
        exact ⟨rfl, HS.out, hI, HR.out⟩
end Go.Proofs.Jn
end

