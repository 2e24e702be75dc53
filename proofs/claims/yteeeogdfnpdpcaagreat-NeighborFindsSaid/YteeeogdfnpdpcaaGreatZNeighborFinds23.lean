/-
  Texts put together: Ci Cj.
-/
import Derived.Test.YteeeogdfnpdpcaaGreatZNeighborFinds22
import Derived.Test.YteeeogdfnpdpcaaGreatZNeighborFinds19
set_option linter.unusedVariables false
section
/-
  Walks: the reference's ValidTree.
-/
namespace Go.Proofs.Ng
open Go.RowKit

theorem kdno {pts : List (List Int)} {t : List Nd} (h : ¬ KdS (dimP pts) t) : ¬ KdOk pts t := fun k => h k.2.2.1
/-- Two new rows, whatever the order of their making. -/
theorem two_made (W : World) (la lb : List Value) (s t : TypeId) : Two W (((W.alloc (.cells la.toArray s)).alloc (.cells lb.toArray t)).drew) W.heap.size (W.heap.size + 1) la lb ∧ Two W (((W.alloc (.cells lb.toArray t)).alloc (.cells la.toArray s)).drew) (W.heap.size + 1) W.heap.size la lb := by
  obtain ⟨a1, a2, a3⟩ := blks2 W la lb s t
  obtain ⟨b1, b2, b3⟩ := blks2 W lb la t s
  have k : ∀ X : World, Below X.heap.size X X.drew := fun X => (Below.refl _ _).drew
  exact ⟨⟨a1.keep (k _), a2.keep (k _), a3.drew, by omega, Nat.le_refl _, by omega⟩, ⟨b2.keep (k _), b1.keep (k _), b3.drew, by omega, by omega, Nat.le_refl _⟩⟩
set_option maxRecDepth 100000 in
set_option maxHeartbeats 8000000 in
theorem validTree14 (oa ot : Option Addr) (ca ct : Nat) (pts : List (List Int)) (t : List Nd) (w : World) (hP : Pts w oa pts) (hT : Sl w ot 4 (t.map Nd.vals)) (htl0 : t.length ≤ 100000) (hpl0 : pts.length ≤ 100000) :
    Calls Tryz.prog 78 #[.slice oa pts.length ca, .slice ot t.length ct] w (VerP (KdOk pts t) w) := by
  have h30 := validPoints30 oa ca pts w hP
  cases hv : vpB pts with
  | false =>
    rw [hv] at h30
    have HNO : Hid (¬ KdOk pts t) := Lib.hid (fun h => by have := h.1; rw [hv] at this; cases this)
    have H30 := Lib.hid h30
    clear h30 hv hP hT
    go_enter Tryz.func78, Tryz.ntmps78
    go_wp2_with fail
    with_reducible refine H30.out.mono ?_
    rintro e W2 ⟨rfl, q, rfl⟩
    go_wp2_with fail
    go_ret
    exact verP_no HNO.out (below_drew w q)
  | true =>
    rw [hv] at h30
    by_cases hl : t.length = pts.length
    · have hd0 : ((t.length : Int) != (pts.length : Int)) = false := by simp [hl]
      obtain ⟨hp1024, hdim⟩ := vp_dim hv
      have htl : t.length ≤ 1024 := by omega
      have HPP := Lib.hid hP
      have HTr := Lib.hid hT
      have HD := Lib.hid hdim
      have HL := Lib.hid hl
      have HV := Lib.hid hv
      have H30 := Lib.hid h30
      clear h30 hl hP hT hdim hv htl0 hpl0
      go_enter Tryz.func78, Tryz.ntmps78
      go_wp2_with fail
      with_reducible refine H30.out.mono ?_
      rintro e W1 ⟨rfl, q, rfl⟩
      have hB1 := below_drew w q
      generalize w.drewN q = W1 at hB1 ⊢
      have hmk1 := run_make44 t.length (by omega)
      have hmk2 := run_make24 t.length (by omega)
      go_upto_region 4 with fail
      clear H30
      go_cut [6, 7] (fun y z X => ∃ gU gC, y = .slice (some ⟨gU, 0, none⟩) t.length t.length ∧ z = .slice (some ⟨gC, 0, none⟩) t.length t.length ∧ Two W1 X gC gU (pflat (List.replicate t.length 0)) (bls (List.replicate t.length false)))
      case first =>
        go_region
        all_goals
          go_wp2_with fail
          go_meet
          first
            | exact ⟨_, _, rfl, rfl, (two_made W1 _ _ 3 4).1⟩
            | exact ⟨_, _, rfl, rfl, (two_made W1 _ _ 3 4).2⟩
      case rest =>
        clear hmk1 hmk2
        obtain ⟨gU, gC, rfl, rfl, hT2⟩ := hcut
        have hT2 : Two w wc gC gU (pflat (List.replicate t.length 0)) (bls (List.replicate t.length false)) := ⟨hT2.a, hT2.b, below_call hB1 hT2.bel, hT2.ne, Nat.le_trans hB1.size hT2.lg, Nat.le_trans hB1.size hT2.lh⟩
        clear hB1
        go_wp2_with fail
        go_loopw [8] (fun i W => ∃ (k : Nat) (us : List Bool) (cn : List Int), i = .int .i64 (k : Nat) ∧ k ≤ t.length ∧ Two w W gC gU (pflat cn) (bls us) ∧ RefI (dimP pts) t k us cn) (fun i _ => t.length - (intOf i).toNat)
        case atStart => exact ⟨0, _, _, rfl, Nat.zero_le _, hT2, RefI.start _ t⟩
        case round =>
          clear hT2
          obtain ⟨k, us, cn, rfl, hk, hT2, hI⟩ := hrel
          obtain ⟨Wb, rfl⟩ : ∃ X, X = wr := ⟨_, rfl⟩
          by_cases hlt : k < t.length
          · obtain ⟨x, hx⟩ : ∃ x, t[k]? = some x := ⟨_, List.getElem?_eq_getElem hlt⟩
            obtain ⟨xp, xa, xl, xh⟩ := x
            obtain ⟨bt, offt, rfl, hTr⟩ := HTr.out (map_ne hlt)
            have hTr2 := hTr.keep hT2.bel
            have x0 : Wb.cell? ⟨bt, offt + k * 4, none⟩ = some (.int .i64 xp) := hTr2.c k _ (map_get hx) 0 _ rfl
            have x1 : Wb.cell? ⟨bt, offt + k * 4 + 1, none⟩ = some (.int .i64 xa) := hTr2.c k _ (map_get hx) 1 _ rfl
            have x2 : Wb.cell? ⟨bt, offt + k * 4 + 2, none⟩ = some (.int .i64 xl) := hTr2.c k _ (map_get hx) 2 _ rfl
            have x3 : Wb.cell? ⟨bt, offt + k * 4 + 3, none⟩ = some (.int .i64 xh) := hTr2.c k _ (map_get hx) 3 _ rfl
            have lt0 := hTr2.lt
            have hgA := hT2.a.lt
            have hgU := hT2.b.lt
            have HX := Lib.hid hx
            have HI := Lib.hid hI
            clear hTr hTr2 hx hI
            go_upto_region 9 with fail
            clear x0 x1 x2 x3 lt0
            have hbx_ := blks1 Wb [.int .i64 xp, .int .i64 xa, .int .i64 xl, .int .i64 xh] 57
            replace hT2 := hT2.keep hbx_.2
            have hod : Wb.heap.size ≤ Wb.heap.size := by omega
            generalize Wb.alloc (.cells #[.int .i64 xp, .int .i64 xa, .int .i64 xl, .int .i64 xh] 57) = W3 at hbx_ hT2 ⊢
            obtain ⟨r8, hbel_⟩ := hbx_
            obtain ⟨n8, hn_⟩ : ∃ n, n = Wb.heap.size := ⟨_, rfl⟩
            rw [← hn_] at r8 ⊢
            replace hod := Nat.le_of_eq hn_.symm
            clear hn_
            have HO : Hid (gC < n8 ∧ gU < n8) := Lib.hid (by omega)
            clear hgA hgU hod
            have y0 : W3.cell? ⟨n8, 0, none⟩ = some (.int .i64 xp) := r8.c 0 _ rfl
            have y1 : W3.cell? ⟨n8, 1, none⟩ = some (.int .i64 xa) := r8.c 1 _ rfl
            have y2 : W3.cell? ⟨n8, 2, none⟩ = some (.int .i64 xl) := r8.c 2 _ rfl
            have y3 : W3.cell? ⟨n8, 3, none⟩ = some (.int .i64 xh) := r8.c 3 _ rfl
            have ly := r8.lt
            obtain ⟨c0, hc0⟩ : ∃ c, pts[0]? = some c := ⟨_, List.getElem?_eq_getElem (by have := HL.out; omega)⟩
            have hcd := HD.out c0 (List.mem_of_getElem? hc0)
            have hp0 : 0 < pts.length := by have := HL.out; omega
            obtain ⟨bp, offp, oc, cc, hoa, q0, lbp, -⟩ := (HPP.out.keep hT2.bel).get hc0
            rw [hcd.1, Nat.add_zero] at q0
            have HR8 := Lib.hid r8
            have HT2 := Lib.hid hT2
            clear r8 hT2 hc0
            subst hoa
            by_cases a0 : xp < 0
            · have d0 : decide (xp < 0) = true := decide_eq_true a0
              have HS := Lib.hid (kdno (pts := pts) (kd_bad HX.out (fun ho => by have := ho.p0; simp only at this; omega)))
              clear a0
              go_quiet (fail)
              have HB4 := Lib.hid (below_call HT2.out.bel (below_drew W3 nq))
              clear HT2
              go_wp2_with fail
              go_ret
              exact verP_no HS.out HB4.out
            · have d0 : decide (xp < 0) = false := decide_eq_false a0
              obtain ⟨p, rfl⟩ : ∃ p : Nat, xp = (p : Nat) := ⟨xp.toNat, by omega⟩
              by_cases a1 : t.length ≤ p
              · have d1 : decide ((t.length : Int) ≤ (p : Int)) = true := decide_eq_true (by omega)
                have d1' : decide (t.length ≤ p) = true := decide_eq_true a1
                have HS := Lib.hid (kdno (pts := pts) (kd_bad HX.out (fun ho => by have := ho.p1; simp only at this; omega)))
                clear a0 a1
                go_quiet (fail)
                have HB4 := Lib.hid (below_call HT2.out.bel (below_drew W3 nq))
                clear HT2
                go_wp2_with fail
                go_ret
                exact verP_no HS.out HB4.out
              · have d1 : decide ((t.length : Int) ≤ (p : Int)) = false := decide_eq_false (by omega)
                have d1' : decide (t.length ≤ p) = false := decide_eq_false a1
                have hpl : p < t.length := by omega
                obtain ⟨u, hu⟩ : ∃ u, us[p]? = some u := ⟨_, List.getElem?_eq_getElem (by rw [HI.out.lu]; exact hpl)⟩
                have z0 : W3.cell? ⟨gU, p, none⟩ = some (.bool u) := HT2.out.b.c p _ (bls_get hu)
                have lz := HT2.out.b.lt
                have HU := Lib.hid hu
                clear hu a0 a1
                cases u with
                | true =>
                  have HS := Lib.hid (kdno (HI.out.used HX.out (p := p) rfl HU.out))
                  go_quiet (fail)
                  have HB4 := Lib.hid (below_call HT2.out.bel (below_drew W3 nq))
                  clear HT2
                  go_wp2_with fail
                  go_ret
                  exact verP_no HS.out HB4.out
                | false =>
                  by_cases a0 : xa < 0
                  · have d2 : decide (xa < 0) = true := decide_eq_true a0
                    have HS := Lib.hid (kdno (pts := pts) (kd_bad HX.out (fun ho => by have := ho.a0; simp only at this; omega)))
                    clear a0
                    go_quiet (fail)
                    have HB4 := Lib.hid (below_call HT2.out.bel (below_drew W3 nq))
                    clear HT2
                    go_wp2_with fail
                    go_ret
                    exact verP_no HS.out HB4.out
                  · have d2 : decide (xa < 0) = false := decide_eq_false a0
                    by_cases a1 : (dimP pts : Int) ≤ xa
                    · have d3 : decide ((dimP pts : Int) ≤ xa) = true := decide_eq_true a1
                      have HS := Lib.hid (kdno (pts := pts) (kd_bad HX.out (fun ho => by have := ho.a1; simp only at this; omega)))
                      clear a0 a1
                      go_quiet (fail)
                      have HB4 := Lib.hid (below_call HT2.out.bel (below_drew W3 nq))
                      clear HT2
                      go_wp2_with fail
                      go_ret
                      exact verP_no HS.out HB4.out
                    · have d3 : decide ((dimP pts : Int) ≤ xa) = false := decide_eq_false a1
                      have HA := Lib.hid (And.intro a0 a1)
                      clear a0 a1
                      go_quiet (fail)
                      have hT3 := HT2.out.keep (below_drew W3 nq)
                      have r8 := HR8.out.keep (below_drew W3 nq)
                      clear y0 y1 y2 y3 ly q0 lbp HT2 HR8 z0 lz
                      generalize W3.drewN nq = W4 at hT3 r8 ⊢
                      have y0 : W4.cell? ⟨n8, 0, none⟩ = some (.int .i64 (p : Nat)) := r8.c 0 _ rfl
                      have y2 : W4.cell? ⟨n8, 2, none⟩ = some (.int .i64 xl) := r8.c 2 _ rfl
                      have y3 : W4.cell? ⟨n8, 3, none⟩ = some (.int .i64 xh) := r8.c 3 _ rfl
                      have ly := r8.lt
                      have z0 : W4.cell? ⟨gU, p, none⟩ = some (.bool false) := hT3.b.c p _ (bls_get HU.out)
                      have lz := hT3.b.lt
                      have fz := hT3.b.f p
                      have hT4 := hT3.putB p (.bool true)
                      rw [bls_set] at hT4
                      have r9 := r8.keepG (grown_set W4 gU p (.bool true)) (by have := HO.out; omega)
                      have HT4 := Lib.hid hT4
                      have HR9 := Lib.hid r9
                      clear hT3 hT4 r8 r9
                      go_upto_region 12 with fail
                      clear y0 y2 y3 ly z0 lz fz
                      have hT5 := HT4.out
                      have r8 := HR9.out
                      clear HT4 HR9
                      generalize W4.setCell ⟨gU, p, none⟩ (.bool true) = W5 at hT5 r8 ⊢
                      have y2 : W5.cell? ⟨n8, 2, none⟩ = some (.int .i64 xl) := r8.c 2 _ rfl
                      have y3 : W5.cell? ⟨n8, 3, none⟩ = some (.int .i64 xh) := r8.c 3 _ rfl
                      have ly := r8.lt
                      have hgA := hT5.a.lt
                      have hgU := hT5.b.lt
                      have HR10 := Lib.hid r8
                      have HT4 := Lib.hid hT5
                      clear r8 hT5
                      go_wp2_with fail
                      clear y2 y3 ly
                      have hbx_ := blks1 W5 [.int .i64 xl, .int .i64 xh] 3
                      replace HT4 := Lib.hid (HT4.out.keep hbx_.2)
                      replace HR10 := Lib.hid (HR10.out.keep hbx_.2)
                      have hod : W5.heap.size ≤ W5.heap.size := by omega
                      generalize W5.alloc (.cells #[.int .i64 xl, .int .i64 xh] 3) = W6 at hbx_ HT4 HR10 ⊢
                      obtain ⟨r11, hbel_⟩ := hbx_
                      obtain ⟨n11, hn_⟩ : ∃ n, n = W5.heap.size := ⟨_, rfl⟩
                      rw [← hn_] at r11 ⊢
                      replace hod := Nat.le_of_eq hn_.symm
                      clear hn_
                      have HN : Hid (gC < n11 ∧ gU < n11) := Lib.hid (by omega)
                      have hT5 := HT4.out
                      have r10 := HR10.out
                      clear hgA hgU hod HT4 HR10
                      go_loopw [84] (fun i W => ∃ c : Nat, i = .int .i64 (c : Nat) ∧ c ≤ 2 ∧ Two w W gC gU (pflat (cnK cn [xl, xh] c)) (bls (us.set p true)) ∧ Blk W n8 [.int .i64 (p : Nat), .int .i64 xa, .int .i64 xl, .int .i64 xh] ∧ Blk W n11 [.int .i64 xl, .int .i64 xh] ∧ ChR t.length k [xl, xh] c) (fun i _ => 2 - (intOf i).toNat)
                      case atStart => exact ⟨0, rfl, Nat.zero_le _, hT5, r10, r11, fun j c h => absurd h (Nat.not_lt_zero _)⟩
                      case round =>
                        clear hT5 r10 r11 hbel_ W6
                        obtain ⟨c, rfl, hc2, hT5, r10, r11, hch⟩ := hrel
                        obtain ⟨Wc, rfl⟩ : ∃ X, X = wr := ⟨_, rfl⟩
                        have HC := Lib.hid hch
                        have l11 := r11.lt
                        have lgA := hT5.a.lt
                        by_cases hlc : c < 2
                        · obtain ⟨ch, hcc⟩ : ∃ ch, [xl, xh][c]? = some ch := ⟨_, List.getElem?_eq_getElem (by simpa using hlc)⟩
                          have z0 : Wc.cell? ⟨n11, c, none⟩ = some (.int .i64 ch) := r11.c c _ (by have := pfl_get hcc; exact this)
                          have HCC := Lib.hid hcc
                          have HR10 := Lib.hid r10
                          have HR11 := Lib.hid r11
                          have HT5 := Lib.hid hT5
                          clear hcc r10 r11 hT5 hch
                          by_cases e1 : ch = -1
                          · have d5 : (ch != -1) = false := by simp [e1]
                            have HNX := Lib.hid (HC.out.next HCC.out (.inl e1))
                            have HAB := Lib.hid (cnK_succ (cn := cn) HCC.out)
                            have HE1 := Lib.hid e1
                            clear e1
                            go_wp2_with fail
                            go_roundw
                            case rel => exact ⟨c + 1, by simp, by omega, by rw [HAB.out, cn1, if_pos HE1.out]; exact HT5.out, HR10.out, HR11.out, HNX.out⟩
                            case measure => simp [intOf]; omega
                          · have d5 : (ch != -1) = true := by simp [e1]
                            by_cases e2 : ch ≤ (k : Int)
                            · have d6 : decide (ch ≤ (k : Int)) = true := decide_eq_true e2
                              have HS := Lib.hid (kdno (pts := pts) (child_out HX.out HCC.out (fun h => by unfold inR at h; omega)))
                              clear e1 e2
                              go_wp2_with fail
                              go_ret
                              exact verP_no HS.out HT5.out.bel
                            · have d6 : decide (ch ≤ (k : Int)) = false := decide_eq_false e2
                              by_cases e3 : (t.length : Int) ≤ ch
                              · have d7 : decide ((t.length : Int) ≤ ch) = true := decide_eq_true e3
                                have HS := Lib.hid (kdno (pts := pts) (child_out HX.out HCC.out (fun h => by unfold inR at h; omega)))
                                clear e1 e2 e3
                                go_wp2_with fail
                                go_ret
                                exact verP_no HS.out HT5.out.bel
                              · have d7 : decide ((t.length : Int) ≤ ch) = false := decide_eq_false e3
                                have HR := Lib.hid (show inR k t.length ch from .inr ⟨by omega, by omega⟩)
                                obtain ⟨q, rfl⟩ : ∃ q : Nat, ch = (q : Nat) := ⟨ch.toNat, by omega⟩
                                have hql : q < t.length := by omega
                                have d6' : decide (q ≤ k) = false := decide_eq_false (by omega)
                                have d7' : decide (t.length ≤ q) = false := decide_eq_false (by omega)
                                obtain ⟨v, hv⟩ : ∃ v, (cnK cn [xl, xh] c)[q]? = some v := ⟨_, List.getElem?_eq_getElem (by rw [cnK_len, HI.out.lc]; exact hql)⟩
                                have z1 : Wc.cell? ⟨gC, q, none⟩ = some (.int .i64 v) := HT5.out.a.c q _ (pfl_get hv)
                                have hvb := cnK_le (ch := [xl, xh]) _ HI.out.small c hc2 q v hv
                                have hvw : IntKind.i64.wrap (v + 1) = v + 1 := IntWalk.i64_in _ (by omega)
                                have f1 := HT5.out.a.f q
                                have HNX := Lib.hid (HC.out.next HCC.out HR.out)
                                have hab := cnK_succ (cn := cn) HCC.out
                                rw [cn1, if_neg e1, Int.toNat_natCast, hv, Option.getD_some] at hab
                                have HAB := Lib.hid hab
                                have hT6 := HT5.out.putA q (.int .i64 (v + 1))
                                rw [pfl_set] at hT6
                                have HT6 := Lib.hid hT6
                                have HR12 := Lib.hid (HR10.out.keepG (grown_set Wc gC q (.int .i64 (v + 1))) (by have := HO.out; omega))
                                have HR13 := Lib.hid (HR11.out.keepG (grown_set Wc gC q (.int .i64 (v + 1))) (by have := HN.out; omega))
                                clear hv e1 e2 e3 hab hT6 hvb
                                go_wp2_with fail
                                go_roundw
                                case rel => exact ⟨c + 1, by simp, by omega, by rw [HAB.out]; exact HT6.out, HR12.out, HR13.out, HNX.out⟩
                                case measure => simp [intOf]; omega
                        · have hce : c = 2 := by omega
                          subst hce
                          rw [cnK_two] at hT5
                          have h0l := hch 0 xl (by omega) rfl
                          have h1l := hch 1 xh (by omega) rfl
                          have hno : NdOk t.length (dimP pts) k ⟨(p : Nat), xa, xl, xh⟩ := ⟨by simp, by simp; omega, by have := HA.out; simp; omega, by have := HA.out; simp; omega, h0l, h1l⟩
                          have HNX := Lib.hid (HI.out.next HX.out hno (by simpa using HU.out))
                          have HT5 := Lib.hid hT5
                          clear h0l h1l hno hT5 hch r10 r11 HC
                          go_wp2_with fail
                          go_roundw
                          case rel => exact ⟨k + 1, _, _, by simp, by omega, HT5.out, HNX.out⟩
                          case measure => simp [intOf]; omega
          · have hke : k = t.length := by omega
            subst hke
            have HI := Lib.hid hI
            clear hI
            go_wp2_with fail
            go_loopw [12] (fun i W => ∃ c : Nat, i = .int .i64 (c : Nat) ∧ 1 ≤ c ∧ (c ≤ t.length ∨ c = 1) ∧ Two w W gC gU (pflat cn) (bls us) ∧ ∀ j, 1 ≤ j → j < c → cn[j]? = some 1) (fun i _ => t.length - (intOf i).toNat)
            case atStart => exact ⟨1, rfl, Nat.le_refl _, .inr rfl, hT2, fun j h1 h2 => by omega⟩
            case round =>
              clear hT2
              obtain ⟨c, rfl, hc1, hc2, hT2, hone⟩ := hrel
              obtain ⟨Wc, rfl⟩ : ∃ X, X = wr := ⟨_, rfl⟩
              by_cases hlc : c < t.length
              · obtain ⟨v, hv⟩ : ∃ v, cn[c]? = some v := ⟨_, List.getElem?_eq_getElem (by rw [HI.out.lc]; exact hlc)⟩
                have z1 : Wc.cell? ⟨gC, c, none⟩ = some (.int .i64 v) := hT2.a.c c _ (pfl_get hv)
                have lz := hT2.a.lt
                have HT5 := Lib.hid hT2
                have HON := Lib.hid hone
                have HVV := Lib.hid hv
                clear hT2 hone hv
                by_cases e : v = 1
                · have d1 : (v != 1) = false := by simp [e]
                  have HN := Lib.hid (show ∀ j, 1 ≤ j → j < c + 1 → cn[j]? = some 1 from fun j h1 h2 => by
                    rcases Nat.lt_or_ge j c with h | h
                    · exact HON.out j h1 h
                    · have : j = c := by omega
                      subst this
                      rw [HVV.out, e])
                  clear e
                  go_wp2_with fail
                  go_roundw
                  case rel => exact ⟨c + 1, by simp, by omega, .inl (by omega), HT5.out, HN.out⟩
                  case measure => simp [intOf]; omega
                · have d1 : (v != 1) = true := by simp [e]
                  have HS := Lib.hid (kdno (pts := pts) (HI.out.not hc1 hlc HVV.out e))
                  clear e
                  go_wp2_with fail
                  go_ret
                  exact verP_no HS.out HT5.out.bel
              · have HK := Lib.hid (HI.out.fin (fun j h1 h2 => hone j h1 (by omega)))
                have HB := Lib.hid hT2.bel
                clear hT2 hone
                go_wp2_with fail
                clear HI
                go_loopw [13] (fun i W => ∃ k : Nat, i = .int .i64 (k : Nat) ∧ k ≤ t.length ∧ Below w.heap.size w W ∧ ∀ u, u < k → SideU pts t u) (fun i _ => t.length - (intOf i).toNat)
                case atStart => exact ⟨0, rfl, Nat.zero_le _, HB.out, fun j h => absurd h (Nat.not_lt_zero _)⟩
                case round =>
                  clear HB
                  obtain ⟨k, rfl, hk, hB, hdone⟩ := hrel
                  obtain ⟨Wb, rfl⟩ : ∃ X, X = wr := ⟨_, rfl⟩
                  have HDN := Lib.hid hdone
                  clear hdone
                  by_cases hlt : k < t.length
                  · obtain ⟨x, hx⟩ : ∃ x, t[k]? = some x := ⟨_, List.getElem?_eq_getElem hlt⟩
                    have hok := HK.out.ok k x hx
                    obtain ⟨xp, xa, xl, xh⟩ := x
                    obtain ⟨pu, rfl⟩ : ∃ q : Nat, xp = (q : Nat) := ⟨xp.toNat, by have := hok.p0; simp only at this; omega⟩
                    obtain ⟨a, rfl⟩ : ∃ q : Nat, xa = (q : Nat) := ⟨xa.toNat, by have := hok.a0; simp only at this; omega⟩
                    have hpu : pu < t.length := by have := hok.p1; simp only at this; omega
                    have hal : a < dimP pts := by have := hok.a1; simp only at this; omega
                    have hdp : dimP pts ≤ 10 := by
                      obtain ⟨c0, hc0⟩ : ∃ c, pts[0]? = some c := ⟨_, List.getElem?_eq_getElem (by have := HL.out; omega)⟩
                      exact (HD.out c0 (List.mem_of_getElem? hc0)).2.2
                    have hol := hok.lo
                    have hoh := hok.hi
                    simp only at hol hoh
                    unfold inR at hol hoh
                    have HSU := Lib.hid (sideU_iff (pts := pts) HK.out hx)
                    have hLl := belowI_len HK.out t.length xl (by omega) (by omega)
                    have hRl := belowI_len HK.out t.length xh (by omega) (by omega)
                    have HLP := Lib.hid (fun m p (hm : (belowI t t.length xl)[m]? = some p) => belowI_pt HK.out (f := t.length) (i := xl) (by omega) (by omega) hm)
                    have HRP := Lib.hid (fun m p (hm : (belowI t t.length xh)[m]? = some p) => belowI_pt HK.out (f := t.length) (i := xh) (by omega) (by omega) hm)
                    have HLO := Lib.hid (fun X hX => below35 (ct := ct) HTr.out HK.out.up htl (belowI_len HK.out) t.length xl X (by omega) (by omega) (by omega) hX)
                    have HHI := Lib.hid (fun X hX => below35 (ct := ct) HTr.out HK.out.up htl (belowI_len HK.out) t.length xh X (by omega) (by omega) (by omega) hX)
                    obtain ⟨bt, offt, rfl, hTr⟩ := HTr.out (map_ne hlt)
                    have hTr2 := hTr.keep hB
                    have x0 : Wb.cell? ⟨bt, offt + k * 4, none⟩ = some (.int .i64 (pu : Nat)) := hTr2.c k _ (map_get hx) 0 _ rfl
                    have x1 : Wb.cell? ⟨bt, offt + k * 4 + 1, none⟩ = some (.int .i64 (a : Nat)) := hTr2.c k _ (map_get hx) 1 _ rfl
                    have x2 : Wb.cell? ⟨bt, offt + k * 4 + 2, none⟩ = some (.int .i64 xl) := hTr2.c k _ (map_get hx) 2 _ rfl
                    have x3 : Wb.cell? ⟨bt, offt + k * 4 + 3, none⟩ = some (.int .i64 xh) := hTr2.c k _ (map_get hx) 3 _ rfl
                    have lt0 := hTr2.lt
                    generalize belowI t t.length xl = L at HSU hLl HLP HLO
                    generalize belowI t t.length xh = R at HSU hRl HRP HHI
                    have HBF := Lib.hid (fun (i j : Nat) (hi : i < t.length) (hj : j < t.length) X (hX : Below w.heap.size w X) => before36 oa ca pts a i j X (HPP.out.keep hX) (by have := HL.out; omega) (by have := HL.out; omega) (fun xs hx => by rw [(HD.out xs hx).1]; exact hal) (by omega) (by omega))
                    clear hTr hTr2 hx hok hol hoh
                    go_upto_region 29 with fail
                    clear x0 x1 x2 x3 lt0
                    have hbx_ := blks1 Wb [.int .i64 (pu : Nat), .int .i64 (a : Nat), .int .i64 xl, .int .i64 xh] 57
                    have HB3 := Lib.hid (below_call hB hbx_.2)
                    generalize Wb.alloc (.cells #[.int .i64 (pu : Nat), .int .i64 (a : Nat), .int .i64 xl, .int .i64 xh] 57) = W3 at hbx_ HB3 ⊢
                    obtain ⟨r8, hbel_⟩ := hbx_
                    obtain ⟨n8, hn_⟩ : ∃ n, n = Wb.heap.size := ⟨_, rfl⟩
                    rw [← hn_] at r8 ⊢
                    clear hn_ hbel_
                    have y2 : W3.cell? ⟨n8, 2, none⟩ = some (.int .i64 xl) := r8.c 2 _ rfl
                    have y3 : W3.cell? ⟨n8, 3, none⟩ = some (.int .i64 xh) := r8.c 3 _ rfl
                    have l8 := r8.lt
                    have hmk : ∀ Y, Below W3.heap.size W3 Y → Y.cell? ⟨n8, 2, none⟩ = some (.int .i64 xl) ∧ Y.cell? ⟨n8, 3, none⟩ = some (.int .i64 xh) ∧ Below W3.heap.size W3 Y := fun Y hY => ⟨(hY.cell (p := ⟨n8, 2, none⟩) l8).trans y2, (hY.cell (p := ⟨n8, 3, none⟩) l8).trans y3, hY⟩
                    have hS := hmk W3 (Below.refl _ _)
                    have HMK := Lib.hid hmk
                    have HR8 := Lib.hid r8
                    clear hmk y2 y3 r8 hB
                    go_cut [15, 16] (fun y z X => ∃ oL cL oR cR, y = .slice oL L.length cL ∧ z = .slice oR R.length cR ∧ Sl X oL 1 (pvals L) ∧ Sl X oR 1 (pvals R) ∧ Below W3.heap.size W3 X)
                    case first =>
                      go_region_held3 (fun Y => Y.cell? ⟨n8, 2, none⟩ = some (.int .i64 xl) ∧ Y.cell? ⟨n8, 3, none⟩ = some (.int .i64 xh) ∧ Below W3.heap.size W3 Y)
                        (first
                          | assumption
                          | exact HMK.out _ (by repeat (first | assumption | exact Below.refl _ _ | apply Below.drew | exact (by assumption : _ ∧ _ ∧ Below W3.heap.size W3 _).2.2)))
                        (first
                          | (have hxx := hSR
                             go_at_call 106
                             with_reducible refine (HLO.out _ (below_call HB3.out (by assumption : _ ∧ _ ∧ Below W3.heap.size W3 _).2.2)).mono ?_
                             rintro e Xa ⟨oL, cL, rfl, -, -, hSL, hb, -⟩
                             replace hSR := hSR.keep hb
                             replace hb := below_call (by assumption : _ ∧ _ ∧ Below W3.heap.size W3 _).2.2 hb
                             clear hxx)
                          | (go_at_call 106
                             with_reducible refine (HLO.out _ (below_call HB3.out (by assumption : _ ∧ _ ∧ Below W3.heap.size W3 _).2.2)).mono ?_
                             rintro e Xa ⟨oL, cL, rfl, -, -, hSL, hb, -⟩
                             replace hb := below_call (by assumption : _ ∧ _ ∧ Below W3.heap.size W3 _).2.2 hb)
                          | (have hxx := hSL
                             go_at_call 106
                             with_reducible refine (HHI.out _ (below_call HB3.out (by assumption : _ ∧ _ ∧ Below W3.heap.size W3 _).2.2)).mono ?_
                             rintro e Xa ⟨oR, cR, rfl, -, -, hSR, hb, -⟩
                             replace hSL := hSL.keep hb
                             replace hb := below_call (by assumption : _ ∧ _ ∧ Below W3.heap.size W3 _).2.2 hb
                             clear hxx)
                          | (go_at_call 106
                             with_reducible refine (HHI.out _ (below_call HB3.out (by assumption : _ ∧ _ ∧ Below W3.heap.size W3 _).2.2)).mono ?_
                             rintro e Xa ⟨oR, cR, rfl, -, -, hSR, hb, -⟩
                             replace hb := below_call (by assumption : _ ∧ _ ∧ Below W3.heap.size W3 _).2.2 hb))
                      all_goals
                        go_wp2_with fail
                        go_meet
                        exact ⟨oL, cL, oR, cR, rfl, rfl, hSL, hSR, hb⟩
                    case rest =>
                      clear l8 hS HMK HLO HHI
                      obtain ⟨oL, cL, oR, cR, rfl, rfl, hSL, hSR, hb⟩ := hcut
                      have r8 := HR8.out.keep hb
                      have hB := below_call HB3.out hb
                      clear HR8 HB3 hb
                      go_wp2_with fail
                      go_loopw [17] (fun i W => ∃ m : Nat, i = .int .i64 (m : Nat) ∧ m ≤ L.length ∧ Below w.heap.size w W ∧ Blk W n8 [.int .i64 (pu : Nat), .int .i64 (a : Nat), .int .i64 xl, .int .i64 xh] ∧ Sl W oL 1 (pvals L) ∧ Sl W oR 1 (pvals R) ∧ ∀ (j q : Nat), j < m → L[j]? = some ((q : Nat) : Int) → bef pts a q pu = true) (fun i _ => L.length - (intOf i).toNat)
                      case atStart => exact ⟨0, rfl, Nat.zero_le _, hB, r8, hSL, hSR, fun j q h => absurd h (Nat.not_lt_zero _)⟩
                      case round =>
                        clear hSL hSR r8 hB
                        obtain ⟨m, rfl, hm, hB, r8, hSL, hSR, hto⟩ := hrel
                        obtain ⟨Wd, rfl⟩ : ∃ X, X = wr := ⟨_, rfl⟩
                        have HTO := Lib.hid hto
                        clear hto
                        by_cases hlm : m < L.length
                        · obtain ⟨p, hp⟩ : ∃ p, L[m]? = some p := ⟨_, List.getElem?_eq_getElem hlm⟩
                          obtain ⟨q, rfl, hql⟩ := HLP.out m p hp
                          obtain ⟨bL, offL, rfl, z0, lL⟩ := pv_get hSL hp
                          have y0 : Wd.cell? ⟨n8, 0, none⟩ = some (.int .i64 (pu : Nat)) := r8.c 0 _ rfl
                          have y1 : Wd.cell? ⟨n8, 1, none⟩ = some (.int .i64 (a : Nat)) := r8.c 1 _ rfl
                          have l8 := r8.lt
                          have hcall := HBF.out q pu hql hpu
                          have HP := Lib.hid hp
                          have HB := Lib.hid hB
                          have HR8 := Lib.hid r8
                          have HSL := Lib.hid hSL
                          have HSR := Lib.hid hSR
                          clear hp hB r8 hSL hSR
                          cases hb : bef pts a q pu with
                          | true =>
                            rw [hb] at hcall
                            have HCL := Lib.hid hcall
                            have HN := Lib.hid (show ∀ (j q : Nat), j < m + 1 → L[j]? = some ((q : Nat) : Int) → bef pts a q pu = true from fun j q' h1 h2 => by
                              rcases Nat.lt_or_ge j m with h | h
                              · exact HTO.out j q' h h2
                              · have : j = m := by omega
                                subst this
                                rw [HP.out] at h2
                                injection h2 with h2
                                have : q = q' := by omega
                                subst this
                                exact hb)
                            clear hcall hb
                            go_wp2_with fail
                            go_quiet ((go_at_call 51; exact Calls.quiet_of (HCL.out _ (below_call HB.out (below_drew _ _)))))
                            have hk := below_drew Wd nq
                            have HB2 := Lib.hid (below_call HB.out hk)
                            have HR2 := Lib.hid (HR8.out.keep hk)
                            have HS2 := Lib.hid (HSL.out.keep hk)
                            have HS3 := Lib.hid (HSR.out.keep hk)
                            clear hk
                            generalize Wd.drewN nq = V at HB2 HR2 HS2 HS3 ⊢
                            go_wp2_with fail
                            go_roundw
                            case rel => exact ⟨m + 1, by simp, by omega, HB2.out, HR2.out, HS2.out, HS3.out, HN.out⟩
                            case measure => simp [intOf]; omega
                          | false =>
                            rw [hb] at hcall
                            have HCL := Lib.hid hcall
                            have HS := Lib.hid (show ¬ KdOk pts t from fun hK => by
                              have h1 := ((HSU.out).1 (fun x j y => hK.2.2.2 k x j y)).1 q (List.mem_of_getElem? HP.out)
                              rw [hb] at h1; cases h1)
                            clear hcall hb
                            go_wp2_with fail
                            go_quiet ((go_at_call 51; exact Calls.quiet_of (HCL.out _ (below_call HB.out (below_drew _ _)))))
                            go_wp2_with fail
                            go_ret
                            exact verP_no HS.out (below_call HB.out (below_drew Wd nq))
                        · have hme : m = L.length := by omega
                          subst hme
                          have HLD := Lib.hid (show ∀ q : Nat, ((q : Nat) : Int) ∈ L → bef pts a q pu = true from fun q hq => by
                            obtain ⟨j, hj⟩ := List.getElem?_of_mem hq
                            exact HTO.out j q (List.getElem?_eq_some_iff.1 hj).1 hj)
                          have HSL := Lib.hid hSL
                          clear HTO hSL
                          go_wp2_with fail
                          go_loopw [18] (fun i W => ∃ m : Nat, i = .int .i64 (m : Nat) ∧ m ≤ R.length ∧ Below w.heap.size w W ∧ Blk W n8 [.int .i64 (pu : Nat), .int .i64 (a : Nat), .int .i64 xl, .int .i64 xh] ∧ Sl W oR 1 (pvals R) ∧ ∀ (j q : Nat), j < m → R[j]? = some ((q : Nat) : Int) → bef pts a pu q = true) (fun i _ => R.length - (intOf i).toNat)
                          case atStart => exact ⟨0, rfl, Nat.zero_le _, hB, r8, hSR, fun j q h => absurd h (Nat.not_lt_zero _)⟩
                          case round =>
                            clear hSR r8 hB
                            obtain ⟨m, rfl, hm, hB, r8, hSR, hto⟩ := hrel
                            obtain ⟨Wd, rfl⟩ : ∃ X, X = wr := ⟨_, rfl⟩
                            have HTO := Lib.hid hto
                            clear hto
                            by_cases hlm : m < R.length
                            · obtain ⟨p, hp⟩ : ∃ p, R[m]? = some p := ⟨_, List.getElem?_eq_getElem hlm⟩
                              obtain ⟨q, rfl, hql⟩ := HRP.out m p hp
                              obtain ⟨bR, offR, rfl, z0, lR⟩ := pv_get hSR hp
                              have y0 : Wd.cell? ⟨n8, 0, none⟩ = some (.int .i64 (pu : Nat)) := r8.c 0 _ rfl
                              have y1 : Wd.cell? ⟨n8, 1, none⟩ = some (.int .i64 (a : Nat)) := r8.c 1 _ rfl
                              have l8 := r8.lt
                              have hcall := HBF.out pu q hpu hql
                              have HP := Lib.hid hp
                              have HB := Lib.hid hB
                              have HR8 := Lib.hid r8
                              have HSR := Lib.hid hSR
                              clear hp hB r8 hSR
                              cases hb : bef pts a pu q with
                              | true =>
                                rw [hb] at hcall
                                have HCL := Lib.hid hcall
                                have HN := Lib.hid (show ∀ (j q : Nat), j < m + 1 → R[j]? = some ((q : Nat) : Int) → bef pts a pu q = true from fun j q' h1 h2 => by
                                  rcases Nat.lt_or_ge j m with h | h
                                  · exact HTO.out j q' h h2
                                  · have : j = m := by omega
                                    subst this
                                    rw [HP.out] at h2
                                    injection h2 with h2
                                    have : q = q' := by omega
                                    subst this
                                    exact hb)
                                clear hcall hb
                                go_wp2_with fail
                                go_quiet ((go_at_call 51; exact Calls.quiet_of (HCL.out _ (below_call HB.out (below_drew _ _)))))
                                have hk := below_drew Wd nq
                                have HB2 := Lib.hid (below_call HB.out hk)
                                have HR2 := Lib.hid (HR8.out.keep hk)
                                have HS3 := Lib.hid (HSR.out.keep hk)
                                clear hk
                                generalize Wd.drewN nq = V at HB2 HR2 HS3 ⊢
                                go_wp2_with fail
                                go_roundw
                                case rel => exact ⟨m + 1, by simp, by omega, HB2.out, HR2.out, HS3.out, HN.out⟩
                                case measure => simp [intOf]; omega
                              | false =>
                                rw [hb] at hcall
                                have HCL := Lib.hid hcall
                                have HS := Lib.hid (show ¬ KdOk pts t from fun hK => by
                                  have h1 := ((HSU.out).1 (fun x j y => hK.2.2.2 k x j y)).2 q (List.mem_of_getElem? HP.out)
                                  rw [hb] at h1; cases h1)
                                clear hcall hb
                                go_wp2_with fail
                                go_quiet ((go_at_call 51; exact Calls.quiet_of (HCL.out _ (below_call HB.out (below_drew _ _)))))
                                go_wp2_with fail
                                go_ret
                                exact verP_no HS.out (below_call HB.out (below_drew Wd nq))
                            · have hme : m = R.length := by omega
                              subst hme
                              have HU := Lib.hid ((HSU.out).2 ⟨HLD.out, fun q hq => by
                                obtain ⟨j, hj⟩ := List.getElem?_of_mem hq
                                exact HTO.out j q (List.getElem?_eq_some_iff.1 hj).1 hj⟩)
                              have HB := Lib.hid hB
                              clear HTO hSR r8 hB
                              go_wp2_with fail
                              go_roundw
                              case rel =>
                                refine ⟨k + 1, by simp, by omega, HB.out, fun u hu => ?_⟩
                                rcases Nat.lt_or_ge u k with h | h
                                · exact HDN.out u h
                                · have : u = k := by omega
                                  subst this
                                  exact HU.out
                              case measure => simp [intOf]; omega
                  · have hke : k = t.length := by omega
                    subst hke
                    have HF : Hid (KdOk pts t) := Lib.hid ⟨HV.out, HL.out, HK.out, kdO_of HDN.out⟩
                    go_wp2_with fail
                    go_ret
                    exact verP_yes HF.out hB
    · have hd0 : ((t.length : Int) != (pts.length : Int)) = true := by simp; omega
      have HNO : Hid (¬ KdOk pts t) := Lib.hid (fun h => hl h.2.1)
      have H30 := Lib.hid h30
      clear h30 hl hP hT
      go_enter Tryz.func78, Tryz.ntmps78
      go_wp2_with fail
      with_reducible refine H30.out.mono ?_
      rintro e W2 ⟨rfl, q, rfl⟩
      go_wp2_with fail
      go_ret
      exact verP_no HNO.out (below_drew w q)
end Go.Proofs.Ng
end

section
/-
  Walks: Same of equal trees.
-/
namespace Go.Proofs.Ng
open Go.RowKit

end Go.Proofs.Ng
end

