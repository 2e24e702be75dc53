/-
  Texts put together: Cd Ce Dk.
-/
import Derived.Test.YteeeogdfnpdpcaaGreatZNeighborFinds17
import Derived.Test.YteeeogdfnpdpcaaGreatZNeighborFinds15
set_option linter.unusedVariables false
section
/-
  Walks: parents: the walk.
-/
namespace Go.Proofs.Ng
open Go.RowKit

theorem new2 (W : World) (a b c d : Value) : Blk (W.alloc (.cells #[a, b, c, d] 57)) W.heap.size [a, b, c, d] := Blk.new W [a, b, c, d] 57
set_option maxRecDepth 100000 in
set_option maxHeartbeats 4000000 in
theorem parents33 (oa ot : Option Addr) (ca ct : Nat) (pts : List (List Int)) (t : List Nd) (w : World) (hP : Pts w oa pts) (hT : Sl w ot 4 (t.map Nd.vals)) (hl : t.length = pts.length) (hv : vpB pts = true) :
    Calls Tryz.prog 53 #[.slice oa pts.length ca, .slice ot t.length ct] w (ParP (dimP pts) t w) := by
  obtain ⟨hp1024, hdim⟩ := vp_dim hv
  have htl : t.length ≤ 1024 := by omega
  have hmk1 := run_make24 t.length (by omega)
  have hmk2 := run_make44 t.length (by omega)
  have HP := Lib.hid hP
  have HTr := Lib.hid hT
  have HD := Lib.hid hdim
  rw [← hl]
  have HL := Lib.hid hl
  clear hP hT hdim hl hv
  go_enter Tryz.func53, Tryz.ntmps53
  go_wp2_with fail
  clear hmk1
  have hA : Blk (w.alloc (.cells (pflat (List.replicate t.length 0)).toArray 3)) w.heap.size (pflat (negL t.length 0)) := by rw [negL_zero]; exact Blk.new w (pflat (List.replicate t.length 0)) 3
  have hB : Below w.heap.size w (w.alloc (.cells (pflat (List.replicate t.length 0)).toArray 3)) := (Below.refl _ _).alloc (Nat.le_refl _) _
  obtain ⟨gA, hgA⟩ : ∃ g, g = w.heap.size := ⟨_, rfl⟩
  rw [← hgA] at hA ⊢
  generalize (w.alloc (.cells (pflat (List.replicate t.length 0)).toArray 3)) = W1 at hA hB ⊢
  have HGA := Lib.hid hgA
  clear hgA
  go_loopw [18] (fun i W => ∃ k : Nat, i = .int .i64 (k : Nat) ∧ k ≤ t.length ∧ Blk W gA (pflat (negL t.length k)) ∧ Below w.heap.size w W) (fun i _ => t.length - (intOf i).toNat)
  case atStart => exact ⟨0, rfl, Nat.zero_le _, hA, hB⟩
  case round =>
    clear hA hB
    obtain ⟨k, rfl, hk, hA, hB⟩ := hrel
    obtain ⟨wa, rfl⟩ : ∃ X, X = wr := ⟨_, rfl⟩
    by_cases hlt : k < t.length
    · have x0 : wa.cell? ⟨gA, k, none⟩ = some (.int .i64 ((negL t.length k)[k]?.getD 0)) := hA.c k _ (pfl_get (by rw [List.getElem?_eq_getElem (by rw [negL_len]; exact hlt)]; rfl))
      have f0 := hA.f k
      have lx := hA.lt
      have HA := Lib.hid hA
      have HB := Lib.hid hB
      clear hA hB
      go_wp2_with fail
      go_roundw
      case rel => exact ⟨k + 1, by simp, by omega, by rw [← negL_set, ← pfl_set]; exact HA.out.put k _, HB.out.setCell (p := ⟨gA, k, none⟩) (by rw [HGA.out]; exact Nat.le_refl _) _⟩
      case measure => simp [intOf]; omega
    · have hke : k = t.length := by omega
      subst hke
      rw [negL_all] at hA
      have HA := Lib.hid hA
      have HB := Lib.hid hB
      clear hA hB
      go_wp2_with fail
      clear hmk2
      have hT2 : Two w (wa.alloc (.cells (bls (List.replicate t.length false)).toArray 4)) gA wa.heap.size (pflat (List.replicate t.length (-1))) (bls (List.replicate t.length false)) :=
        ⟨HA.out.keep ((Below.refl _ _).alloc (Nat.le_refl _) _), Blk.new wa _ 4, below_call HB.out ((Below.refl _ _).alloc (Nat.le_refl _) _), by have := HA.out.lt; omega, by rw [HGA.out]; exact Nat.le_refl _, HB.out.size⟩
      generalize wa.alloc (.cells (bls (List.replicate t.length false)).toArray 4) = W2 at hT2 ⊢
      generalize wa.heap.size = gU at hT2 ⊢
      clear HA HB HGA
      go_loopw [30] (fun i W => ∃ (k : Nat) (ab : List Int) (us : List Bool), i = .int .i64 (k : Nat) ∧ k ≤ t.length ∧ Two w W gA gU (pflat ab) (bls us) ∧ ParI (dimP pts) t k ab us) (fun i _ => t.length - (intOf i).toNat)
      case atStart => exact ⟨0, _, _, rfl, Nat.zero_le _, hT2, ParI.start _ t⟩
      case round =>
        clear hT2 W2
        obtain ⟨k, ab, us, rfl, hk, hT2, hI⟩ := hrel
        obtain ⟨Wb, rfl⟩ : ∃ X, X = wr := ⟨_, rfl⟩
        by_cases hlt : k < t.length
        · obtain ⟨x, hx⟩ : ∃ x, t[k]? = some x := ⟨_, List.getElem?_eq_getElem hlt⟩
          obtain ⟨xp, xa, xl, xh⟩ := x
          obtain ⟨bt, offt, rfl, hTr⟩ := HTr.out (map_ne hlt)
          have hTr2 := hTr.keep hT2.bel
          have x0 : Wb.cell? ⟨bt, offt + k * 4, none⟩ = some (.int .i64 xp) := hTr2.c k _ (map_get hx) 0 _ rfl
          have x1 : Wb.cell? ⟨bt, offt + k * 4 + 1, none⟩ = some (.int .i64 xa) := hTr2.c k _ (map_get hx) 1 _ rfl
          have x2 : Wb.cell? ⟨bt, offt + k * 4 + 2, none⟩ = some (.int .i64 xl) := hTr2.c k _ (map_get hx) 2 _ rfl
          have x3 : Wb.cell? ⟨bt, offt + k * 4 + 3, none⟩ = some (.int .i64 xh) := hTr2.c k _ (map_get hx) 3 _ rfl
          have lt0 := hTr2.lt
          have hgA := hT2.a.lt
          have hgU := hT2.b.lt
          have HX := Lib.hid hx
          have HI := Lib.hid hI
          clear hTr hTr2 hx hI
          go_upto_region 11 with fail
          clear x0 x1 x2 x3 lt0
          have hbx_ := blks1 Wb [.int .i64 xp, .int .i64 xa, .int .i64 xl, .int .i64 xh] 57
          replace hT2 := hT2.keep hbx_.2
          have hod : Wb.heap.size ≤ Wb.heap.size := by omega
          generalize Wb.alloc (.cells #[.int .i64 xp, .int .i64 xa, .int .i64 xl, .int .i64 xh] 57) = W3 at hbx_ hT2 ⊢
          obtain ⟨r8, hbel_⟩ := hbx_
          obtain ⟨n8, hn_⟩ : ∃ n, n = Wb.heap.size := ⟨_, rfl⟩
          rw [← hn_] at r8 ⊢
          replace hod := Nat.le_of_eq hn_.symm
          clear hn_
          have HO : Hid (gA < n8 ∧ gU < n8) := Lib.hid (by omega)
          have HP0 := Lib.hid (HP.out.keep hT2.bel)
          clear hgA hgU hod
          have y0 : W3.cell? ⟨n8, 0, none⟩ = some (.int .i64 xp) := r8.c 0 _ rfl
          have y1 : W3.cell? ⟨n8, 1, none⟩ = some (.int .i64 xa) := r8.c 1 _ rfl
          have y2 : W3.cell? ⟨n8, 2, none⟩ = some (.int .i64 xl) := r8.c 2 _ rfl
          have y3 : W3.cell? ⟨n8, 3, none⟩ = some (.int .i64 xh) := r8.c 3 _ rfl
          have ly := r8.lt
          have HR8 := Lib.hid r8
          have HT2 := Lib.hid hT2
          clear r8 hT2
          by_cases q0 : xp < 0
          · have d0 : decide (xp < 0) = true := decide_eq_true q0
            have HS := Lib.hid (kd_bad (d := dimP pts) HX.out (fun ho => by have := ho.p0; simp only at this; omega))
            clear q0
            go_wp2_with fail
            refine bodyPost_ret (v := .tuple #[.slice none 0 0, .bool false]) (by simp [results, Tryz.results53, go_sem]) rfl ?_
            exact ⟨HT2.out.bel, .inl ⟨HS.out, rfl⟩⟩
          · have d0 : decide (xp < 0) = false := decide_eq_false q0
            obtain ⟨p, rfl⟩ : ∃ p : Nat, xp = (p : Nat) := ⟨xp.toNat, by omega⟩
            by_cases q1 : t.length ≤ p
            · have d1 : decide ((t.length : Int) ≤ (p : Int)) = true := decide_eq_true (by omega)
              have d1' : decide (t.length ≤ p) = true := decide_eq_true q1
              have HS := Lib.hid (kd_bad (d := dimP pts) HX.out (fun ho => by have := ho.p1; simp only at this; omega))
              clear q0 q1
              go_wp2_with fail
              refine bodyPost_ret (v := .tuple #[.slice none 0 0, .bool false]) (by simp [results, Tryz.results53, go_sem]) rfl ?_
              exact ⟨HT2.out.bel, .inl ⟨HS.out, rfl⟩⟩
            · have d1 : decide ((t.length : Int) ≤ (p : Int)) = false := decide_eq_false (by omega)
              have d1' : decide (t.length ≤ p) = false := decide_eq_false q1
              have hpl : p < t.length := by omega
              obtain ⟨u, hu⟩ : ∃ u, us[p]? = some u := ⟨_, List.getElem?_eq_getElem (by rw [HI.out.lu]; exact hpl)⟩
              have z0 : W3.cell? ⟨gU, p, none⟩ = some (.bool u) := HT2.out.b.c p _ (bls_get hu)
              have lz := HT2.out.b.lt
              have HU := Lib.hid hu
              clear hu q0 q1
              cases u with
              | true =>
                have HS := Lib.hid (HI.out.used HX.out (p := p) rfl HU.out)
                go_wp2_with fail
                refine bodyPost_ret (v := .tuple #[.slice none 0 0, .bool false]) (by simp [results, Tryz.results53, go_sem]) rfl ?_
                exact ⟨HT2.out.bel, .inl ⟨HS.out, rfl⟩⟩
              | false =>
                have fz := HT2.out.b.f p
                go_upto_region 14 with fail
                have hT3 := HT2.out.putB p (.bool true)
                rw [bls_set] at hT3
                have r9 := HR8.out.keepG (grown_set W3 gU p (.bool true)) (by have := HO.out; omega)
                clear z0 lz fz y0 y1 y2 y3 ly HT2 HR8
                generalize W3.setCell ⟨gU, p, none⟩ (.bool true) = W4 at hT3 r9 ⊢
                have y0 : W4.cell? ⟨n8, 0, none⟩ = some (.int .i64 (p : Nat)) := r9.c 0 _ rfl
                have y1 : W4.cell? ⟨n8, 1, none⟩ = some (.int .i64 xa) := r9.c 1 _ rfl
                have y2 : W4.cell? ⟨n8, 2, none⟩ = some (.int .i64 xl) := r9.c 2 _ rfl
                have y3 : W4.cell? ⟨n8, 3, none⟩ = some (.int .i64 xh) := r9.c 3 _ rfl
                have ly := r9.lt
                obtain ⟨c0, hc0⟩ : ∃ c, pts[0]? = some c := ⟨_, List.getElem?_eq_getElem (by have := HL.out; omega)⟩
                have hcd := HD.out c0 (List.mem_of_getElem? hc0)
                obtain ⟨bp, offp, oc, cc, hoa, q0, lbp, -⟩ := (HP.out.keep hT3.bel).get hc0
                rw [hcd.1, Nat.add_zero] at q0
                have HT3 := Lib.hid hT3
                have HR9 := Lib.hid r9
                clear hT3 r9 hc0
                have HPO : Hid (oa = some ⟨bp, offp, none⟩) := Lib.hid hoa
                subst hoa
                by_cases a0 : xa < 0
                · have d2 : decide (xa < 0) = true := decide_eq_true a0
                  have HS := Lib.hid (kd_bad (d := dimP pts) HX.out (fun ho => by have := ho.a0; simp only at this; omega))
                  clear a0
                  go_quiet (fail)
                  have HT4 := Lib.hid (HT3.out.keep (below_drew W4 nq))
                  clear HT3
                  generalize W4.drewN nq = W5 at HT4 ⊢
                  go_wp2_with fail
                  refine bodyPost_ret (v := .tuple #[.slice none 0 0, .bool false]) (by simp [results, Tryz.results53, go_sem]) rfl ?_
                  exact ⟨HT4.out.bel, .inl ⟨HS.out, rfl⟩⟩
                · have d2 : decide (xa < 0) = false := decide_eq_false a0
                  by_cases a1 : (dimP pts : Int) ≤ xa
                  · have d3 : decide ((dimP pts : Int) ≤ xa) = true := decide_eq_true a1
                    have HS := Lib.hid (kd_bad (d := dimP pts) HX.out (fun ho => by have := ho.a1; simp only at this; omega))
                    clear a0 a1
                    go_quiet (fail)
                    have HT4 := Lib.hid (HT3.out.keep (below_drew W4 nq))
                    clear HT3
                    generalize W4.drewN nq = W5 at HT4 ⊢
                    go_wp2_with fail
                    refine bodyPost_ret (v := .tuple #[.slice none 0 0, .bool false]) (by simp [results, Tryz.results53, go_sem]) rfl ?_
                    exact ⟨HT4.out.bel, .inl ⟨HS.out, rfl⟩⟩
                  · have d3 : decide ((dimP pts : Int) ≤ xa) = false := decide_eq_false a1
                    have HA := Lib.hid (And.intro a0 a1)
                    clear a0 a1
                    go_quiet (fail)
                    have hT4 := HT3.out.keep (below_drew W4 nq)
                    have r10 := HR9.out.keep (below_drew W4 nq)
                    clear y0 y1 y2 y3 ly q0 lbp HT3 HR9
                    generalize W4.drewN nq = W5 at hT4 r10 ⊢
                    have y2 : W5.cell? ⟨n8, 2, none⟩ = some (.int .i64 xl) := r10.c 2 _ rfl
                    have y3 : W5.cell? ⟨n8, 3, none⟩ = some (.int .i64 xh) := r10.c 3 _ rfl
                    have ly := r10.lt
                    have hgA := hT4.a.lt
                    have hgU := hT4.b.lt
                    have HR10 := Lib.hid r10
                    have HT4 := Lib.hid hT4
                    clear r10 hT4
                    go_wp2_with fail
                    clear y2 y3 ly
                    have hbx_ := blks1 W5 [.int .i64 xl, .int .i64 xh] 3
                    replace HT4 := Lib.hid (HT4.out.keep hbx_.2)
                    replace HR10 := Lib.hid (HR10.out.keep hbx_.2)
                    have hod : W5.heap.size ≤ W5.heap.size := by omega
                    generalize W5.alloc (.cells #[.int .i64 xl, .int .i64 xh] 3) = W6 at hbx_ HT4 HR10 ⊢
                    obtain ⟨r11, hbel_⟩ := hbx_
                    obtain ⟨n11, hn_⟩ : ∃ n, n = W5.heap.size := ⟨_, rfl⟩
                    rw [← hn_] at r11 ⊢
                    replace hod := Nat.le_of_eq hn_.symm
                    clear hn_
                    have HN : Hid (gA < n11 ∧ gU < n11) := Lib.hid (by omega)
                    have hT5 := HT4.out
                    have r10 := HR10.out
                    clear hgA hgU hod HT4 HR10
                    go_loopw [74] (fun i W => ∃ c : Nat, i = .int .i64 (c : Nat) ∧ c ≤ 2 ∧ Two w W gA gU (pflat (abK ab k [xl, xh] c)) (bls (us.set p true)) ∧ Blk W n8 [.int .i64 (p : Nat), .int .i64 xa, .int .i64 xl, .int .i64 xh] ∧ Blk W n11 [.int .i64 xl, .int .i64 xh] ∧ ChOk t.length k ab [xl, xh] c) (fun i _ => 2 - (intOf i).toNat)
                    case atStart => exact ⟨0, rfl, Nat.zero_le _, hT5, r10, r11, fun j c h => absurd h (Nat.not_lt_zero _)⟩
                    case round =>
                      clear hT5 r10 r11 hbel_ W6
                      obtain ⟨c, rfl, hc2, hT5, r10, r11, hch⟩ := hrel
                      obtain ⟨Wc, rfl⟩ : ∃ X, X = wr := ⟨_, rfl⟩
                      have HC := Lib.hid hch
                      have l11 := r11.lt
                      have lgA := hT5.a.lt
                      by_cases hlc : c < 2
                      · obtain ⟨ch, hcc⟩ : ∃ ch, [xl, xh][c]? = some ch := ⟨_, List.getElem?_eq_getElem (by simpa using hlc)⟩
                        have z0 : Wc.cell? ⟨n11, c, none⟩ = some (.int .i64 ch) := r11.c c _ (by have := pfl_get hcc; exact this)
                        have HCC := Lib.hid hcc
                        have HR10 := Lib.hid r10
                        have HR11 := Lib.hid r11
                        have HT2 := Lib.hid hT5
                        clear hcc r10 r11 hT5 hch
                        by_cases e1 : ch = -1
                        · have d5 : (ch == -1) = true := by simp [e1]
                          have HNX := Lib.hid (HC.out.next HCC.out (.inl e1) (fun h => absurd e1 h))
                          have HAB := Lib.hid (abK_succ (ab := ab) (i := k) HCC.out)
                          have HE1 := Lib.hid e1
                          clear e1
                          go_wp2_with fail
                          go_roundw
                          case rel => exact ⟨c + 1, by simp, by omega, by rw [HAB.out, ab1, if_pos HE1.out]; exact HT2.out, HR10.out, HR11.out, HNX.out⟩
                          case measure => simp [intOf]; omega
                        · have d5 : (ch == -1) = false := by simp [e1]
                          by_cases e2 : ch ≤ (k : Int)
                          · have d6 : decide (ch ≤ (k : Int)) = true := decide_eq_true e2
                            have HS := Lib.hid (child_out (d := dimP pts) HX.out HCC.out (fun h => by unfold inR at h; omega))
                            clear e1 e2
                            go_wp2_with fail
                            refine bodyPost_ret (v := .tuple #[.slice none 0 0, .bool false]) (by simp [results, Tryz.results53, go_sem]) rfl ?_
                            exact ⟨HT2.out.bel, .inl ⟨HS.out, rfl⟩⟩
                          · have d6 : decide (ch ≤ (k : Int)) = false := decide_eq_false e2
                            by_cases e3 : (t.length : Int) ≤ ch
                            · have d7 : decide ((t.length : Int) ≤ ch) = true := decide_eq_true e3
                              have HS := Lib.hid (child_out (d := dimP pts) HX.out HCC.out (fun h => by unfold inR at h; omega))
                              clear e1 e2 e3
                              go_wp2_with fail
                              refine bodyPost_ret (v := .tuple #[.slice none 0 0, .bool false]) (by simp [results, Tryz.results53, go_sem]) rfl ?_
                              exact ⟨HT2.out.bel, .inl ⟨HS.out, rfl⟩⟩
                            · have d7 : decide ((t.length : Int) ≤ ch) = false := decide_eq_false e3
                              have hr : inR k t.length ch := .inr ⟨by omega, by omega⟩
                              obtain ⟨q, rfl⟩ : ∃ q : Nat, ch = (q : Nat) := ⟨ch.toNat, by omega⟩
                              have hql : q < t.length := by omega
                              have d6' : decide (q ≤ k) = false := decide_eq_false (by omega)
                              have d7' : decide (t.length ≤ q) = false := decide_eq_false (by omega)
                              obtain ⟨v, hv⟩ : ∃ v, (abK ab k [xl, xh] c)[q]? = some v := ⟨_, List.getElem?_eq_getElem (by rw [abK_len, HI.out.la]; exact hql)⟩
                              have z1 : Wc.cell? ⟨gA, q, none⟩ = some (.int .i64 v) := HT2.out.a.c q _ (pfl_get hv)
                              have HR := Lib.hid hr
                              have HV := Lib.hid hv
                              have HE1 := Lib.hid e1
                              clear hr hv e1 e2 e3
                              by_cases e4 : v = -1
                              · have d8 : (v != -1) = false := by simp [e4]
                                have f1 := HT2.out.a.f q
                                have HNX := Lib.hid (HC.out.next HCC.out HR.out (fun _ => by have := HV.out; rw [e4] at this; exact this))
                                have HAB := Lib.hid (abK_succ (ab := ab) (i := k) HCC.out)
                                have hT6 := HT2.out.putA q (.int .i64 (k : Nat))
                                rw [pfl_set] at hT6
                                have HT6 := Lib.hid hT6
                                have HR12 := Lib.hid (HR10.out.keepG (grown_set Wc gA q (.int .i64 (k : Nat))) (by have := HO.out; omega))
                                have HR13 := Lib.hid (HR11.out.keepG (grown_set Wc gA q (.int .i64 (k : Nat))) (by have := HN.out; omega))
                                clear e4 hT6
                                go_wp2_with fail
                                go_roundw
                                case rel => exact ⟨c + 1, by simp, by omega, by rw [HAB.out, ab1, if_neg HE1.out]; exact HT6.out, HR12.out, HR13.out, HNX.out⟩
                                case measure => simp [intOf]; omega
                              · have d8 : (v != -1) = true := by simp [e4]
                                have HS := Lib.hid (child_two HI.out HX.out HCC.out HR.out HE1.out HV.out e4)
                                clear e4
                                go_wp2_with fail
                                refine bodyPost_ret (v := .tuple #[.slice none 0 0, .bool false]) (by simp [results, Tryz.results53, go_sem]) rfl ?_
                                exact ⟨HT2.out.bel, .inl ⟨HS.out, rfl⟩⟩
                      · have hce : c = 2 := by omega
                        subst hce
                        rw [abK_two] at hT5
                        obtain ⟨h0l, h0n⟩ := hch 0 xl (by omega) rfl
                        obtain ⟨h1l, h1n⟩ := hch 1 xh (by omega) rfl
                        have hno : NdOk t.length (dimP pts) k ⟨(p : Nat), xa, xl, xh⟩ := ⟨by simp, by simp; omega, by have := HA.out; simp; omega, by have := HA.out; simp; omega, h0l, h1l⟩
                        have hlow : (ab1 (ab1 ab k xl) k xh)[k]? = ab[k]? := by
                          unfold inR at h0l h1l
                          rw [ab1_low (by omega), ab1_low (by omega)]
                        have HNX := Lib.hid (fun h0 => HI.out.next HX.out hno (by simpa using HU.out) h0n (by rw [abK_succ (k := 0) rfl] at h1n; exact h1n) h0)
                        obtain ⟨v, hv⟩ : ∃ v, ab[k]? = some v := ⟨_, List.getElem?_eq_getElem (by rw [HI.out.la]; exact hlt)⟩
                        have z1 : Wc.cell? ⟨gA, k, none⟩ = some (.int .i64 v) := hT5.a.c k _ (pfl_get (by rw [hlow]; exact hv))
                        have HV := Lib.hid hv
                        have HT2 := Lib.hid hT5
                        clear h0l h0n h1l h1n hno hlow hv hT5 hch r10 r11 HC
                        by_cases e5 : 0 < k
                        · have d9 : decide ((0 : Int) < (k : Int)) = true := decide_eq_true (by omega)
                          have d9' : decide (0 < k) = true := decide_eq_true e5
                          by_cases e6 : v = -1
                          · have d8 : (v == -1) = true := by simp [e6]
                            have HS := Lib.hid (HI.out.none e5 hlt (by have := HV.out; rw [e6] at this; exact this))
                            clear e5 e6
                            go_wp2_with fail
                            refine bodyPost_ret (v := .tuple #[.slice none 0 0, .bool false]) (by simp [results, Tryz.results53, go_sem]) rfl ?_
                            exact ⟨HT2.out.bel, .inl ⟨HS.out, rfl⟩⟩
                          · have d8 : (v == -1) = false := by simp [e6]
                            have HNY := Lib.hid (HNX.out (fun _ h => by rw [HV.out] at h; injection h with h; exact e6 h))
                            clear e5 e6
                            go_wp2_with fail
                            go_roundw
                            case rel => exact ⟨k + 1, _, _, by simp, by omega, HT2.out, HNY.out⟩
                            case measure => simp [intOf]; omega
                        · have d9 : decide ((0 : Int) < (k : Int)) = false := decide_eq_false (by omega)
                          have d9' : decide (0 < k) = false := decide_eq_false e5
                          have HNY := Lib.hid (HNX.out (fun h _ => e5 h))
                          clear e5
                          go_wp2_with fail
                          go_roundw
                          case rel => exact ⟨k + 1, _, _, by simp, by omega, HT2.out, HNY.out⟩
                          case measure => simp [intOf]; omega
        · have hke : k = t.length := by omega
          subst hke
          have HF := Lib.hid hI.fin
          have HT2 := Lib.hid hT2
          clear hT2 hI
          go_wp2_with fail
          refine bodyPost_ret (v := .tuple #[.slice (some ⟨gA, 0, none⟩) t.length t.length, .bool true]) (by simp [results, Tryz.results53, go_sem]) rfl ?_
          exact ⟨HT2.out.bel, .inr ⟨gA, ab, HF.out.1, rfl, HT2.out.lg, HT2.out.a, HF.out.2⟩⟩
end Go.Proofs.Ng
end

section
/-
  Walks: ordered.
-/
namespace Go.Proofs.Ng
open Go.RowKit

/-! the order of a node and one above it -/
theorem bef_flip {pts : List (List Int)} {a i j : Nat} (h : i ≠ j) : bef pts a i j = !bef pts a j i := by
  unfold bef
  rw [Bool.eq_iff_iff]
  simp only [decide_eq_true_eq, Bool.not_eq_true', decide_eq_false_iff_not]
  omega
/-- Node i below u by its child c. -/
def SideC (pts : List (List Int)) (t : List Nd) (u c i : Nat) : Prop := ∀ x y : Nd, t[u]? = some x → t[i]? = some y → (x.lo = (c : Nat) → bef pts x.ax.toNat y.pt.toNat x.pt.toNat = true) ∧ (x.hi = (c : Nat) → bef pts x.ax.toNat x.pt.toNat y.pt.toNat = true)
theorem kdO_iff (pts : List (List Int)) (t : List Nd) : KdO pts t ↔ ∀ i, i < t.length → ∀ u c, Lk t u c → Dn t c i → SideC pts t u c i := by
  constructor
  · intro h i _ u c _ hd x y hx hy
    exact ⟨fun e => (h u x i y hx hy).1 c e hd, fun e => (h u x i y hx hy).2 c e hd⟩
  · intro h u x j y hx hy
    have hj := (List.getElem?_eq_some_iff.1 hy).1
    exact ⟨fun c e hd => (h j hj u c ⟨x, hx, .inl e⟩ hd x y hx hy).1 e, fun c e hd => (h j hj u c ⟨x, hx, .inr e⟩ hd x y hx hy).2 e⟩
theorem sideC_iff {d : Nat} {pts : List (List Int)} {t : List Nd} (hK : KdS d t) {u c i a pu pi : Nat} {ul uh yl yh ya : Int} (hx : t[u]? = some ⟨(pu : Nat), (a : Nat), ul, uh⟩) (hy : t[i]? = some ⟨(pi : Nat), ya, yl, yh⟩) (hl : Lk t u c) (hd : Dn t c i) :
    SideC pts t u c i ↔ bef pts a pi pu = decide ((c : Int) = ul) := by
  have hui : u < i := by have := (hK.up.lk hl).1; have := hd.le hK.up; omega
  have hne : pi ≠ pu := fun e => by
    have := hK.pts u i _ _ hx hy (by simp only; rw [e])
    omega
  obtain ⟨x, hx', hc⟩ := hl
  rw [hx] at hx'
  injection hx' with hx'
  subst hx'
  have hdf := hK.diff u _ hx
  simp only at hc hdf
  constructor
  · intro h
    obtain ⟨h1, h2⟩ := h _ _ hx hy
    simp only [Int.toNat_natCast] at h1 h2
    by_cases e : (c : Int) = ul
    · rw [decide_eq_true e]; exact h1 e.symm
    · rw [decide_eq_false e, bef_flip hne, h2 (by omega)]; rfl
  · intro h x y hx' hy'
    rw [hx] at hx'; injection hx' with hx'; subst hx'
    rw [hy] at hy'; injection hy' with hy'; subst hy'
    simp only [Int.toNat_natCast]
    refine ⟨fun e => by rw [h, decide_eq_true e.symm], fun e => ?_⟩
    rw [bef_flip (fun e => hne e.symm), h, decide_eq_false (by omega)]; rfl
/-- What is checked on the way up from node i. -/
def OrdI (pts : List (List Int)) (t : List Nd) (i c : Nat) : Prop := Dn t c i ∧ ∀ u c', Lk t u c' → Dn t c' i → Dn t c' c ∨ SideC pts t u c' i
theorem OrdI.start (pts : List (List Int)) (t : List Nd) (i : Nat) : OrdI pts t i i := ⟨.self, fun _ _ _ h => .inl h⟩
theorem OrdI.next {d : Nat} {pts : List (List Int)} {t : List Nd} (hK : KdS d t) {i c u : Nat} (h : OrdI pts t i c) (hl : Lk t u c) (hs : SideC pts t u c i) : OrdI pts t i u := by
  refine ⟨(Dn.self.step hl).trans h.1, fun u' c' hl' hd' => ?_⟩
  rcases h.2 u' c' hl' hd' with h1 | h1
  · cases h1 with
    | self =>
      have := hK.uniq u u' _ hl hl'
      subst this
      exact .inr hs
    | step h2 hl2 =>
      have := hK.uniq _ _ _ hl hl2
      subst this
      exact .inl h2
  · exact .inr h1
theorem OrdI.fin {d : Nat} {pts : List (List Int)} {t : List Nd} (hK : KdS d t) {i : Nat} (h : OrdI pts t i 0) : ∀ u c, Lk t u c → Dn t c i → SideC pts t u c i := by
  intro u c hl hd
  rcases h.2 u c hl hd with h1 | h1
  · have := h1.le hK.up
    have := (hK.up.lk hl).1
    omega
  · exact h1
/-- The parents' row. -/
def AbOk (t : List Nd) (ab : List Int) : Prop := ∀ c : Nat, c < t.length → (ab[c]? = some (-1) ∧ c = 0) ∨ ∃ p : Nat, ab[c]? = some ((p : Nat) : Int) ∧ Lk t p c
def upOk (t : List Nd) (c : Nat) (up : Int) : Prop := (up = -1 ∧ c = 0) ∨ ∃ p : Nat, up = (p : Nat) ∧ Lk t p c
theorem ab_up {t : List Nd} {ab : List Int} (h : AbOk t ab) {c : Nat} (hc : c < t.length) : ∃ up, ab[c]? = some up ∧ upOk t c up := by
  rcases h c hc with ⟨h1, h2⟩ | ⟨p, h1, h2⟩
  · exact ⟨-1, h1, .inl ⟨rfl, h2⟩⟩
  · exact ⟨_, h1, .inr ⟨p, rfl, h2⟩⟩
set_option maxRecDepth 100000 in
set_option maxHeartbeats 4000000 in
theorem ordered34 (oa ot : Option Addr) (ca ct g cg : Nat) (pts : List (List Int)) (t : List Nd) (ab : List Int) (w : World) (hP : Pts w oa pts) (hT : Sl w ot 4 (t.map Nd.vals)) (hl : t.length = pts.length) (hv : vpB pts = true) (hK : KdS (dimP pts) t) (hab : AbOk t ab) (hB : Blk w g (pflat ab)) :
    Calls Tryz.prog 54 #[.slice oa pts.length ca, .slice ot t.length ct, .slice (some ⟨g, 0, none⟩) t.length cg] w (VerP (KdO pts t) w) := by
  obtain ⟨hp1024, hdim⟩ := vp_dim hv
  have htl : t.length ≤ 1024 := by omega
  have HP := Lib.hid hP
  have HTr := Lib.hid hT
  have HD := Lib.hid hdim
  have HK := Lib.hid hK
  have HAB := Lib.hid hab
  have HB := Lib.hid hB
  have HL := Lib.hid hl
  clear hP hT hdim hl hv hK hab hB
  go_enter Tryz.func54, Tryz.ntmps54
  go_wp2_with fail
  go_loopw [14] (fun i W => ∃ k : Nat, i = .int .i64 (k : Nat) ∧ k ≤ t.length ∧ Below w.heap.size w W ∧ ∀ j, j < k → ∀ u c, Lk t u c → Dn t c j → SideC pts t u c j) (fun i _ => t.length - (intOf i).toNat)
  case atStart => exact ⟨0, rfl, Nat.zero_le _, Below.refl _ _, fun j h => absurd h (Nat.not_lt_zero _)⟩
  case round =>
    obtain ⟨k, rfl, hk, hB, hdone⟩ := hrel
    obtain ⟨Wb, rfl⟩ : ∃ X, X = wr := ⟨_, rfl⟩
    have HDN := Lib.hid hdone
    clear hdone
    by_cases hlt : k < t.length
    · obtain ⟨y, hy⟩ : ∃ y, t[k]? = some y := ⟨_, List.getElem?_eq_getElem hlt⟩
      have hok := HK.out.ok k y hy
      obtain ⟨yp, ya, yl, yh⟩ := y
      obtain ⟨pi, rfl⟩ : ∃ p : Nat, yp = (p : Nat) := ⟨yp.toNat, by have := hok.p0; simp only at this; omega⟩
      have hpi : pi < t.length := by have := hok.p1; simp only at this; omega
      obtain ⟨bt, offt, rfl, hTr⟩ := HTr.out (map_ne hlt)
      have hTr2 := hTr.keep hB
      have x0 : Wb.cell? ⟨bt, offt + k * 4, none⟩ = some (.int .i64 (pi : Nat)) := hTr2.c k _ (map_get hy) 0 _ rfl
      have x1 : Wb.cell? ⟨bt, offt + k * 4 + 1, none⟩ = some (.int .i64 ya) := hTr2.c k _ (map_get hy) 1 _ rfl
      have x2 : Wb.cell? ⟨bt, offt + k * 4 + 2, none⟩ = some (.int .i64 yl) := hTr2.c k _ (map_get hy) 2 _ rfl
      have x3 : Wb.cell? ⟨bt, offt + k * 4 + 3, none⟩ = some (.int .i64 yh) := hTr2.c k _ (map_get hy) 3 _ rfl
      have lt0 := hTr2.lt
      obtain ⟨up, hup, hupo⟩ := ab_up HAB.out hlt
      have HY := Lib.hid hy
      have HT0 := Lib.hid hTr
      clear hTr hTr2 hy hok
      go_upto_region 4 with fail
      clear x0 x1 x2 x3 lt0
      have hbx_ := blks1 Wb [.int .i64 (pi : Nat), .int .i64 ya, .int .i64 yl, .int .i64 yh] 57
      have HB3 := Lib.hid (below_call hB hbx_.2)
      have hod : Wb.heap.size ≤ Wb.heap.size := by omega
      generalize Wb.alloc (.cells #[.int .i64 (pi : Nat), .int .i64 ya, .int .i64 yl, .int .i64 yh] 57) = W3 at hbx_ HB3 ⊢
      obtain ⟨r8, hbel_⟩ := hbx_
      obtain ⟨n8, hn_⟩ : ∃ n, n = Wb.heap.size := ⟨_, rfl⟩
      rw [← hn_] at r8 ⊢
      replace hod := Nat.le_of_eq hn_.symm
      clear hn_ hbel_
      have hg3 := HB.out.keep HB3.out
      have z0 : W3.cell? ⟨g, k, none⟩ = some (.int .i64 up) := hg3.c k _ (pfl_get hup)
      have lg := hg3.lt
      clear hg3 hod hB
      go_quiet (fail)
      have hr8 := r8.keep (below_drew W3 nq)
      have hB4 := below_call HB3.out (below_drew W3 nq)
      clear z0 lg r8 HB3
      generalize W3.drewN nq = W4 at hr8 hB4 ⊢
      go_wp2_with fail
      go_loopw [9, 10] (fun ch up W => ∃ (c : Nat) (u : Int), ch = .int .i64 (c : Nat) ∧ up = .int .i64 u ∧ upOk t c u ∧ OrdI pts t k c ∧ Below w.heap.size w W ∧ Blk W n8 [.int .i64 (pi : Nat), .int .i64 ya, .int .i64 yl, .int .i64 yh]) (fun ch _ _ => (intOf ch).toNat)
      case atStart => exact ⟨k, up, rfl, rfl, hupo, OrdI.start _ _ _, hB4, hr8⟩
      case round =>
        clear hr8 hB4 hup hupo
        obtain ⟨c, u, rfl, rfl, hupo, hO, hB5, r8⟩ := hrel
        obtain ⟨Wc, rfl⟩ : ∃ X, X = wr := ⟨_, rfl⟩
        rcases hupo with ⟨rfl, rfl⟩ | ⟨p, rfl, hlk⟩
        · have HN := Lib.hid (hO.fin HK.out)
          clear hO r8
          go_wp2_with fail
          go_roundw
          case rel =>
            refine ⟨k + 1, by simp, by omega, hB5, fun j hj => ?_⟩
            rcases Nat.lt_or_ge j k with h | h
            · exact HDN.out j h
            · have : j = k := by omega
              subst this
              exact HN.out
          case measure => simp [intOf]; omega
        · have hd1 : ((p : Int) != -1) = true := by simp
          obtain ⟨x, hu, hc⟩ := id hlk
          have hok := HK.out.ok p x hu
          have hcl := HK.out.up.lk hlk
          obtain ⟨xp, xa, ul, uh⟩ := x
          obtain ⟨pu, rfl⟩ : ∃ q : Nat, xp = (q : Nat) := ⟨xp.toNat, by have := hok.p0; simp only at this; omega⟩
          obtain ⟨a, rfl⟩ : ∃ q : Nat, xa = (q : Nat) := ⟨xa.toNat, by have := hok.a0; simp only at this; omega⟩
          have hpu : pu < t.length := by have := hok.p1; simp only at this; omega
          have hal : a < dimP pts := by have := hok.a1; simp only at this; omega
          have hdp : dimP pts ≤ 10 := by
            obtain ⟨c0, hc0⟩ : ∃ c, pts[0]? = some c := ⟨_, List.getElem?_eq_getElem (by have := HL.out; omega)⟩
            exact (HD.out c0 (List.mem_of_getElem? hc0)).2.2
          have hside := sideC_iff (pts := pts) HK.out hu HY.out hlk hO.1
          have hT5 := HT0.out.keep hB5
          have x1 : Wc.cell? ⟨bt, offt + p * 4 + 1, none⟩ = some (.int .i64 (a : Nat)) := hT5.c p _ (map_get hu) 1 _ rfl
          have x0 : Wc.cell? ⟨bt, offt + p * 4, none⟩ = some (.int .i64 (pu : Nat)) := hT5.c p _ (map_get hu) 0 _ rfl
          have x2 : Wc.cell? ⟨bt, offt + p * 4 + 2, none⟩ = some (.int .i64 ul) := hT5.c p _ (map_get hu) 2 _ rfl
          have lt1 := hT5.lt
          have y0 : Wc.cell? ⟨n8, 0, none⟩ = some (.int .i64 (pi : Nat)) := r8.c 0 _ rfl
          have l8 := r8.lt
          have hpl : (p : Int) < (t.length : Int) := by have := (List.getElem?_eq_some_iff.1 hu).1; omega
          have hord : ∀ X, Gr Wc X → _ := fun X hX => order29 oa ca pts a pi pu X (HP.out.keep (below_call hB5 hX.below)) (by have := HL.out; omega) (by have := HL.out; omega) (fun xs hx => by rw [(HD.out xs hx).1]; exact hal) (by omega) (by omega)
          have hmk : ∀ Y, Gr Wc Y → Y.cell? ⟨bt, offt + p * 4 + 1, none⟩ = some (.int .i64 (a : Nat)) ∧ Y.cell? ⟨bt, offt + p * 4, none⟩ = some (.int .i64 (pu : Nat)) ∧ Y.cell? ⟨n8, 0, none⟩ = some (.int .i64 (pi : Nat)) ∧ Gr Wc Y :=
            fun Y hY => ⟨(hY.below.cell (p := ⟨bt, offt + p * 4 + 1, none⟩) lt1).trans x1, (hY.below.cell (p := ⟨bt, offt + p * 4, none⟩) lt1).trans x0, (hY.below.cell (p := ⟨n8, 0, none⟩) l8).trans y0, hY⟩
          have hS := hmk Wc (Gr.refl Wc)
          have HMK := Lib.hid hmk
          have HORD := Lib.hid hord
          have HSI := Lib.hid hside
          have HO := Lib.hid hO
          have HB5 := Lib.hid hB5
          have HR8 := Lib.hid r8
          have HLK := Lib.hid hlk
          have HU := Lib.hid hu
          clear hmk hord hside hO hB5 r8 hT5 hc hok hlk hu
          go_upto_region 7 with fail
          go_cut [11] (fun y X => y = .int .i64 (ordI pts a pi pu) ∧ Gr Wc X)
          case first =>
            clear x0 x1 x2 y0
            go_region_held3 (fun Y => Y.cell? ⟨bt, offt + p * 4 + 1, none⟩ = some (.int .i64 (a : Nat)) ∧ Y.cell? ⟨bt, offt + p * 4, none⟩ = some (.int .i64 (pu : Nat)) ∧ Y.cell? ⟨n8, 0, none⟩ = some (.int .i64 (pi : Nat)) ∧ Gr Wc Y)
              (first
                | assumption
                | exact HMK.out _ (by repeat (first | assumption | exact Gr.refl _ | apply Gr.drew | exact (by assumption : _ ∧ _ ∧ _ ∧ Gr Wc _).2.2.2)))
              (first
                | (go_at_call 32; refine (HORD.out _ (by assumption : _ ∧ _ ∧ _ ∧ Gr Wc _).2.2.2).mono ?_; rintro e Xa ⟨rfl, hgr⟩; replace hgr := Gr.trans (by assumption : _ ∧ _ ∧ _ ∧ Gr Wc _).2.2.2 hgr))
            all_goals
              go_wp2_with fail
              go_meet
              exact ⟨rfl, hgr⟩
          case rest =>
            clear x0 x1 y0 hS HMK HORD
            obtain ⟨rfl, hgr⟩ := hcut
            have x2 := (hgr.below.cell (p := ⟨bt, offt + p * 4 + 2, none⟩) lt1).trans x2
            have lt1 := Nat.lt_of_lt_of_le lt1 hgr.below.size
            have hB6 := below_call HB5.out hgr.below
            have r8 := HR8.out.keep hgr.below
            obtain ⟨up2, hup2, hupo2⟩ := ab_up HAB.out (show p < t.length by omega)
            have hg3 := HB.out.keep hB6
            have z0 : wc.cell? ⟨g, p, none⟩ = some (.int .i64 up2) := hg3.c p _ (pfl_get hup2)
            have lg := hg3.lt
            have hbb := ordI_lt pts a pi pu
            generalize ordI pts a pi pu = q at hbb ⊢
            have HB6 := Lib.hid hB6
            have HR8b := Lib.hid r8
            have HUO := Lib.hid hupo2
            by_cases hsi : SideC pts t p c k
            · have HSC := Lib.hid (HO.out.next HK.out HLK.out hsi)
              have hbd := HSI.out.1 hsi
              rw [hbd] at hbb
              clear hgr hB6 r8 hg3 hupo2 hsi hbd
              by_cases e : (c : Int) = ul
              · rw [decide_eq_true e] at hbb
                have e2 : ((c : Int) == ul) = true := by simp [e]
                clear e
                go_wp2_with fail
                go_quiet (fail)
                go_wp2_with fail
                go_roundw
                case rel => exact ⟨p, up2, rfl, rfl, HUO.out, HSC.out, below_call HB6.out (below_drew wc nq), HR8b.out.keep (below_drew wc nq)⟩
                case measure => simp [intOf]; omega
              · rw [decide_eq_false e] at hbb
                have e2 : ((c : Int) == ul) = false := by simp [e]
                clear e
                go_wp2_with fail
                go_quiet (fail)
                go_wp2_with fail
                go_roundw
                case rel => exact ⟨p, up2, rfl, rfl, HUO.out, HSC.out, below_call HB6.out (below_drew wc nq), HR8b.out.keep (below_drew wc nq)⟩
                case measure => simp [intOf]; omega
            · have HNO : Hid (¬ KdO pts t) := Lib.hid (fun h => hsi ((kdO_iff pts t).1 h k hlt p c HLK.out HO.out.1))
              have hbd : bef pts a pi pu ≠ decide ((c : Int) = ul) := fun h => hsi (HSI.out.2 h)
              clear hgr hB6 r8 hg3 hupo2 hsi
              by_cases e : (c : Int) = ul
              · rw [decide_eq_true e] at hbd
                have hb2 : bef pts a pi pu = false := by simpa using hbd
                rw [hb2] at hbb
                have e2 : ((c : Int) == ul) = true := by simp [e]
                clear e hb2 hbd
                go_wp2_with fail
                go_ret
                exact verP_no HNO.out HB6.out
              · rw [decide_eq_false e] at hbd
                have hb2 : bef pts a pi pu = true := by simpa using hbd
                rw [hb2] at hbb
                have e2 : ((c : Int) == ul) = false := by simp [e]
                clear e hb2 hbd
                go_wp2_with fail
                go_ret
                exact verP_no HNO.out HB6.out
    · have hke : k = t.length := by omega
      subst hke
      have HF := Lib.hid ((kdO_iff pts t).2 HDN.out)
      go_wp2_with fail
      go_ret
      exact verP_yes HF.out hB
end Go.Proofs.Ng
end

section
/-
  The search: what its walk leaves out; its world.
-/
namespace Go.Proofs.Ng
open Go.RowKit

/-- A point's distance. -/
def dP (js : List JV) (q : List Int) (pts : List (List Int)) (p : Nat) : Int := dst js q (pts[p]?.getD [])
theorem dsum_ge {js : List JV} {q x : List Int} (hw : ∀ k, 0 ≤ wt js k) {a : Nat} : ∀ {m : Nat}, a < m → wt js a * gapA (at0 q a - at0 x a) ≤ dsum js q x m ∧ 0 ≤ dsum js q x m
  | 0, h => by omega
  | m + 1, h => by
    have hm : 0 ≤ wt js m * gapA (at0 q m - at0 x m) := Int.mul_nonneg (hw m) (gapA_nn _)
    show _ ≤ dsum js q x m + wt js m * gapA (at0 q m - at0 x m) ∧ 0 ≤ dsum js q x m + wt js m * gapA (at0 q m - at0 x m)
    have hnn : ∀ m, 0 ≤ dsum js q x m := fun m => by
      induction m with
      | zero => simp [dsum]
      | succ m ih =>
        have := Int.mul_nonneg (hw m) (gapA_nn (at0 q m - at0 x m))
        show 0 ≤ dsum js q x m + wt js m * gapA (at0 q m - at0 x m)
        omega
    have h0 := hnn m
    by_cases e : a = m
    · subst e; omega
    · have := (dsum_ge (q := q) (x := x) hw (m := m) (show a < m by omega)).1
      omega
theorem wt_nn {js : List JV} (h : ∀ (k : Nat) (j : JV), js[k]? = some j → 1 ≤ j.weight ∧ j.weight ≤ 1024) (k : Nat) : 0 ≤ wt js k := by
  unfold wt
  cases e : js[k]? with
  | none => simp
  | some j => have := h k j e; simp; omega
/-- The points on the far side are no nearer than the gap. -/
theorem far_side {js : List JV} {q : List Int} {pts : List (List Int)} (hw : ∀ k, 0 ≤ wt js k) {a p p0 : Nat} {x : List Int} (hp : pts[p]? = some x) (ha : a < x.length)
    (h : (0 < at0 q a - key pts a p0 ∧ key pts a p ≤ key pts a p0) ∨ (at0 q a - key pts a p0 ≤ 0 ∧ key pts a p0 ≤ key pts a p)) : wt js a * gapA (at0 q a - key pts a p0) ≤ dP js q pts p := by
  have hk : key pts a p = at0 x a := by unfold key at0; rw [hp]; rfl
  unfold dP dst
  rw [hp, Option.getD_some]
  refine Int.le_trans ?_ (dsum_ge hw ha).1
  refine Int.mul_le_mul_of_nonneg_left ?_ (hw a)
  rw [← hk]
  unfold gapA
  omega
theorem bef_key {pts : List (List Int)} {a i j : Nat} (h : bef pts a i j = true) : key pts a i ≤ key pts a j := by
  unfold bef at h
  simp only [decide_eq_true_eq] at h
  omega
/-- p is a point of the subtree at node i. -/
def PtIn (t : List Nd) (i : Int) (p : Nat) : Prop := ∃ (j : Nat) (y : Nd), 0 ≤ i ∧ Dn t i.toNat j ∧ t[j]? = some y ∧ y.pt = (p : Nat)
/-- p was left out: k of those visited before are nearer. -/
def Skip (k : Nat) (dP : Nat → Int) (l : List Nat) (p : Nat) : Prop := ∃ (l0 r : List Nat) (most : Int), l = l0 ++ r ∧ CutN k dP l0 most ∧ most < dP p
theorem Skip.app {k : Nat} {dP : Nat → Int} {l : List Nat} {p : Nat} (h : Skip k dP l p) (r : List Nat) : Skip k dP (l ++ r) p := by
  obtain ⟨l0, r0, most, rfl, h1, h2⟩ := h
  exact ⟨l0, r0 ++ r, most, by simp, h1, h2⟩
/-- What a walk has done. -/
structure WalkR (k : Nat) (dP : Nat → Int) (t : List Nd) (i : Int) (l ext : List Nat) : Prop where
  mem : ∀ p ∈ ext, PtIn t i p
  all : ∀ p, PtIn t i p → p ∈ ext ∨ Skip k dP (l ++ ext) p
theorem WalkR.none {k : Nat} {dP : Nat → Int} {t : List Nd} {i : Int} {l : List Nat} (h : i < 0) : WalkR k dP t i l [] := ⟨by simp, fun p ⟨_, _, h0, _⟩ => by omega⟩
theorem ptIn_at {t : List Nd} {i p0 : Nat} {ax lo hi : Int} (hx : t[i]? = some ⟨(p0 : Nat), ax, lo, hi⟩) (hlo : inR i t.length lo) (hhi : inR i t.length hi) (p : Nat) : PtIn t (i : Nat) p ↔ p = p0 ∨ PtIn t lo p ∨ PtIn t hi p := by
  unfold inR at hlo hhi
  constructor
  · rintro ⟨j, y, -, hd, hy, hp⟩
    rw [Int.toNat_natCast] at hd
    rcases hd.head with rfl | ⟨c, ⟨x, hx', hc⟩, h5⟩
    · rw [hx] at hy; injection hy with hy; subst hy
      exact .inl (by simp only at hp; omega)
    · rw [hx] at hx'; injection hx' with hx'; subst hx'
      simp only at hc
      rcases hc with hc | hc
      · exact .inr (.inl ⟨j, y, by omega, by rw [hc]; exact h5, hy, hp⟩)
      · exact .inr (.inr ⟨j, y, by omega, by rw [hc]; exact h5, hy, hp⟩)
  · rintro (rfl | ⟨j, y, h0, hd, hy, hp⟩ | ⟨j, y, h0, hd, hy, hp⟩)
    · exact ⟨i, _, by omega, by rw [Int.toNat_natCast]; exact .self, hx, rfl⟩
    · exact ⟨j, y, by omega, by rw [Int.toNat_natCast]; exact (Dn.self.step ⟨_, hx, .inl (by simp only; omega)⟩).trans hd, hy, hp⟩
    · exact ⟨j, y, by omega, by rw [Int.toNat_natCast]; exact (Dn.self.step ⟨_, hx, .inr (by simp only; omega)⟩).trans hd, hy, hp⟩
/-- A node, one side, and the other side or its leaving out. -/
theorem WalkR.node {k : Nat} {dP : Nat → Int} {t : List Nd} {i p0 : Nat} {ax lo hi near far : Int} {l e1 e2 : List Nat} (hx : t[i]? = some ⟨(p0 : Nat), ax, lo, hi⟩) (hlo : inR i t.length lo) (hhi : inR i t.length hi) (hnf : (near = lo ∧ far = hi) ∨ (near = hi ∧ far = lo))
    (h1 : WalkR k dP t near (l ++ [p0]) e1) (h2 : WalkR k dP t far (l ++ [p0] ++ e1) e2 ∨ (e2 = [] ∧ ∀ p, PtIn t far p → Skip k dP (l ++ [p0] ++ e1) p)) : WalkR k dP t (i : Nat) l ([p0] ++ e1 ++ e2) := by
  have hpt := ptIn_at hx hlo hhi
  have hin : ∀ p, PtIn t (i : Nat) p ↔ p = p0 ∨ PtIn t near p ∨ PtIn t far p := fun p => by
    rw [hpt p]
    rcases hnf with ⟨rfl, rfl⟩ | ⟨rfl, rfl⟩
    · exact Iff.rfl
    · constructor
      · rintro (h | h | h)
        · exact .inl h
        · exact .inr (.inr h)
        · exact .inr (.inl h)
      · rintro (h | h | h)
        · exact .inl h
        · exact .inr (.inr h)
        · exact .inr (.inl h)
  have e : l ++ ([p0] ++ e1 ++ e2) = l ++ [p0] ++ e1 ++ e2 := by simp
  refine ⟨fun p hp => ?_, fun p hp => ?_⟩
  · rw [hin]
    simp only [List.mem_append, List.mem_singleton] at hp
    rcases hp with (hp | hp) | hp
    · exact .inl hp
    · exact .inr (.inl (h1.mem p hp))
    · rcases h2 with h2 | ⟨h2, _⟩
      · exact .inr (.inr (h2.mem p hp))
      · rw [h2] at hp; cases hp
  · rw [e]
    rcases (hin p).1 hp with rfl | hp | hp
    · exact .inl (by simp)
    · rcases h1.all p hp with h | h
      · exact .inl (by simp [h])
      · exact .inr (h.app e2)
    · rcases h2 with h2 | ⟨h2, h3⟩
      · rcases h2.all p hp with h | h
        · exact .inl (by simp [h])
        · exact .inr h
      · subst h2
        exact .inr ((h3 p hp).app [])
/-- The points of the two sides are apart, and apart from the node's. -/
theorem ptIn_apart {d : Nat} {t : List Nd} (hK : KdS d t) {i p0 p : Nat} {ax lo hi : Int} (hx : t[i]? = some ⟨(p0 : Nat), ax, lo, hi⟩) : (PtIn t lo p → PtIn t hi p → False) ∧ (PtIn t lo p → p ≠ p0) ∧ (PtIn t hi p → p ≠ p0) := by
  have ho := hK.ok i _ hx
  have hlo := ho.lo
  have hhi := ho.hi
  simp only at hlo hhi
  unfold inR at hlo hhi
  refine ⟨?_, ?_, ?_⟩
  · rintro ⟨j, y, h0, hd, hy, hp⟩ ⟨j', y', h0', hd', hy', hp'⟩
    have hj := hK.pts j j' y y' hy hy' (by omega)
    subst hj
    refine sides_apart hK.up hK.uniq (i := i) (a := lo.toNat) (b := hi.toNat) ⟨_, hx, .inl (by simp only; omega)⟩ ⟨_, hx, .inr (by simp only; omega)⟩ (fun e => ?_) hd hd'
    have := hK.diff i _ hx (by simp only; omega)
    simp only at this; omega
  · rintro ⟨j, y, h0, hd, hy, hp⟩ rfl
    have hj := hK.pts i j _ y hx hy (by simp only; omega)
    have := hd.le hK.up; omega
  · rintro ⟨j, y, h0, hd, hy, hp⟩ rfl
    have hj := hK.pts i j _ y hx hy (by simp only; omega)
    have := hd.le hK.up; omega
end Go.Proofs.Ng
end

