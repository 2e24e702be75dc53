/-
  Texts put together: Cd Bk Bl Bs Bm.
-/
import Derived.Test.YteeeogdfnpdpcaaZNeighborTrees15
import Derived.Test.YteeeogdfnpdpcaaZNeighborTrees14
import Derived.Shelf.SlSortCmp.NoneTotal
import Derived.Test.YteeeogdfnpdpcaaProg
import Derived.Lib.SortBridge
set_option linter.unusedVariables false
section
/-
  Walks: parents: the walk.
-/
namespace Go.Proofs.Ng
open Go.RowKit

theorem new2 (W : World) (a b c d : Value) : Blk (W.alloc (.cells #[a, b, c, d] 36)) W.heap.size [a, b, c, d] := Blk.new W [a, b, c, d] 36
set_option maxRecDepth 100000 in
set_option maxHeartbeats 4000000 in
theorem parents33 (oa ot : Option Addr) (ca ct : Nat) (pts : List (List Int)) (t : List Nd) (w : World) (hP : Pts w oa pts) (hT : Sl w ot 4 (t.map Nd.vals)) (hl : t.length = pts.length) (hv : vpB pts = true) :
    Calls Try.prog 33 #[.slice oa pts.length ca, .slice ot t.length ct] w (ParP (dimP pts) t w) := by
  obtain ⟨hp1024, hdim⟩ := vp_dim hv
  have htl : t.length ≤ 1024 := by omega
  have hmk1 := run_make24 t.length (by omega)
  have hmk2 := run_make44 t.length (by omega)
  have HP := Lib.hid hP
  have HTr := Lib.hid hT
  have HD := Lib.hid hdim
  rw [← hl]
  have HL := Lib.hid hl
  clear hP hT hdim hl hv
  go_enter Try.func33, Try.ntmps33
  go_wp2_with fail
  clear hmk1
  have hA : Blk (w.alloc (.cells (pflat (List.replicate t.length 0)).toArray 3)) w.heap.size (pflat (negL t.length 0)) := by rw [negL_zero]; exact Blk.new w (pflat (List.replicate t.length 0)) 3
  have hB : Below w.heap.size w (w.alloc (.cells (pflat (List.replicate t.length 0)).toArray 3)) := (Below.refl _ _).alloc (Nat.le_refl _) _
  obtain ⟨gA, hgA⟩ : ∃ g, g = w.heap.size := ⟨_, rfl⟩
  rw [← hgA] at hA ⊢
  generalize (w.alloc (.cells (pflat (List.replicate t.length 0)).toArray 3)) = W1 at hA hB ⊢
  have HGA := Lib.hid hgA
  clear hgA
  go_loopw [18] (fun i W => ∃ k : Nat, i = .int .i64 (k : Nat) ∧ k ≤ t.length ∧ Blk W gA (pflat (negL t.length k)) ∧ Below w.heap.size w W) (fun i _ => t.length - (intOf i).toNat)
  case atStart => exact ⟨0, rfl, Nat.zero_le _, hA, hB⟩
  case round =>
    clear hA hB
    obtain ⟨k, rfl, hk, hA, hB⟩ := hrel
    obtain ⟨wa, rfl⟩ : ∃ X, X = wr := ⟨_, rfl⟩
    by_cases hlt : k < t.length
    · have x0 : wa.cell? ⟨gA, k, none⟩ = some (.int .i64 ((negL t.length k)[k]?.getD 0)) := hA.c k _ (pfl_get (by rw [List.getElem?_eq_getElem (by rw [negL_len]; exact hlt)]; rfl))
      have f0 := hA.f k
      have lx := hA.lt
      have HA := Lib.hid hA
      have HB := Lib.hid hB
      clear hA hB
      go_wp2_with fail
      go_roundw
      case rel => exact ⟨k + 1, by simp, by omega, by rw [← negL_set, ← pfl_set]; exact HA.out.put k _, HB.out.setCell (p := ⟨gA, k, none⟩) (by rw [HGA.out]; exact Nat.le_refl _) _⟩
      case measure => simp [intOf]; omega
    · have hke : k = t.length := by omega
      subst hke
      rw [negL_all] at hA
      have HA := Lib.hid hA
      have HB := Lib.hid hB
      clear hA hB
      go_wp2_with fail
      clear hmk2
      have hT2 : Two w (wa.alloc (.cells (bls (List.replicate t.length false)).toArray 4)) gA wa.heap.size (pflat (List.replicate t.length (-1))) (bls (List.replicate t.length false)) :=
        ⟨HA.out.keep ((Below.refl _ _).alloc (Nat.le_refl _) _), Blk.new wa _ 4, below_call HB.out ((Below.refl _ _).alloc (Nat.le_refl _) _), by have := HA.out.lt; omega, by rw [HGA.out]; exact Nat.le_refl _, HB.out.size⟩
      generalize wa.alloc (.cells (bls (List.replicate t.length false)).toArray 4) = W2 at hT2 ⊢
      generalize wa.heap.size = gU at hT2 ⊢
      clear HA HB HGA
      go_loopw [30] (fun i W => ∃ (k : Nat) (ab : List Int) (us : List Bool), i = .int .i64 (k : Nat) ∧ k ≤ t.length ∧ Two w W gA gU (pflat ab) (bls us) ∧ ParI (dimP pts) t k ab us) (fun i _ => t.length - (intOf i).toNat)
      case atStart => exact ⟨0, _, _, rfl, Nat.zero_le _, hT2, ParI.start _ t⟩
      case round =>
        clear hT2 W2
        obtain ⟨k, ab, us, rfl, hk, hT2, hI⟩ := hrel
        obtain ⟨Wb, rfl⟩ : ∃ X, X = wr := ⟨_, rfl⟩
        by_cases hlt : k < t.length
        · obtain ⟨x, hx⟩ : ∃ x, t[k]? = some x := ⟨_, List.getElem?_eq_getElem hlt⟩
          obtain ⟨xp, xa, xl, xh⟩ := x
          obtain ⟨bt, offt, rfl, hTr⟩ := HTr.out (map_ne hlt)
          have hTr2 := hTr.keep hT2.bel
          have x0 : Wb.cell? ⟨bt, offt + k * 4, none⟩ = some (.int .i64 xp) := hTr2.c k _ (map_get hx) 0 _ rfl
          have x1 : Wb.cell? ⟨bt, offt + k * 4 + 1, none⟩ = some (.int .i64 xa) := hTr2.c k _ (map_get hx) 1 _ rfl
          have x2 : Wb.cell? ⟨bt, offt + k * 4 + 2, none⟩ = some (.int .i64 xl) := hTr2.c k _ (map_get hx) 2 _ rfl
          have x3 : Wb.cell? ⟨bt, offt + k * 4 + 3, none⟩ = some (.int .i64 xh) := hTr2.c k _ (map_get hx) 3 _ rfl
          have lt0 := hTr2.lt
          have hgA := hT2.a.lt
          have hgU := hT2.b.lt
          have HX := Lib.hid hx
          have HI := Lib.hid hI
          clear hTr hTr2 hx hI
          go_upto_region 11 with fail
          clear x0 x1 x2 x3 lt0
          have hbx_ := blks1 Wb [.int .i64 xp, .int .i64 xa, .int .i64 xl, .int .i64 xh] 36
          replace hT2 := hT2.keep hbx_.2
          have hod : Wb.heap.size ≤ Wb.heap.size := by omega
          generalize Wb.alloc (.cells #[.int .i64 xp, .int .i64 xa, .int .i64 xl, .int .i64 xh] 36) = W3 at hbx_ hT2 ⊢
          obtain ⟨r8, hbel_⟩ := hbx_
          obtain ⟨n8, hn_⟩ : ∃ n, n = Wb.heap.size := ⟨_, rfl⟩
          rw [← hn_] at r8 ⊢
          replace hod := Nat.le_of_eq hn_.symm
          clear hn_
          have HO : Hid (gA < n8 ∧ gU < n8) := Lib.hid (by omega)
          have HP0 := Lib.hid (HP.out.keep hT2.bel)
          clear hgA hgU hod
          have y0 : W3.cell? ⟨n8, 0, none⟩ = some (.int .i64 xp) := r8.c 0 _ rfl
          have y1 : W3.cell? ⟨n8, 1, none⟩ = some (.int .i64 xa) := r8.c 1 _ rfl
          have y2 : W3.cell? ⟨n8, 2, none⟩ = some (.int .i64 xl) := r8.c 2 _ rfl
          have y3 : W3.cell? ⟨n8, 3, none⟩ = some (.int .i64 xh) := r8.c 3 _ rfl
          have ly := r8.lt
          have HR8 := Lib.hid r8
          have HT2 := Lib.hid hT2
          clear r8 hT2
          by_cases q0 : xp < 0
          · have d0 : decide (xp < 0) = true := decide_eq_true q0
            have HS := Lib.hid (kd_bad (d := dimP pts) HX.out (fun ho => by have := ho.p0; simp only at this; omega))
            clear q0
            go_wp2_with fail
            refine bodyPost_ret (v := .tuple #[.slice none 0 0, .bool false]) (by simp [results, Try.results33, go_sem]) rfl ?_
            exact ⟨HT2.out.bel, .inl ⟨HS.out, rfl⟩⟩
          · have d0 : decide (xp < 0) = false := decide_eq_false q0
            obtain ⟨p, rfl⟩ : ∃ p : Nat, xp = (p : Nat) := ⟨xp.toNat, by omega⟩
            by_cases q1 : t.length ≤ p
            · have d1 : decide ((t.length : Int) ≤ (p : Int)) = true := decide_eq_true (by omega)
              have d1' : decide (t.length ≤ p) = true := decide_eq_true q1
              have HS := Lib.hid (kd_bad (d := dimP pts) HX.out (fun ho => by have := ho.p1; simp only at this; omega))
              clear q0 q1
              go_wp2_with fail
              refine bodyPost_ret (v := .tuple #[.slice none 0 0, .bool false]) (by simp [results, Try.results33, go_sem]) rfl ?_
              exact ⟨HT2.out.bel, .inl ⟨HS.out, rfl⟩⟩
            · have d1 : decide ((t.length : Int) ≤ (p : Int)) = false := decide_eq_false (by omega)
              have d1' : decide (t.length ≤ p) = false := decide_eq_false q1
              have hpl : p < t.length := by omega
              obtain ⟨u, hu⟩ : ∃ u, us[p]? = some u := ⟨_, List.getElem?_eq_getElem (by rw [HI.out.lu]; exact hpl)⟩
              have z0 : W3.cell? ⟨gU, p, none⟩ = some (.bool u) := HT2.out.b.c p _ (bls_get hu)
              have lz := HT2.out.b.lt
              have HU := Lib.hid hu
              clear hu q0 q1
              cases u with
              | true =>
                have HS := Lib.hid (HI.out.used HX.out (p := p) rfl HU.out)
                go_wp2_with fail
                refine bodyPost_ret (v := .tuple #[.slice none 0 0, .bool false]) (by simp [results, Try.results33, go_sem]) rfl ?_
                exact ⟨HT2.out.bel, .inl ⟨HS.out, rfl⟩⟩
              | false =>
                have fz := HT2.out.b.f p
                go_upto_region 14 with fail
                have hT3 := HT2.out.putB p (.bool true)
                rw [bls_set] at hT3
                have r9 := HR8.out.keepG (grown_set W3 gU p (.bool true)) (by have := HO.out; omega)
                clear z0 lz fz y0 y1 y2 y3 ly HT2 HR8
                generalize W3.setCell ⟨gU, p, none⟩ (.bool true) = W4 at hT3 r9 ⊢
                have y0 : W4.cell? ⟨n8, 0, none⟩ = some (.int .i64 (p : Nat)) := r9.c 0 _ rfl
                have y1 : W4.cell? ⟨n8, 1, none⟩ = some (.int .i64 xa) := r9.c 1 _ rfl
                have y2 : W4.cell? ⟨n8, 2, none⟩ = some (.int .i64 xl) := r9.c 2 _ rfl
                have y3 : W4.cell? ⟨n8, 3, none⟩ = some (.int .i64 xh) := r9.c 3 _ rfl
                have ly := r9.lt
                obtain ⟨c0, hc0⟩ : ∃ c, pts[0]? = some c := ⟨_, List.getElem?_eq_getElem (by have := HL.out; omega)⟩
                have hcd := HD.out c0 (List.mem_of_getElem? hc0)
                obtain ⟨bp, offp, oc, cc, hoa, q0, lbp, -⟩ := (HP.out.keep hT3.bel).get hc0
                rw [hcd.1, Nat.add_zero] at q0
                have HT3 := Lib.hid hT3
                have HR9 := Lib.hid r9
                clear hT3 r9 hc0
                have HPO : Hid (oa = some ⟨bp, offp, none⟩) := Lib.hid hoa
                subst hoa
                by_cases a0 : xa < 0
                · have d2 : decide (xa < 0) = true := decide_eq_true a0
                  have HS := Lib.hid (kd_bad (d := dimP pts) HX.out (fun ho => by have := ho.a0; simp only at this; omega))
                  clear a0
                  go_quiet (fail)
                  have HT4 := Lib.hid (HT3.out.keep (below_drew W4 nq))
                  clear HT3
                  generalize W4.drewN nq = W5 at HT4 ⊢
                  go_wp2_with fail
                  refine bodyPost_ret (v := .tuple #[.slice none 0 0, .bool false]) (by simp [results, Try.results33, go_sem]) rfl ?_
                  exact ⟨HT4.out.bel, .inl ⟨HS.out, rfl⟩⟩
                · have d2 : decide (xa < 0) = false := decide_eq_false a0
                  by_cases a1 : (dimP pts : Int) ≤ xa
                  · have d3 : decide ((dimP pts : Int) ≤ xa) = true := decide_eq_true a1
                    have HS := Lib.hid (kd_bad (d := dimP pts) HX.out (fun ho => by have := ho.a1; simp only at this; omega))
                    clear a0 a1
                    go_quiet (fail)
                    have HT4 := Lib.hid (HT3.out.keep (below_drew W4 nq))
                    clear HT3
                    generalize W4.drewN nq = W5 at HT4 ⊢
                    go_wp2_with fail
                    refine bodyPost_ret (v := .tuple #[.slice none 0 0, .bool false]) (by simp [results, Try.results33, go_sem]) rfl ?_
                    exact ⟨HT4.out.bel, .inl ⟨HS.out, rfl⟩⟩
                  · have d3 : decide ((dimP pts : Int) ≤ xa) = false := decide_eq_false a1
                    have HA := Lib.hid (And.intro a0 a1)
                    clear a0 a1
                    go_quiet (fail)
                    have hT4 := HT3.out.keep (below_drew W4 nq)
                    have r10 := HR9.out.keep (below_drew W4 nq)
                    clear y0 y1 y2 y3 ly q0 lbp HT3 HR9
                    generalize W4.drewN nq = W5 at hT4 r10 ⊢
                    have y2 : W5.cell? ⟨n8, 2, none⟩ = some (.int .i64 xl) := r10.c 2 _ rfl
                    have y3 : W5.cell? ⟨n8, 3, none⟩ = some (.int .i64 xh) := r10.c 3 _ rfl
                    have ly := r10.lt
                    have hgA := hT4.a.lt
                    have hgU := hT4.b.lt
                    have HR10 := Lib.hid r10
                    have HT4 := Lib.hid hT4
                    clear r10 hT4
                    go_wp2_with fail
                    clear y2 y3 ly
                    have hbx_ := blks1 W5 [.int .i64 xl, .int .i64 xh] 3
                    replace HT4 := Lib.hid (HT4.out.keep hbx_.2)
                    replace HR10 := Lib.hid (HR10.out.keep hbx_.2)
                    have hod : W5.heap.size ≤ W5.heap.size := by omega
                    generalize W5.alloc (.cells #[.int .i64 xl, .int .i64 xh] 3) = W6 at hbx_ HT4 HR10 ⊢
                    obtain ⟨r11, hbel_⟩ := hbx_
                    obtain ⟨n11, hn_⟩ : ∃ n, n = W5.heap.size := ⟨_, rfl⟩
                    rw [← hn_] at r11 ⊢
                    replace hod := Nat.le_of_eq hn_.symm
                    clear hn_
                    have HN : Hid (gA < n11 ∧ gU < n11) := Lib.hid (by omega)
                    have hT5 := HT4.out
                    have r10 := HR10.out
                    clear hgA hgU hod HT4 HR10
                    go_loopw [74] (fun i W => ∃ c : Nat, i = .int .i64 (c : Nat) ∧ c ≤ 2 ∧ Two w W gA gU (pflat (abK ab k [xl, xh] c)) (bls (us.set p true)) ∧ Blk W n8 [.int .i64 (p : Nat), .int .i64 xa, .int .i64 xl, .int .i64 xh] ∧ Blk W n11 [.int .i64 xl, .int .i64 xh] ∧ ChOk t.length k ab [xl, xh] c) (fun i _ => 2 - (intOf i).toNat)
                    case atStart => exact ⟨0, rfl, Nat.zero_le _, hT5, r10, r11, fun j c h => absurd h (Nat.not_lt_zero _)⟩
                    case round =>
                      clear hT5 r10 r11 hbel_ W6
                      obtain ⟨c, rfl, hc2, hT5, r10, r11, hch⟩ := hrel
                      obtain ⟨Wc, rfl⟩ : ∃ X, X = wr := ⟨_, rfl⟩
                      have HC := Lib.hid hch
                      have l11 := r11.lt
                      have lgA := hT5.a.lt
                      by_cases hlc : c < 2
                      · obtain ⟨ch, hcc⟩ : ∃ ch, [xl, xh][c]? = some ch := ⟨_, List.getElem?_eq_getElem (by simpa using hlc)⟩
                        have z0 : Wc.cell? ⟨n11, c, none⟩ = some (.int .i64 ch) := r11.c c _ (by have := pfl_get hcc; exact this)
                        have HCC := Lib.hid hcc
                        have HR10 := Lib.hid r10
                        have HR11 := Lib.hid r11
                        have HT2 := Lib.hid hT5
                        clear hcc r10 r11 hT5 hch
                        by_cases e1 : ch = -1
                        · have d5 : (ch == -1) = true := by simp [e1]
                          have HNX := Lib.hid (HC.out.next HCC.out (.inl e1) (fun h => absurd e1 h))
                          have HAB := Lib.hid (abK_succ (ab := ab) (i := k) HCC.out)
                          have HE1 := Lib.hid e1
                          clear e1
                          go_wp2_with fail
                          go_roundw
                          case rel => exact ⟨c + 1, by simp, by omega, by rw [HAB.out, ab1, if_pos HE1.out]; exact HT2.out, HR10.out, HR11.out, HNX.out⟩
                          case measure => simp [intOf]; omega
                        · have d5 : (ch == -1) = false := by simp [e1]
                          by_cases e2 : ch ≤ (k : Int)
                          · have d6 : decide (ch ≤ (k : Int)) = true := decide_eq_true e2
                            have HS := Lib.hid (child_out (d := dimP pts) HX.out HCC.out (fun h => by unfold inR at h; omega))
                            clear e1 e2
                            go_wp2_with fail
                            refine bodyPost_ret (v := .tuple #[.slice none 0 0, .bool false]) (by simp [results, Try.results33, go_sem]) rfl ?_
                            exact ⟨HT2.out.bel, .inl ⟨HS.out, rfl⟩⟩
                          · have d6 : decide (ch ≤ (k : Int)) = false := decide_eq_false e2
                            by_cases e3 : (t.length : Int) ≤ ch
                            · have d7 : decide ((t.length : Int) ≤ ch) = true := decide_eq_true e3
                              have HS := Lib.hid (child_out (d := dimP pts) HX.out HCC.out (fun h => by unfold inR at h; omega))
                              clear e1 e2 e3
                              go_wp2_with fail
                              refine bodyPost_ret (v := .tuple #[.slice none 0 0, .bool false]) (by simp [results, Try.results33, go_sem]) rfl ?_
                              exact ⟨HT2.out.bel, .inl ⟨HS.out, rfl⟩⟩
                            · have d7 : decide ((t.length : Int) ≤ ch) = false := decide_eq_false e3
                              have hr : inR k t.length ch := .inr ⟨by omega, by omega⟩
                              obtain ⟨q, rfl⟩ : ∃ q : Nat, ch = (q : Nat) := ⟨ch.toNat, by omega⟩
                              have hql : q < t.length := by omega
                              have d6' : decide (q ≤ k) = false := decide_eq_false (by omega)
                              have d7' : decide (t.length ≤ q) = false := decide_eq_false (by omega)
                              obtain ⟨v, hv⟩ : ∃ v, (abK ab k [xl, xh] c)[q]? = some v := ⟨_, List.getElem?_eq_getElem (by rw [abK_len, HI.out.la]; exact hql)⟩
                              have z1 : Wc.cell? ⟨gA, q, none⟩ = some (.int .i64 v) := HT2.out.a.c q _ (pfl_get hv)
                              have HR := Lib.hid hr
                              have HV := Lib.hid hv
                              have HE1 := Lib.hid e1
                              clear hr hv e1 e2 e3
                              by_cases e4 : v = -1
                              · have d8 : (v != -1) = false := by simp [e4]
                                have f1 := HT2.out.a.f q
                                have HNX := Lib.hid (HC.out.next HCC.out HR.out (fun _ => by have := HV.out; rw [e4] at this; exact this))
                                have HAB := Lib.hid (abK_succ (ab := ab) (i := k) HCC.out)
                                have hT6 := HT2.out.putA q (.int .i64 (k : Nat))
                                rw [pfl_set] at hT6
                                have HT6 := Lib.hid hT6
                                have HR12 := Lib.hid (HR10.out.keepG (grown_set Wc gA q (.int .i64 (k : Nat))) (by have := HO.out; omega))
                                have HR13 := Lib.hid (HR11.out.keepG (grown_set Wc gA q (.int .i64 (k : Nat))) (by have := HN.out; omega))
                                clear e4 hT6
                                go_wp2_with fail
                                go_roundw
                                case rel => exact ⟨c + 1, by simp, by omega, by rw [HAB.out, ab1, if_neg HE1.out]; exact HT6.out, HR12.out, HR13.out, HNX.out⟩
                                case measure => simp [intOf]; omega
                              · have d8 : (v != -1) = true := by simp [e4]
                                have HS := Lib.hid (child_two HI.out HX.out HCC.out HR.out HE1.out HV.out e4)
                                clear e4
                                go_wp2_with fail
                                refine bodyPost_ret (v := .tuple #[.slice none 0 0, .bool false]) (by simp [results, Try.results33, go_sem]) rfl ?_
                                exact ⟨HT2.out.bel, .inl ⟨HS.out, rfl⟩⟩
                      · have hce : c = 2 := by omega
                        subst hce
                        rw [abK_two] at hT5
                        obtain ⟨h0l, h0n⟩ := hch 0 xl (by omega) rfl
                        obtain ⟨h1l, h1n⟩ := hch 1 xh (by omega) rfl
                        have hno : NdOk t.length (dimP pts) k ⟨(p : Nat), xa, xl, xh⟩ := ⟨by simp, by simp; omega, by have := HA.out; simp; omega, by have := HA.out; simp; omega, h0l, h1l⟩
                        have hlow : (ab1 (ab1 ab k xl) k xh)[k]? = ab[k]? := by
                          unfold inR at h0l h1l
                          rw [ab1_low (by omega), ab1_low (by omega)]
                        have HNX := Lib.hid (fun h0 => HI.out.next HX.out hno (by simpa using HU.out) h0n (by rw [abK_succ (k := 0) rfl] at h1n; exact h1n) h0)
                        obtain ⟨v, hv⟩ : ∃ v, ab[k]? = some v := ⟨_, List.getElem?_eq_getElem (by rw [HI.out.la]; exact hlt)⟩
                        have z1 : Wc.cell? ⟨gA, k, none⟩ = some (.int .i64 v) := hT5.a.c k _ (pfl_get (by rw [hlow]; exact hv))
                        have HV := Lib.hid hv
                        have HT2 := Lib.hid hT5
                        clear h0l h0n h1l h1n hno hlow hv hT5 hch r10 r11 HC
                        by_cases e5 : 0 < k
                        · have d9 : decide ((0 : Int) < (k : Int)) = true := decide_eq_true (by omega)
                          have d9' : decide (0 < k) = true := decide_eq_true e5
                          by_cases e6 : v = -1
                          · have d8 : (v == -1) = true := by simp [e6]
                            have HS := Lib.hid (HI.out.none e5 hlt (by have := HV.out; rw [e6] at this; exact this))
                            clear e5 e6
                            go_wp2_with fail
                            refine bodyPost_ret (v := .tuple #[.slice none 0 0, .bool false]) (by simp [results, Try.results33, go_sem]) rfl ?_
                            exact ⟨HT2.out.bel, .inl ⟨HS.out, rfl⟩⟩
                          · have d8 : (v == -1) = false := by simp [e6]
                            have HNY := Lib.hid (HNX.out (fun _ h => by rw [HV.out] at h; injection h with h; exact e6 h))
                            clear e5 e6
                            go_wp2_with fail
                            go_roundw
                            case rel => exact ⟨k + 1, _, _, by simp, by omega, HT2.out, HNY.out⟩
                            case measure => simp [intOf]; omega
                        · have d9 : decide ((0 : Int) < (k : Int)) = false := decide_eq_false (by omega)
                          have d9' : decide (0 < k) = false := decide_eq_false e5
                          have HNY := Lib.hid (HNX.out (fun h _ => e5 h))
                          clear e5
                          go_wp2_with fail
                          go_roundw
                          case rel => exact ⟨k + 1, _, _, by simp, by omega, HT2.out, HNY.out⟩
                          case measure => simp [intOf]; omega
        · have hke : k = t.length := by omega
          subst hke
          have HF := Lib.hid hI.fin
          have HT2 := Lib.hid hT2
          clear hT2 hI
          go_wp2_with fail
          refine bodyPost_ret (v := .tuple #[.slice (some ⟨gA, 0, none⟩) t.length t.length, .bool true]) (by simp [results, Try.results33, go_sem]) rfl ?_
          exact ⟨HT2.out.bel, .inr ⟨gA, ab, HF.out.1, rfl, HT2.out.lg, HT2.out.a, HF.out.2⟩⟩
end Go.Proofs.Ng
end

section
/-
  Walks: the reference's grow.
-/
namespace Go.Proofs.Ng
open Go.RowKit

theorem info36 : (Try.prog.info? 36).map (fun i => (i.zero, i.size, i.bytes)) = some (some (.agg #[.int .i64 0, .int .i64 0, .int .i64 0, .int .i64 0]), 4, 32) := by kernel_rfl
theorem under23 : Try.prog.underlying 23 = some (.slice 36) := by kernel_rfl
/-- What the reference's grow answers. -/
def GrR (base : Nat) (v : Value) (R : List Nd × Int) (W : World) (e : Ending) (W' : World) : Prop :=
  ∃ v', e = .returned (.tuple #[v', .int .i64 R.2]) ∧ W'.ownsRow base 36 4 v' R.1.length (nflat R.1) ∧ W.grownBy W' v.ownBlock ∧ ∀ g, v'.ownBlock = some g → v.ownBlock = some g ∨ W.heap.size ≤ g
set_option maxRecDepth 100000 in
set_option maxHeartbeats 4000000 in
theorem grow31 {w0 : World} {oa : Option Addr} {ca base : Nat} {pts : List (List Int)} (hP : Pts w0 oa pts) (hvp : vpB pts = true) (hw0 : w0.heap.size ≤ base) :
    ∀ (f : Nat) (s : List Nat) (lev : Nat) (t : List Nd) (v : Value) (os : Option Addr) (cs : Nat) (W : World), s.length ≤ f → lev + s.length ≤ 100000 → t.length + s.length ≤ 100000 → (∀ x ∈ s, x < pts.length) → Below w0.heap.size w0 W → base ≤ W.heap.size → W.ownsRow base 36 4 v t.length (nflat t) → Sl W os 1 (nvals s) → s.length ≤ cs → (∀ b off q, os = some ⟨b, off, q⟩ → v.ownBlock ≠ some b) →
    Calls Try.prog 31 #[.slice oa pts.length ca, v, .slice os s.length cs, .int .i64 lev] W (GrR base v (growP pts f t s lev) W) := by
  intro f
  induction f with
  | zero =>
    intro s lev t v os cs W hf hlv hts hlt hB hbs ho hS hcs hne
    have hs0 : s = [] := List.length_eq_zero_iff.1 (by omega)
    subst hs0
    rw [growP_nil]
    go_enter Try.func31, Try.ntmps31
    go_wp2
    exact bodyPost_ret (v := .tuple #[v, .int .i64 (-1)]) (by simp [results, Try.results31, go_sem]) rfl ⟨v, rfl, ho, grown_of_below (Below.refl _ _), fun g hg => .inl hg⟩
  | succ f ih =>
    intro s lev t v os cs W hf hlv hts hlt hB hbs ho hS hcs hne
    by_cases hs0 : s = []
    · subst hs0
      rw [growP_nil]
      go_enter Try.func31, Try.ntmps31
      go_wp2
      exact bodyPost_ret (v := .tuple #[v, .int .i64 (-1)]) (by simp [results, Try.results31, go_sem]) rfl ⟨v, rfl, ho, grown_of_below (Below.refl _ _), fun g hg => .inl hg⟩
    · have hpos : 0 < s.length := List.length_pos_iff.2 hs0
      rw [growP_step hs0]
      obtain ⟨hp1024, hdim⟩ := vp_dim hvp
      obtain ⟨x0, hx0⟩ := List.exists_mem_of_length_pos hpos
      have hx0l := hlt x0 hx0
      obtain ⟨c0, hc0⟩ : ∃ c, pts[0]? = some c := ⟨_, List.getElem?_eq_getElem (by omega)⟩
      have hcd := hdim c0 (List.mem_of_getElem? hc0)
      obtain ⟨bp, offp, oc, cc, rfl, p0, lbp, -⟩ := (hP.keep hB).get hc0
      have hl0 : ((s.length : Int) == 0) = false := by simp; omega
      rw [hcd.1] at p0
      have hd1 : ((dimP pts : Int) == 0) = false := by simp; omega
      have hmod : ((lev : Int)).tmod (dimP pts : Int) = ((axP pts lev : Nat) : Int) := by
        unfold axP
        rw [Int.tmod_eq_emod_of_nonneg (by omega)]
        omega
      have hax : axP pts lev < dimP pts := Nat.mod_lt _ (by omega)
      have haxs : ∀ xs ∈ pts, axP pts lev < xs.length := fun xs hx => by rw [(hdim xs hx).1]; exact hax
      have haN : axP pts lev < 1000 := by omega
      rw [Nat.add_zero] at p0
      have hso := sorted58 (some ⟨bp, offp, none⟩) os ca cs pts s (axP pts lev) W (hP.keep hB) hS hlt haxs (by omega) haN (by omega)
      have HLT := Lib.hid hlt
      have HB := Lib.hid hB
      have HO := Lib.hid ho
      have HNE := Lib.hid hne
      have HSO := Lib.hid hso
      clear hlt hB ho hne hso hS hdim haxs hx0
      go_enter Try.func31, Try.ntmps31
      go_wp2_with fail
      with_reducible refine HSO.out.mono ?_
      rintro e W1 ⟨ol, cl, rfl, hcl, hSl, hB1, hfr⟩
      rw [srt_len] at hcl ⊢
      have hmid := mid_at (pts := pts) (a := axP pts lev) hpos
      obtain ⟨gl, offl, rfl, xm, lgl⟩ := nv_get hSl hmid
      have hgl := hfr _ rfl
      have ho1 := own_keep HO.out hB1
      have hBW1 : Below w0.heap.size w0 W1 := HB.out.trans (hB1.mono HB.out.size)
      obtain ⟨tb, ct, rfl, -⟩ := own_rows (rows := t.map Nd.vals) (nd_four t) (by rw [List.length_map]; exact ho1)
      rw [List.length_map] at ho1 HO HNE ⊢
      have hvg : ∀ g, (Value.slice tb t.length ct).ownBlock = some g → g < W.heap.size := fun g hg => (own_lt HO.out g hg).1
      generalize hmp : midP pts (axP pts lev) s = mp at xm
      obtain ⟨i0, hi, hz0, hz1, hz2⟩ := info_parts info36
      obtain ⟨k, hk⟩ : ∃ k, k = s.length / 2 := ⟨_, rfl⟩
      have hk0 : ((s.length : Int)).tdiv 2 = (k : Int) := by rw [Int.tdiv_eq_ediv_of_nonneg (by omega)]; omega
      have hkl : k < s.length := by omega
      rw [← hk] at xm
      have hba : Below W1.heap.size W1 (W1.alloc (.cells #[.int .i64 (mp : Nat), .int .i64 (axP pts lev : Nat), .int .i64 0, .int .i64 0] 36)) := (Below.refl _ _).alloc (Nat.le_refl _) _
      have HC := Lib.hid (own_keep ho1 hba)
      have HSL := Lib.hid (hSl.keep hba)
      have HBa := Lib.hid (hB1.trans (hba.mono hB1.size))
      have HK := Lib.hid hk
      have HMP := Lib.hid hmp
      have HG1 : Hid (∀ g, (Value.slice tb t.length ct).ownBlock = some g → g < W.heap.size) := Lib.hid hvg
      have hszl : W.heap.size ≤ W1.heap.size := hB1.size
      clear ho1 hba hSl hB1 hBW1 hk hmp hvg hmid
      go_wp2_with (at_builtin; refine wpList_append_own_at _ rfl _ _ 23 rfl base 36 i0 (.agg #[.int .i64 0, .int .i64 0, .int .i64 0, .int .i64 0]) 4 32 under23 hi hz0 hz1 hz2 rfl (by decide) _ _ _ rfl HC.out ⟨W1.heap.size, 0, none⟩ 1 1 [.int .i64 (mp : Nat), .int .i64 (axP pts lev : Nat), .int .i64 0, .int .i64 0] rfl rfl ?c1 ?c2 ?c3 ?c4 ?c5 ?_)
      case c1 => exact new_cells _ _ _
      case c2 => intro u hu; simp at hu; rcases hu with rfl | rfl | rfl <;> rfl
      case c3 => unfold maxLen; omega
      case c4 => omega
      case c5 => exact Nat.le_trans hbs HBa.out.size
      intro v1 W2 ho2 hg2 hn2 hob2
      have hgW2 : W.grownBy W2 (Value.slice tb t.length ct).ownBlock := grown_trans (grown_of_below HBa.out) hg2
      have hSl2 : Sl W2 (some ⟨gl, offl, none⟩) 1 (nvals (srt pts (axP pts lev) s)) := HSL.out.keepO hg2 (fun b off q e => by
        injection e with e; injection e with e _ _
        subst e
        intro h; have := HG1.out _ h; omega)
      have hB2 : Below w0.heap.size w0 W2 := (HB.out.trans (HBa.out.mono HB.out.size)).trans ((grown_below HC.out hg2 (Nat.le_trans hbs HBa.out.size)).mono hw0)
      have hbs2 : base ≤ W2.heap.size := Nat.le_trans hbs hgW2.size
      have hv1 : ∀ g, v1.ownBlock = some g → (Value.slice tb t.length ct).ownBlock = some g ∨ (W.heap.size ≤ g ∧ g ≠ gl) := fun g hg => by
        rcases hob2 with h | h
        · exact .inl (h ▸ hg)
        · rw [h] at hg
          injection hg with hg
          have : W1.heap.size + 1 ≤ (W1.alloc (.cells #[.int .i64 (mp : Nat), .int .i64 (axP pts lev : Nat), .int .i64 0, .int .i64 0] 36)).heap.size := by simp
          exact .inr ⟨by omega, by omega⟩
      obtain ⟨g1, c1, rfl⟩ := own_some ho2 (by omega)
      have ho2' : W2.ownsRow base 36 4 (.slice (some ⟨g1, 0, none⟩) (t.length + 1) c1) (t ++ [(⟨(mp : Nat), (axP pts lev : Nat), 0, 0⟩ : Nd)]).length (nflat (t ++ [⟨(mp : Nat), (axP pts lev : Nat), 0, 0⟩])) := by rw [nflat_snoc, List.length_append]; exact ho2
      have hlow := ih ((srt pts (axP pts lev) s).take k) (lev + 1) (t ++ [⟨(mp : Nat), (axP pts lev : Nat), 0, 0⟩]) (.slice (some ⟨g1, 0, none⟩) (t.length + 1) c1) (some ⟨gl, offl, none⟩) cl W2 (by rw [List.length_take, srt_len]; omega) (by rw [List.length_take, srt_len]; omega) (by rw [List.length_take, srt_len]; simp; omega) (fun x hx => HLT.out x (srt_mem.1 (List.mem_of_mem_take hx))) hB2 hbs2 ho2' (hSl2.take k) (by rw [List.length_take, srt_len]; omega) (fun b off q e => by
        injection e with e; injection e with e _ _
        subst e
        intro h
        rcases hv1 _ h with h1 | h1
        · have := HG1.out _ h1; omega
        · exact h1.2 rfl)
      have e1 : ((lev + 1 : Nat) : Int) = (lev : Int) + 1 := by omega
      have e2 : growP pts f (t ++ [⟨(mp : Nat), (axP pts lev : Nat), 0, 0⟩]) ((srt pts (axP pts lev) s).take k) (lev + 1) = lowP pts f t s lev := by rw [← HMP.out, HK.out]; rfl
      rw [e1, e2, List.length_take, srt_len, Nat.min_eq_left (by omega)] at hlow
      have HLOW := Lib.hid hlow
      have HS2 := Lib.hid hSl2
      have HGW2 := Lib.hid hgW2
      have HB2 := Lib.hid hB2
      have HV1 := Lib.hid hv1
      have hll := lowP_len (pts := pts) (t := t) (lev := lev) hf
      rw [← HK.out] at hll
      generalize hR1 : lowP pts f t s lev = R1 at HLOW hll ⊢
      have HR1 := Lib.hid hR1
      have HLL := Lib.hid hll
      clear hR1 hlow hSl2 hgW2 hB2 hv1 ho2 ho2' hob2 hn2 e1 e2 hll HC HSL HBa hi hz0 hz1 hz2 hg2
      go_wp2_with fail
      with_reducible refine HLOW.out.mono ?_
      rintro e W3 ⟨v2, rfl, ho3, hg3, hv3⟩
      obtain ⟨g2, c2, rfl⟩ := own_some ho3 (by rw [HLL.out]; omega)
      have hSl3 : Sl W3 (some ⟨gl, offl, none⟩) 1 (nvals (srt pts (axP pts lev) s)) := HS2.out.keepO hg3 (fun b off q e => by
        injection e with e; injection e with e _ _
        subst e
        intro h
        rcases HV1.out _ h with h1 | h1
        · have := HG1.out _ h1; omega
        · exact h1.2 rfl)
      have hgW3 : W.grownBy W3 (Value.slice tb t.length ct).ownBlock := grown_chain HGW2.out hg3 (fun g hg => by
        rcases HV1.out g hg with h1 | h1
        · exact .inl h1
        · exact .inr h1.1)
      have hv2 : ∀ g, (Value.slice (some ⟨g2, 0, none⟩) R1.1.length c2).ownBlock = some g → (Value.slice tb t.length ct).ownBlock = some g ∨ (W.heap.size ≤ g ∧ g ≠ gl) := fun g hg => by
        rcases hv3 g hg with h | h
        · exact HV1.out g h
        · have := HGW2.out.size
          have := HS2.out
          exact .inr ⟨by omega, fun e => by subst e; have := (HS2.out (by intro h0; simp [nvals] at h0; rw [← List.length_eq_zero_iff, srt_len] at h0; omega)); obtain ⟨b, off, e, hr⟩ := this; injection e with e; injection e with e _ _; have := hr.lt; omega⟩
      have hB3 : Below w0.heap.size w0 W3 := HB2.out.trans ⟨hg3.os, hg3.tape, hg3.output, hg3.size, fun q hq => hg3.block q (Nat.lt_of_lt_of_le hq HB2.out.size) (fun e => by
        have := HB.out.size
        rcases HV1.out q e.symm with h1 | h1
        · have := (own_lt HO.out q h1).2; omega
        · omega)⟩
      have hbs3 : base ≤ W3.heap.size := Nat.le_trans hbs hgW3.size
      have hhigh : ∀ o' c' : Nat, (o' = offl + (k + 1) ∨ s.length - (k + 1) = 0) → s.length - (k + 1) ≤ c' → _ := fun o' c' ho' hc' => ih ((srt pts (axP pts lev) s).drop (k + 1)) (lev + 1) R1.1 (.slice (some ⟨g2, 0, none⟩) R1.1.length c2) (some ⟨gl, o', none⟩) c' W3 (by rw [List.length_drop, srt_len]; omega) (by rw [List.length_drop, srt_len]; omega) (by rw [List.length_drop, srt_len, HLL.out]; omega) (fun x hx => HLT.out x (srt_mem.1 (List.mem_of_mem_drop hx))) hB3 hbs3 ho3 (by
          rcases ho' with h | h
          · rw [h]; exact hSl3.drop (k + 1)
          · have h0 : (srt pts (axP pts lev) s).drop (k + 1) = [] := List.length_eq_zero_iff.1 (by rw [List.length_drop, srt_len]; exact h)
            rw [h0]; exact fun h => absurd rfl h) (by rw [List.length_drop, srt_len]; omega) (fun b off q e => by
        injection e with e; injection e with e _ _
        subst e
        intro h
        rcases hv2 _ h with h1 | h1
        · have := HG1.out _ h1; omega
        · exact h1.2 rfl)
      have e1 : ((lev + 1 : Nat) : Int) = (lev : Int) + 1 := by omega
      have e2 : growP pts f R1.1 ((srt pts (axP pts lev) s).drop (k + 1)) (lev + 1) = highP pts f t s lev := by rw [← HR1.out, HK.out]; rfl
      rw [e1, e2, List.length_drop, srt_len] at hhigh
      have HHI := Lib.hid hhigh
      have HGW3 := Lib.hid hgW3
      have HV2 := Lib.hid hv2
      have hhl := highP_len (pts := pts) (t := t) (lev := lev) hf hpos
      generalize hR2 : highP pts f t s lev = R2 at HHI hhl ⊢
      have HR2 := Lib.hid hR2
      have HHL := Lib.hid hhl
      clear hR2 hhigh hSl3 hgW3 hv2 hB3 ho3 e1 e2 hhl HS2 HLOW HB2 HV1 HGW2 hg3 hv3
      by_cases hck : cl = k + 1
      · subst hck
        have hhj := HHI.out offl 0 (.inr (by omega)) (by omega)
        rw [show s.length - (k + 1) = 0 by omega] at hhj
        have HHJ := Lib.hid hhj
        clear HHI hhj
        go_wp2_with fail
        with_reducible refine HHJ.out.mono ?_
        rintro e W4 ⟨v3, rfl, ho4, hg4, hv4⟩
        obtain ⟨g3, c3, rfl⟩ := own_some ho4 (by rw [HHL.out]; omega)
        have hgW4 : W.grownBy W4 (Value.slice tb t.length ct).ownBlock := grown_chain HGW3.out hg4 (fun g hg => by
          rcases HV2.out g hg with h1 | h1
          · exact .inl h1
          · exact .inr h1.1)
        have hv3' : ∀ g, (Value.slice (some ⟨g3, 0, none⟩) R2.1.length c3).ownBlock = some g → (Value.slice tb t.length ct).ownBlock = some g ∨ W.heap.size ≤ g := fun g hg => by
          rcases hv4 g hg with h | h
          · rcases HV2.out g h with h1 | h1
            · exact .inl h1
            · exact .inr h1.1
          · have := HGW3.out.size; exact .inr (by omega)
        obtain ⟨nd, hnd⟩ : ∃ nd, R2.1[t.length]? = some nd := ⟨_, List.getElem?_eq_getElem (by rw [HHL.out]; omega)⟩
        have z2 : W4.cell? ⟨g3, t.length * 4 + 2, none⟩ = some (.int .i64 nd.lo) := own_at ho4 _ _ (nflat_at hnd (j := 2) rfl)
        have z3 : W4.cell? ⟨g3, t.length * 4 + 3, none⟩ = some (.int .i64 nd.hi) := own_at ho4 _ _ (nflat_at hnd (j := 3) rfl)
        have f2 := own_frozen ho4 (by rw [HHL.out]; omega) (t.length * 4 + 2)
        have f3 := own_frozen ho4 (by rw [HHL.out]; omega) (t.length * 4 + 3)
        have l3 := (own_lt ho4 g3 rfl).1
        have hog : (Value.slice tb t.length ct).ownBlock = some g3 ∨ W.heap.size ≤ g3 := hv3' g3 rfl
        have HF1 := Lib.hid (grown_setO (grown_setO hgW4 hog (t.length * 4 + 2) (.int .i64 R1.2)) hog (t.length * 4 + 3) (.int .i64 R2.2))
        have hFo := own_set1 (own_set1 ho4 (t.length * 4 + 2) (by rw [HHL.out]; omega) (.int .i64 R1.2)) (t.length * 4 + 3) (by rw [HHL.out]; omega) (.int .i64 R2.2)
        rw [nflat_lh (by rw [HHL.out]; omega)] at hFo
        have HFO := Lib.hid hFo
        have HV3 := Lib.hid hv3'
        have hi1 : ((t.length : Nat) : Int) < ((R2.1.length : Nat) : Int) := by rw [HHL.out]; omega
        clear hgW4 hv3' hFo hnd ho4 hog hg4 hv4 HHJ HGW3 HV2
        go_wp2_with fail
        refine bodyPost_ret (v := .tuple #[.slice (some ⟨g3, 0, none⟩) R2.1.length c3, .int .i64 t.length]) (by simp [results, Try.results31, go_sem]) rfl ?_
        rw [HR1.out, HR2.out, List.length_map]
        exact ⟨_, rfl, by rw [setLH_len]; exact HFO.out, HF1.out, HV3.out⟩
      · have HHJ := Lib.hid (HHI.out (offl + (k + 1)) (cl - (k + 1)) (.inl rfl) (by omega))
        clear HHI
        go_wp2_with fail
        with_reducible refine HHJ.out.mono ?_
        rintro e W4 ⟨v3, rfl, ho4, hg4, hv4⟩
        obtain ⟨g3, c3, rfl⟩ := own_some ho4 (by rw [HHL.out]; omega)
        have hgW4 : W.grownBy W4 (Value.slice tb t.length ct).ownBlock := grown_chain HGW3.out hg4 (fun g hg => by
          rcases HV2.out g hg with h1 | h1
          · exact .inl h1
          · exact .inr h1.1)
        have hv3' : ∀ g, (Value.slice (some ⟨g3, 0, none⟩) R2.1.length c3).ownBlock = some g → (Value.slice tb t.length ct).ownBlock = some g ∨ W.heap.size ≤ g := fun g hg => by
          rcases hv4 g hg with h | h
          · rcases HV2.out g h with h1 | h1
            · exact .inl h1
            · exact .inr h1.1
          · have := HGW3.out.size; exact .inr (by omega)
        obtain ⟨nd, hnd⟩ : ∃ nd, R2.1[t.length]? = some nd := ⟨_, List.getElem?_eq_getElem (by rw [HHL.out]; omega)⟩
        have z2 : W4.cell? ⟨g3, t.length * 4 + 2, none⟩ = some (.int .i64 nd.lo) := own_at ho4 _ _ (nflat_at hnd (j := 2) rfl)
        have z3 : W4.cell? ⟨g3, t.length * 4 + 3, none⟩ = some (.int .i64 nd.hi) := own_at ho4 _ _ (nflat_at hnd (j := 3) rfl)
        have f2 := own_frozen ho4 (by rw [HHL.out]; omega) (t.length * 4 + 2)
        have f3 := own_frozen ho4 (by rw [HHL.out]; omega) (t.length * 4 + 3)
        have l3 := (own_lt ho4 g3 rfl).1
        have hog : (Value.slice tb t.length ct).ownBlock = some g3 ∨ W.heap.size ≤ g3 := hv3' g3 rfl
        have HF1 := Lib.hid (grown_setO (grown_setO hgW4 hog (t.length * 4 + 2) (.int .i64 R1.2)) hog (t.length * 4 + 3) (.int .i64 R2.2))
        have hFo := own_set1 (own_set1 ho4 (t.length * 4 + 2) (by rw [HHL.out]; omega) (.int .i64 R1.2)) (t.length * 4 + 3) (by rw [HHL.out]; omega) (.int .i64 R2.2)
        rw [nflat_lh (by rw [HHL.out]; omega)] at hFo
        have HFO := Lib.hid hFo
        have HV3 := Lib.hid hv3'
        have hi1 : ((t.length : Nat) : Int) < ((R2.1.length : Nat) : Int) := by rw [HHL.out]; omega
        clear hgW4 hv3' hFo hnd ho4 hog hg4 hv4 HHJ HGW3 HV2
        go_wp2_with fail
        refine bodyPost_ret (v := .tuple #[.slice (some ⟨g3, 0, none⟩) R2.1.length c3, .int .i64 t.length]) (by simp [results, Try.results31, go_sem]) rfl ?_
        rw [HR1.out, HR2.out, List.length_map]
        exact ⟨_, rfl, by rw [setLH_len]; exact HFO.out, HF1.out, HV3.out⟩
end Go.Proofs.Ng
end

section
/-
  Walks: the reference's Build.
-/
namespace Go.Proofs.Ng
open Go.RowKit

def buildP (pts : List (List Int)) : List Nd := if vpB pts = true then (growP pts pts.length [] (List.range pts.length) 0).1 else []
/-- A new slice of nodes. -/
def NodesP (nodes : List Nd) (W : World) (e : Ending) (W' : World) : Prop := ∃ (ot : Option Addr) (ct : Nat), e = .returned (.slice ot nodes.length ct) ∧ nodes.length ≤ ct ∧ Sl W' ot 4 (nodes.map Nd.vals) ∧ Below W.heap.size W W' ∧ ∀ a, ot = some a → W.heap.size ≤ a.block
theorem own_nodes {W W' : World} {v : Value} {nodes : List Nd} (ho : W'.ownsRow W.heap.size 36 4 v nodes.length (nflat nodes)) (hb : Below W.heap.size W W') : NodesP nodes W (.returned v) W' := by
  obtain ⟨ot, ct, rfl, hs⟩ := own_rows (rows := nodes.map Nd.vals) (nd_four nodes) (by rw [List.length_map]; exact ho)
  rw [List.length_map] at ho ⊢
  exact ⟨ot, ct, rfl, (own_cap ho).1, hs, hb, own_fresh ho⟩
set_option maxRecDepth 100000 in
set_option maxHeartbeats 4000000 in
theorem refBuild12 (oa : Option Addr) (ca : Nat) (pts : List (List Int)) (w : World) (hP : Pts w oa pts) :
    Calls Try.prog 12 #[.slice oa pts.length ca] w (NodesP (buildP pts) w) := by
  by_cases hv : vpB pts = true
  · have hbp : buildP pts = (growP pts pts.length [] (List.range pts.length) 0).1 := by unfold buildP; rw [if_pos hv]
    obtain ⟨hp1024, -⟩ := vp_dim hv
    have h30 := validPoints30 oa ca pts w hP
    rw [hv] at h30
    have hgl := growP_len pts pts.length [] (List.range pts.length) 0 (by simp)
    have hgrow := fun (W : World) (ho : Below w.heap.size w W) (os : Option Addr) (cs : Nat) (hS : Sl W os 1 (nvals (List.range pts.length))) (hcs : pts.length ≤ cs) => grow31 hP hv (Nat.le_refl w.heap.size) (ca := ca) pts.length (List.range pts.length) 0 [] (.slice none 0 0) os cs W (by simp) (by simp; omega) (by simp; omega) (fun x hx => List.mem_range.1 hx) ho ho.size (World.ownsRow_nil _ _ _ _) hS (by simpa using hcs) (fun b off q _ h => by cases h)
    rw [List.length_range, show (((0 : Nat) : Int)) = 0 from rfl] at hgrow
    rw [hbp]
    generalize growP pts pts.length [] (List.range pts.length) 0 = R at hgrow hgl ⊢
    have HG := Lib.hid hgrow
    have HGL := Lib.hid hgl
    have H30 := Lib.hid h30
    clear hgrow hgl h30 hbp hv
    go_enter Try.func12, Try.ntmps12
    go_wp2_with fail
    with_reducible refine H30.out.mono ?_
    rintro e W1 ⟨rfl, q, rfl⟩
    have hB1 := below_drew w q
    generalize w.drewN q = W1 at hB1 ⊢
    go_wp2_with fail
    go_loopw [3, 4] (fun v i W => ∃ k : Nat, k ≤ pts.length ∧ i = .int .i64 (k : Nat) ∧ W.ownsRow w.heap.size 3 1 v k (nvals (List.range k)).flatten ∧ Below w.heap.size w W) (fun _ i _ => pts.length - (intOf i).toNat)
    case atStart => exact ⟨0, Nat.zero_le _, rfl, World.ownsRow_nil _ _ _ _, hB1⟩
    case round =>
      clear hB1
      obtain ⟨k, hk, rfl, hO, hB⟩ := hrel
      by_cases hlt : k < pts.length
      · obtain ⟨i0, hi, hz0, hz1, hz2⟩ := info_parts info3
        have hb2 : Below wr.heap.size wr (wr.alloc (.cells #[.int .i64 (k : Nat)] 3)) := (Below.refl _ _).alloc (Nat.le_refl _) _
        have HC2 := Lib.hid (own_keep hO hb2)
        have HBC := Lib.hid (below_call hB hb2)
        clear hO hB hb2
        go_wp2_with (at_builtin; refine wpList_append_own _ rfl _ _ 24 rfl w.heap.size 3 i0 (.int .i64 0) 1 8 under24 hi hz0 hz1 hz2 rfl (by decide) _ _ _ rfl HC2.out ⟨wr.heap.size, 0, none⟩ 1 1 [.int .i64 (k : Nat)] rfl rfl ?c1 ?c2 ?c3 ?c4 ?c5 ?_)
        case c1 => exact new_cells _ _ _
        case c2 => intro u hu; simp at hu; subst hu; rfl
        case c3 => unfold maxLen; omega
        case c4 => omega
        case c5 => exact HBC.out.size
        intro v' w' hown' hgrow _
        have HO : Hid (w'.ownsRow w.heap.size 3 1 v' (k + 1) (nvals (List.range (k + 1))).flatten) := Lib.hid (by
          have e : (nvals (List.range (k + 1))).flatten = (nvals (List.range k)).flatten ++ [.int .i64 (k : Nat)] := by simp [nvals_flat, List.range_succ]
          rw [e]; exact hown')
        have HB := Lib.hid (HBC.out.trans (grown_below HC2.out hgrow HBC.out.size))
        clear hown' hgrow HC2 HBC hi hz0 hz1 hz2
        go_wp2_with fail
        go_roundw
        case rel => exact ⟨k + 1, by omega, by simp, HO.out, HB.out⟩
        case measure => simp [intOf]; omega
      · have hke : k = pts.length := by omega
        subst hke
        obtain ⟨os, cs, rfl, hS⟩ := own_rows (nvals_one (List.range pts.length)) (by rw [nvals_len, List.length_range]; exact hO)
        rw [nvals_len, List.length_range] at hO ⊢
        have hcs := (own_cap hO).1
        have HGG := Lib.hid (HG.out wr hB os cs hS hcs)
        have HB := Lib.hid hB
        clear hO hS hcs hB HG
        go_wp2_with fail
        with_reducible refine HGG.out.mono ?_
        rintro e W2 ⟨v', rfl, ho2, hg2, -⟩
        have hB2 : Below w.heap.size w W2 := HB.out.trans ⟨hg2.os, hg2.tape, hg2.output, hg2.size, fun q hq => hg2.block q (Nat.lt_of_lt_of_le hq HB.out.size) (fun e => by cases e)⟩
        have HF := Lib.hid (own_nodes ho2 hB2)
        clear ho2 hg2 hB2
        go_wp2
        go_ret
        exact HF.out
  · have hv' : vpB pts = false := by simpa using hv
    have hbp : buildP pts = [] := by unfold buildP; rw [if_neg hv]
    rw [hbp]
    have h30 := validPoints30 oa ca pts w hP
    rw [hv'] at h30
    have H30 := Lib.hid h30
    clear h30 hv hv' hbp
    go_enter Try.func12, Try.ntmps12
    go_wp2_with fail
    with_reducible refine H30.out.mono ?_
    rintro e W1 ⟨rfl, q, rfl⟩
    go_wp2
    go_ret
    exact ⟨none, 0, rfl, Nat.le_refl _, fun h => absurd rfl h, below_drew w q, fun a h => by cases h⟩
end Go.Proofs.Ng
end

section
/-
  The library sort by a function, laid at this program in plain words (printed by lay-plain.mjs).
-/
namespace Go.Proofs
open Go.Shelf
def Try.sortL_ren : Go.Shelf.Ren := ⟨fun | 6 => 27 | 15 => 57 | 14 => 56 | 28 => 79 | 29 => 80 | 20 => 71 | 21 => 72 | 22 => 73 | 23 => 74 | 24 => 75 | 25 => 76 | 26 => 77 | 27 => 78 | 46 => 89 | 47 => 90 | 48 => 91 | 49 => 92 | 50 => 93 | 57 => 100 | n => n, fun | 22 => 24 | 24 => 3 | 25 => 40 | 3 => 3 | 39 => 53 | 0 => 0 | 53 => 116 | 55 => 118 | 4 => 4 | 46 => 109 | 45 => 108 | 50 => 113 | 5 => 5 | 9 => 9 | 66 => 132 | 70 => 136 | 76 => 142 | 77 => 143 | n => n, fun | n => n⟩
theorem Try.sortL : Go.Proofs.SlLaysF.n6 Try.prog Try.sortL_ren := {
  mixed := by kernel_rfl
  f6 := ⟨Try.f27.name, by decide, Try.func27.trans (congrArg some (by kernel_rfl))⟩
  f14 := ⟨Try.f56.name, by decide, Try.func56.trans (congrArg some (by kernel_rfl))⟩
  f15 := Try.func57.trans (congrArg some (by kernel_rfl))
  f20 := ⟨Try.f71.name, by decide, Try.func71.trans (congrArg some (by kernel_rfl))⟩
  f21 := ⟨Try.f72.name, by decide, Try.func72.trans (congrArg some (by kernel_rfl))⟩
  f22 := ⟨Try.f73.name, by decide, Try.func73.trans (congrArg some (by kernel_rfl))⟩
  f23 := ⟨Try.f74.name, by decide, Try.func74.trans (congrArg some (by kernel_rfl))⟩
  f24 := ⟨Try.f75.name, by decide, Try.func75.trans (congrArg some (by kernel_rfl))⟩
  f25 := ⟨Try.f76.name, by decide, Try.func76.trans (congrArg some (by kernel_rfl))⟩
  f26 := ⟨Try.f77.name, by decide, Try.func77.trans (congrArg some (by kernel_rfl))⟩
  f27 := ⟨Try.f78.name, by decide, Try.func78.trans (congrArg some (by kernel_rfl))⟩
  f28 := Try.func79.trans (congrArg some (by kernel_rfl))
  f29 := Try.func80.trans (congrArg some (by kernel_rfl))
  f46 := ⟨Try.f89.name, by decide, Try.func89.trans (congrArg some (by kernel_rfl))⟩
  f47 := Try.func90.trans (congrArg some (by kernel_rfl))
  f48 := Try.func91.trans (congrArg some (by kernel_rfl))
  f49 := ⟨Try.f92.name, by decide, Try.func92.trans (congrArg some (by kernel_rfl))⟩
  f50 := ⟨Try.f93.name, by decide, Try.func93.trans (congrArg some (by kernel_rfl))⟩
  f57 := ⟨Try.f100.name, by decide, Try.func100.trans (congrArg some (by kernel_rfl))⟩
  t0 := Try.underlying0
  a0 := Try.isAgg0
  z0 := Try.sizeOf0
  v0 := Try.zeroValue0
  t3 := Try.underlying3
  a3 := Try.isAgg3
  z3 := Try.sizeOf3
  v3 := Try.zeroValue3
  t4 := Try.underlying4
  a4 := Try.isAgg4
  z4 := Try.sizeOf4
  v4 := Try.zeroValue4
  t5 := Try.underlying5
  a5 := Try.isAgg5
  z5 := Try.sizeOf5
  v5 := Try.zeroValue5
  t9 := Try.underlying9
  a9 := Try.isAgg9
  z9 := Try.sizeOf9
  v9 := Try.zeroValue9
  t22 := Try.underlying24
  a22 := Try.isAgg24
  z22 := Try.sizeOf24
  v22 := Try.zeroValue24
  a24 := Try.isAgg3
  z24 := Try.sizeOf3
  t25 := Try.underlying40
  a25 := Try.isAgg40
  z25 := Try.sizeOf40
  v25 := Try.zeroValue40
  t39 := Try.underlying53
  a39 := Try.isAgg53
  z39 := Try.sizeOf53
  v39 := Try.zeroValue53
  t45 := Try.underlying108
  a45 := Try.isAgg108
  z45 := Try.sizeOf108
  v45 := Try.zeroValue108
  t46 := Try.underlying109
  a46 := Try.isAgg109
  z46 := Try.sizeOf109
  v46 := Try.zeroValue109
  t50 := Try.underlying113
  a50 := Try.isAgg113
  z50 := Try.sizeOf113
  v50 := Try.zeroValue113
  t53 := Try.underlying116
  a53 := Try.isAgg116
  z53 := Try.sizeOf116
  v53 := Try.zeroValue116
  t55 := Try.underlying118
  a55 := Try.isAgg118
  z55 := Try.sizeOf118
  v55 := Try.zeroValue118
  t66 := Try.underlying132
  a66 := Try.isAgg132
  z66 := Try.sizeOf132
  v66 := Try.zeroValue132
  t70 := Try.underlying136
  a70 := Try.isAgg136
  z70 := Try.sizeOf136
  v70 := Try.zeroValue136
  t76 := Try.underlying142
  a76 := Try.isAgg142
  z76 := Try.sizeOf142
  v76 := Try.zeroValue142
  t77 := Try.underlying143
  a77 := Try.isAgg143
  z77 := Try.sizeOf143
  v77 := Try.zeroValue143 }
end Go.Proofs
end

section
/-
  Walks: the closure of the sort; the sort of a part of the set.
-/
namespace Go.Proofs.Ng
open Go.RowKit Go.Shelf Go.Sort

/-! the comparison's sign -/
theorem cmpI_lt {x y : Int} : cmpI x y < 0 ↔ x < y := by
  unfold cmpI
  split
  · simp; assumption
  · split <;> simp <;> omega
theorem cmpI_zero {x y : Int} : cmpI x y = 0 ↔ x = y := by
  unfold cmpI
  split
  · simp; omega
  · split <;> simp <;> omega
theorem ordI_lt (pts : List (List Int)) (a i j : Nat) : decide (ordI pts a i j < 0) = bef pts a i j := by
  unfold ordI bef orI
  by_cases h : key pts a i = key pts a j
  · rw [if_pos (cmpI_zero.2 h)]
    have := @cmpI_lt (i : Int) (j : Int)
    rw [decide_eq_decide, this]
    omega
  · rw [if_neg (fun e => h (cmpI_zero.1 e))]
    have := @cmpI_lt (key pts a i) (key pts a j)
    rw [decide_eq_decide, this]
    omega

set_option maxHeartbeats 1000000 in
/-- The comparison that Build hands to the sort. -/
theorem closure28 {w0 : World} {oa : Option Addr} {ca b1 ba : Nat} {pts : List (List Int)} (hP : Pts w0 oa pts) (a i j : Nat) (X : World) (hB : Below w0.heap.size w0 X) (c1 : X.cell? ⟨b1, 0, none⟩ = some (.slice oa pts.length ca)) (c2 : X.cell? ⟨ba, 0, none⟩ = some (.int .i64 a)) (l1 : b1 < X.heap.size) (l2 : ba < X.heap.size) (hi : i < pts.length) (hj : j < pts.length) (ha : ∀ xs ∈ pts, a < xs.length) (hn : pts.length ≤ 100000) (haN : a < 1000) :
    Calls Try.prog 28 #[.int .i64 i, .int .i64 j, .pointer (some ⟨b1, 0, none⟩), .pointer (some ⟨ba, 0, none⟩)] X fun e w' => e = .returned (.int .i64 (ordI pts a i j)) ∧ Gr X w' := by
  have HO := Lib.hid (order29 oa ca pts a i j X (hP.keep hB) hi hj ha hn haN)
  clear hP hB ha
  go_enter Try.func28, Try.ntmps28
  go_wp2_with fail
  with_reducible refine HO.out.mono ?_
  rintro e W1 ⟨rfl, hg⟩
  go_wp2
  go_ret
  exact ⟨rfl, hg⟩

/-! what a sorted part leaves -/
variable {α : Type} [Inhabited α]
theorem sw_block (enc : α → Value) (w : World) (blk off m : Nat) (dk : Array α) (os : Array Obj) (k : Nat) (hk : k < w.heap.size) (hne : k ≠ blk) : (sortWorld enc w blk off m dk os).heap[k]? = w.heap[k]? := by
  unfold sortWorld
  rw [heap_grow_old _ _ (by simp; exact hk)]
  show ((Sort.ahead w m).heap.modify blk _)[k]? = _
  rw [Array.getElem?_modify, if_neg (fun e => hne e.symm)]
  rfl
theorem sw_grown (enc : α → Value) (w : World) (blk off m : Nat) (dk : Array α) (os : Array Obj) : w.grownBy (sortWorld enc w blk off m dk os) (some blk) :=
  ⟨rfl, rfl, rfl, by unfold sortWorld; simp, fun k hk hn => sw_block enc w blk off m dk os k hk (fun e => hn (by rw [e]))⟩
theorem sw_below (enc : α → Value) (w : World) (blk off m : Nat) (dk : Array α) (os : Array Obj) {B : Nat} (hB : B ≤ blk) (hw : B ≤ w.heap.size) : Below B w (sortWorld enc w blk off m dk os) :=
  ⟨rfl, rfl, rfl, (sw_grown enc w blk off m dk os).size, fun k hk => sw_block enc w blk off m dk os k (by omega) (by omega)⟩

def cvs (c : List Nat) : List Value := c.map fun x => .int .i64 (x : Nat)
theorem cvs_get {c : List Nat} {k x : Nat} (h : c[k]? = some x) : (cvs c)[k]? = some (.int .i64 (x : Nat)) := by simp [cvs, h]
set_option maxHeartbeats 2000000 in
/-- The sort of a part of the set. -/
theorem sort27 {w0 : World} {oa : Option Addr} {ca b1 ba bs off n cap : Nat} {pts : List (List Int)} {c : List Nat} (hP : Pts w0 oa pts) (a : Nat) (W : World) (hB : Below w0.heap.size w0 W) (hbs : w0.heap.size ≤ bs) (hS : Blk W bs (cvs c))
    (c1 : W.cell? ⟨b1, 0, none⟩ = some (.slice oa pts.length ca)) (c2 : W.cell? ⟨ba, 0, none⟩ = some (.int .i64 a)) (l1 : b1 < W.heap.size) (l2 : ba < W.heap.size) (n1 : b1 ≠ bs) (n2 : ba ≠ bs) (hn0 : 0 < n) (hoff : off + n ≤ c.length) (hlt : ∀ x ∈ c, x < pts.length) (ha : ∀ xs ∈ pts, a < xs.length) (hn : pts.length ≤ 100000) (haN : a < 1000) (hc : c.length ≤ 100000) :
    Calls Try.prog 27 #[.slice (some ⟨bs, off, none⟩) n cap, .func (.func 28) #[] #[.pointer (some ⟨b1, 0, none⟩), .pointer (some ⟨ba, 0, none⟩)]] W fun e W' =>
      e = .returned (.tuple #[]) ∧ Blk W' bs (cvs (c.take off ++ (srt pts a ((c.drop off).take n) ++ c.drop (off + n)))) ∧ W.grownBy W' (some bs) := by
  have hpl : 0 < pts.length := by
    obtain ⟨x, hx⟩ : ∃ x, c[off]? = some x := ⟨_, List.getElem?_eq_getElem (by omega)⟩
    have := hlt x (List.mem_of_getElem? hx)
    omega
  haveI : Inhabited (Fin pts.length) := ⟨⟨0, hpl⟩⟩
  have hsl : ((c.drop off).take n).length = n := by rw [List.length_take, List.length_drop]; omega
  have hslt : ∀ x ∈ (c.drop off).take n, x < pts.length := fun x hx => hlt x (List.mem_of_mem_drop (List.mem_of_mem_take hx))
  generalize hs : (c.drop off).take n = s at hsl hslt ⊢
  obtain ⟨d, hd⟩ : ∃ d : List (Fin pts.length), d.map Fin.val = s := ⟨s.pmap (fun x h => (⟨x, h⟩ : Fin pts.length)) hslt, by rw [List.map_pmap]; simp⟩
  have hdl : d.length = n := by rw [← hsl, ← hd, List.length_map]
  let enc : Fin pts.length → Value := fun x => .int .i64 (x.val : Nat)
  let cf : Fin pts.length → Fin pts.length → Int := fun x y => ordI pts a x.val y.val
  have hltOf : ∀ x y, ltOf cf x y = bef pts a x.val y.val := fun x y => ordI_lt pts a x.val y.val
  have hO : SWO (ltOf cf) := ⟨fun x => by rw [hltOf]; simp [bef], fun x y z h1 h2 => by rw [hltOf] at *; simp only [bef, decide_eq_true_eq] at *; omega, fun x y z h1 h2 => by rw [hltOf] at *; simp only [bef, decide_eq_false_iff_not] at *; omega⟩
  have hT : ∀ x y, ltOf cf x y = false → ltOf cf y x = false → x = y := fun x y h1 h2 => by
    rw [hltOf] at *
    simp only [bef, decide_eq_false_iff_not] at *
    exact Fin.ext (by omega)
  have hcell : ∀ j, j < n → ∃ x : Fin pts.length, d[j]? = some x ∧ c[off + j]? = some x.val := fun j hj => by
    obtain ⟨x, hx⟩ : ∃ x, d[j]? = some x := ⟨_, List.getElem?_eq_getElem (by omega)⟩
    refine ⟨x, hx, ?_⟩
    have h1 : s[j]? = some x.val := by rw [← hd, List.getElem?_map, hx]; rfl
    rw [← hs, List.getElem?_take, if_pos hj, List.getElem?_drop] at h1
    exact h1
  have hH : Holds enc W bs off d.toArray := fun j hj => by
    obtain ⟨x, hx, hcx⟩ := hcell j (by simpa [hdl] using hj)
    refine ⟨?_, hS.f _⟩
    rw [hS.c _ _ (cvs_get hcx)]
    have : d.toArray[j]! = x := by rw [getElem!_pos _ j hj]; rw [List.getElem?_eq_some_iff] at hx; obtain ⟨_, h⟩ := hx; simpa using h
    rw [this]
  have hcmp : CmpLays1 Try.prog 28 #[.pointer (some ⟨b1, 0, none⟩), .pointer (some ⟨ba, 0, none⟩)] enc cf bs off d.toArray.size W := fun m os dk _ x y => by
    have e1 := sw_block enc W bs off m dk os b1 l1 n1
    have e2 := sw_block enc W bs off m dk os ba l2 n2
    have hsz := (sw_grown enc W bs off m dk os).size
    exact closure28 hP a x.val y.val _ (hB.trans (sw_below enc W bs off m dk os hbs hB.size)) (by rw [← c1]; simp [World.cell?, e1]) (by rw [← c2]; simp [World.cell?, e2]) (by omega) (by omega) x.isLt y.isLt ha hn haN
  have h := Any.slices_SortFunc_total Try.sortL enc (fun _ => rfl) cf hO 28 #[.pointer (some ⟨b1, 0, none⟩), .pointer (some ⟨ba, 0, none⟩)] bs off cap d.toArray W (enters_of Try.func28 (by kernel_rfl) rfl) hcmp hH hS.lt (by simp; omega) hT
  rw [show d.toArray.size = n by simp [hdl]] at h
  refine h.mono ?_
  rintro e W' ⟨rfl, m, os, rfl⟩
  refine ⟨rfl, ?_, sw_grown enc W bs off m _ os⟩
  have hm : (d.toArray.toList.mergeSort fun x y => !(ltOf cf) y x).map Fin.val = srt pts a s := by
    unfold srt
    rw [← hd]
    exact List.map_mergeSort (fun x _ y _ => by rw [hltOf]; rfl)
  have hml : (d.toArray.toList.mergeSort fun x y => !(ltOf cf) y x).length = n := by rw [List.length_mergeSort]; simpa using hdl
  generalize (d.toArray.toList.mergeSort fun x y => !(ltOf cf) y x) = d' at hm hml ⊢
  have hblk : bs < (putRow enc (Sort.ahead W m) bs off d'.toArray).heap.size := by rw [size_putRow]; exact hS.lt
  have hF : ∀ i, (sortWorld enc W bs off m d'.toArray os).frozen? ⟨bs, i, none⟩ = false := fun i => by
    unfold sortWorld
    rw [frozen?_grow _ _ _ hblk, frozen?_putRow]
    exact hS.f i
  refine ⟨fun i v hv => ?_, hF, Nat.lt_of_lt_of_le hS.lt (sw_grown enc W bs off m _ os).size⟩
  unfold sortWorld
  rw [cell?_grow _ _ _ hblk]
  have hsm : (srt pts a s).length = n := by rw [srt_len, hsl]
  unfold cvs at hv
  rw [List.getElem?_map, Option.map_eq_some_iff] at hv
  obtain ⟨x, hx, rfl⟩ := hv
  by_cases h1 : i < off
  · rw [cell?_putRow_other _ _ _ _ _ _ (.inr (.inl h1))]
    rw [List.getElem?_append_left (by rw [List.length_take]; omega), List.getElem?_take, if_pos h1] at hx
    exact hS.c i _ (cvs_get hx)
  · rw [List.getElem?_append_right (by rw [List.length_take]; omega), List.length_take, Nat.min_eq_left (by omega)] at hx
    by_cases h2 : i < off + n
    · rw [List.getElem?_append_left (by omega), ← hm, List.getElem?_map, Option.map_eq_some_iff] at hx
      obtain ⟨y, hy, rfl⟩ := hx
      have hj : i - off < d'.toArray.size := by simp; omega
      have h3 := cell?_putRow enc (Sort.ahead W m) bs off d.toArray d'.toArray hH (by simp [hdl, hml]) (i - off) hj
      have e : off + (i - off) = i := by omega
      rw [e] at h3
      rw [h3]
      have : d'.toArray[i - off]! = y := by rw [getElem!_pos d'.toArray _ hj]; rw [List.getElem?_eq_some_iff] at hy; obtain ⟨_, h⟩ := hy; simpa using h
      rw [this]
    · rw [cell?_putRow_other _ _ _ _ _ _ (.inr (.inr (by simp; omega)))]
      rw [List.getElem?_append_right (by omega), hsm, List.getElem?_drop] at hx
      have e : off + n + (i - off - n) = i := by omega
      rw [e] at hx
      exact hS.c i _ (cvs_get hx)
end Go.Proofs.Ng
end

