/-
  Texts put together: Hf.
-/
import Derived.Test.YtemchlakoalhcaaZJointBetter27
set_option linter.unusedVariables false
namespace Go.Proofs.Jn
open Go.RowKit

/-- What the plan of one arm answers. -/
def AloneP (T : Tm) (rows : List (List Nat)) (arm start goal K : Nat) (w : World) (e : Ending) (W : World) : Prop := Below w.heap.size w W ∧
  (e = .returned (.tuple #[.slice none 0 0, .bool false]) ∨ ∃ (l : List Nat) (oa : Option Addr) (ca : Nat), e = .returned (.tuple #[.slice oa l.length ca, .bool true]) ∧ l.length = K + 1 ∧ Sl W oa 1 (nvals l) ∧ atOf l 0 = start ∧ atOf l K = goal ∧
    (∀ i, i < K → legB T ⟨arm, atOf l i, atOf l (i + 1)⟩ = true ∧ AptM T rows ⟨arm, atOf l i, atOf l (i + 1)⟩ i) ∧ K + 1 ≤ ca ∧ ∀ a, oa = some a → w.heap.size ≤ a.block)

theorem belB {B : Nat} {W0 W Y : World} (hB : B = W0.heap.size) (h : Below B W0 W) (hb : Below W.heap.size W Y) : Below B W0 Y := h.trans (hb.mono (by rw [hB]; exact h.size))
theorem refLegal_eq (om oc : Option Addr) (cm cc : Nat) (T : Tm) (a : Mv) (m : Mp) (w : World) (hO : TeamOk T) (hm : T.ms[a.arm]? = some m) (hx : a.x < m.n) (hy : a.y < m.n) (hT : TeamAt w om oc T) :
    Calls Try.prog 23 #[.agg #[.slice om T.ms.length cm, .slice oc T.cs.length cc], .agg #[.int .i64 (a.arm : Nat), .int .i64 (a.x : Nat), .int .i64 (a.y : Nat)]] w (BoolP (legB T a) w) := by
  have hmo := hO.mo m (List.mem_of_getElem? hm)
  have := refLegal_any om oc cm cc T m a w (by have := hO.n2; omega) hm hx hy hmo.n2 hmo.len hT
  have e : legB T a = (edgeB m.es a.x a.y || decide (a.x = a.y)) := by
    unfold legB
    rw [hm, Bool.or_comm]
    simp [hx, hy]
  rw [← e] at this
  unfold Tm.val at this
  exact this
set_option maxRecDepth 100000 in
set_option maxHeartbeats 4000000 in
theorem alone_any (om oc op : Option Addr) (cm cc cp : Nat) (T : Tm) (rows : List (List Nat)) (K arm start goal : Nat) (m : Mp) (w : World) (hO : TeamOk T) (hm : T.ms[arm]? = some m) (hs : start < m.n) (hg : goal < m.n) (hT : TeamAt w om oc T) (hR : PRows K rows) (hrn : rows.length ≤ 4) (hK1 : 1 ≤ K) (hK : K ≤ 64) (hL : LL w op rows) :
    Calls Try.prog 41 #[.agg #[.slice om T.ms.length cm, .slice oc T.cs.length cc], .slice op rows.length cp, .int .i64 (arm : Nat), .int .i64 (start : Nat), .int .i64 (goal : Nat), .int .i64 (K : Nat)] w (AloneP T rows arm start goal K w) := by
  have hal : arm < T.ms.length := (List.getElem?_eq_some_iff.1 hm).1
  have hn1 := hO.n1
  have hn2 := hO.n2
  have hmo := hO.mo m (List.mem_of_getElem? hm)
  have hmn := hmo.n2
  have hml := hmo.len
  have HO := Lib.hid hO
  have HR := Lib.hid hR
  clear hO hR hmo
  obtain ⟨bm, offm, rfl, hMr⟩ := hT.ms (map_ne hal)
  go_enter Try.func41, Try.ntmps41
  go_upto_region 1 with fail
  have hbx_ := boxes1 w [.slice (some ⟨bm, offm, none⟩) T.ms.length cm, .slice oc T.cs.length cc] 26
  replace hT := hT.keep hbx_.2
  replace hMr := hMr.keep hbx_.2
  replace hL := hL.keep hbx_.2
  have HB := Lib.hid (hbx_.2)
  generalize w.alloc (.cells #[.slice (some ⟨bm, offm, none⟩) T.ms.length cm, .slice oc T.cs.length cc] 26) = W0 at hbx_ hT hMr hL HB ⊢
  obtain ⟨r6, hbel_⟩ := hbx_
  obtain ⟨n6, hn_⟩ : ∃ n, n = w.heap.size := ⟨_, rfl⟩
  rw [← hn_] at r6 ⊢
  clear hn_ hbel_
  have x0 : W0.cell? ⟨bm, offm + arm * 2, none⟩ = some (.slice m.op m.n m.cp) := hMr.c arm _ (map_get hm) 0 _ rfl
  have lm := hMr.lt
  have a0 : W0.cell? ⟨n6, 0, none⟩ = some (.slice (some ⟨bm, offm, none⟩) T.ms.length cm) := r6.c 0 _ rfl
  have l6 := r6.lt
  have hai : (arm : Int) < (T.ms.length : Int) := by omega
  have HT := Lib.hid hT
  have HL := Lib.hid hL
  have HR6 := Lib.hid r6
  have HM := Lib.hid hm
  have hmk := run_make30 (K + 1) (by omega)
  have hc1 : ((K + 1 : Nat) : Int) = (K : Int) + 1 := by simp
  rw [hc1] at hmk
  have hw1 : IntKind.i64.wrap ((K : Int) + 1) = (K : Int) + 1 := IntWalk.i64_in _ (by omega)
  clear hMr hT hL r6 hm hc1
  go_wp2_with fail
  obtain ⟨B, hBe⟩ : ∃ B, B = W0.heap.size := ⟨_, rfl⟩
  have hA := Arr.new W0 m.n K (fun _ => 0) (fun _ _ => 0) B (by rw [hBe]; exact Nat.le_refl _)
  have hbA : Below B W0 (W0.alloc (.cells (Array.replicate (K + 1) (Value.slice none 0 0)) 22)) := (Below.refl _ _).alloc (by rw [hBe]; exact Nat.le_refl _) _
  generalize W0.alloc (.cells (Array.replicate (K + 1) (Value.slice none 0 0)) 22) = W1 at hA hbA ⊢
  generalize hgA : W0.heap.size = gA at hA ⊢
  have HBE := Lib.hid hBe
  clear hBe hgA hmk a0 x0 lm l6 hw1 hai
  have hmk := run_make22 m.n hmn
  go_loopw [16] (fun i W => ∃ (lo : Nat) (bf : Nat → Nat) (R : Nat → Nat → Int), i = .int .i64 ((lo : Int) - 1) ∧ lo ≤ K + 1 ∧ Arr B W gA m.n K lo bf R ∧ Below B W0 W ∧ ∀ q, lo ≤ q → q ≤ K → ∀ v, v < m.n → Good T rows arm goal m.n K q (R (q + 1)) v (R q v)) (fun i _ => (intOf i + 1).toNat)
  case atStart => exact ⟨K + 1, _, _, by simp, Nat.le_refl _, hA, hbA, fun q h1 h2 => absurd h1 (by omega)⟩
  case round =>
    clear hA hbA
    obtain ⟨lo, bf, R, rfl, hlo, hA, hW, hG⟩ := hrel
    obtain ⟨Wa, rfl⟩ : ∃ X, X = wr := ⟨_, rfl⟩
    have HG := Lib.hid hG
    have HW := Lib.hid hW
    have HA := Lib.hid hA
    clear hG
    by_cases hz : lo = 0
    · subst hz
      have hA0 : Arr B Wa gA m.n K 0 bf R := HA.out
      have HGG : Hid (∀ q, q ≤ K → ∀ v, v < m.n → Good T rows arm goal m.n K q (R (q + 1)) v (R q v)) := Lib.hid fun q h v hv => HG.out q (Nat.zero_le _) h v hv
      have c0 := hA0.box.c 0 _ (avl_get (Nat.zero_le _) (Nat.le_refl _))
      have lg := hA0.box.lt
      have hrow := hA0.row 0 (Nat.le_refl _) (Nat.zero_le _)
      have c1 := hrow.c start _ (ivl_get hs)
      have lr := hrow.lt
      have i1 : (0 : Int) < (K : Int) + 1 := by omega
      have i2 : (start : Int) < (m.n : Int) := by omega
      have d1 : decide ((-1 : Int) ≥ 0) = false := rfl
      rw [show ((0 : Nat) : Int) - 1 = -1 from rfl]
      generalize hbst : R 0 start = bst at c1
      have HBST := Lib.hid hbst
      clear hA hW hA0 hrow HG hlo hbst
      by_cases hb0 : bst < 0
      · have d2 : decide (bst < 0) = true := decide_eq_true hb0
        have HBW := Lib.hid (below_call HB.out (by rw [← HBE.out]; exact HW.out))
        go_wp2_with fail
        refine bodyPost_ret (v := .tuple #[.slice none 0 0, .bool false]) (by simp [results, Try.results41, go_sem]) rfl ?_
        exact ⟨HBW.out, .inl rfl⟩
      · have d2 : decide (bst < 0) = false := decide_eq_false hb0
        have HB0 : Hid (0 ≤ bst) := Lib.hid (by omega)
        clear hb0
        go_upto_region 27 with fail
        clear c0 c1 lg lr d1 d2 i1
        go_upto_region 28 with fail
        have ho : (Wa.alloc (.cells #[.int .i64 (start : Nat)] 3)).ownsRow Wa.heap.size 3 1 (.slice (some ⟨Wa.heap.size, 0, none⟩) 1 1) [start].length (nvals [start]).flatten := own_fresh1 Wa Wa.heap.size start (Nat.le_refl _)
        have hbA : Below Wa.heap.size Wa (Wa.alloc (.cells #[.int .i64 (start : Nat)] 3)) := (Below.refl _ _).alloc (Nat.le_refl _) _
        generalize Wa.alloc (.cells #[.int .i64 (start : Nat)] 3) = W1 at ho hbA ⊢
        go_upto_region 28 with fail
        have HO1 := Lib.hid ho
        have HBA := Lib.hid hbA
        clear ho hbA
        generalize hgb : Wa.heap.size = gb at HO1 ⊢
        have HGB := Lib.hid hgb
        clear hgb
        have hnW : gb ≤ W1.heap.size := by have := HBA.out.size; have := HGB.out; omega
        go_wp2_with fail
        go_loopw [22, 23] (fun vo vi W => ∃ (i : Nat) (l : List Nat), vi = .int .i64 (i : Nat) ∧ i ≤ K ∧ l.length = i + 1 ∧ W.ownsRow gb 3 1 vo l.length (nvals l).flatten ∧ Below gb Wa W ∧ gb ≤ W.heap.size ∧ atOf l 0 = start ∧ atOf l i < m.n ∧ 0 ≤ R i (atOf l i) ∧ R i (atOf l i) ≤ max bst (i : Int) ∧ ∀ j, j < i → legB T ⟨arm, atOf l j, atOf l (j + 1)⟩ = true ∧ AptM T rows ⟨arm, atOf l j, atOf l (j + 1)⟩ j) (fun _ vi _ => K - (intOf vi).toNat)
        case atStart => exact ⟨0, [start], rfl, Nat.zero_le _, rfl, HO1.out, by rw [← HGB.out]; exact HBA.out, hnW, rfl, hs, by rw [show atOf [start] 0 = start from rfl, HBST.out]; exact HB0.out, by rw [show atOf [start] 0 = start from rfl, HBST.out]; omega, fun j h => absurd h (Nat.not_lt_zero _)⟩
        case round =>
          clear hnW HO1 HBA
          obtain ⟨i, l, rfl, hi, hll, ho, hW1, hnW, hl0, hv, hr0, hr1, hl⟩ := hrel
          obtain ⟨Wb, rfl⟩ : ∃ X, X = wr := ⟨_, rfl⟩
          have HLL := Lib.hid hll
          have HOW := Lib.hid ho
          have HW1 := Lib.hid hW1
          have HL0 := Lib.hid hl0
          have HV := Lib.hid hv
          have HR0 := Lib.hid hr0
          have HR1 := Lib.hid hr1
          have HLS := Lib.hid hl
          obtain ⟨g, c, cur, rfl, hg1, hg2, hg3, -, -, -⟩ := own_cur ho (by omega)
          by_cases hlt : i < K
          · have x0 := own_cell ho i _ (atOf_get (by omega))
            have lx := (own_lt ho g rfl).1
            rw [hll]
            rw [hll] at ho
            have i3 : (i : Int) < (i : Int) + 1 := by omega
            have HEX := Lib.hid (oks_ex HGG.out hlt hv hr0 hr1)
            generalize hvv : atOf l i = v at x0 HEX hv
            have HVV := Lib.hid hvv
            have HV2 := Lib.hid hv
            have hw1 : IntKind.i64.wrap ((m.n : Int) - 1) = (m.n : Int) - 1 := IntWalk.i64_in _ (by omega)
            clear hll ho hW1 hl0 hr0 hr1 hl hg1 hg2 hg3 hvv
            go_upto_region 33 with fail
            have HWB := Lib.hid (belB HBE.out HW.out (by rw [HGB.out]; exact HW1.out))
            have HAB := Lib.hid (HA.out.keep (by rw [HGB.out]; exact HW1.out))
            clear x0 lx hw1 i3
            go_loopw [25, 26] (fun vn vu W => ∃ (k : Nat) (nx : Int), vn = .int .i64 nx ∧ vu = .int .i64 ((k : Int) - 1) ∧ k ≤ m.n ∧ Below Wb.heap.size Wb W ∧ ((nx = -1 ∧ ∀ y, k ≤ y → y < m.n → ¬ OkS T rows arm goal i bst (R (i + 1)) v y) ∨ ∃ y : Nat, nx = (y : Int) ∧ y < m.n ∧ OkS T rows arm goal i bst (R (i + 1)) v y)) (fun _ vu _ => (intOf vu + 1).toNat)
            case atStart => exact ⟨m.n, -1, rfl, rfl, Nat.le_refl _, Below.refl _ _, .inl ⟨rfl, fun y h1 h2 => absurd h2 (by omega)⟩⟩
            case round =>
              obtain ⟨k, nx, rfl, rfl, hk, hWc, hnx⟩ := hrel
              obtain ⟨Wc, rfl⟩ : ∃ X, X = wr := ⟨_, rfl⟩
              have HWC := Lib.hid hWc
              have HNX := Lib.hid hnx
              clear hWc hnx
              by_cases hk0 : k = 0
              · subst hk0
                obtain ⟨y, hnx, hyn, hOK⟩ : ∃ y : Nat, nx = (y : Int) ∧ y < m.n ∧ OkS T rows arm goal i bst (R (i + 1)) v y := by
                  rcases HNX.out with ⟨-, h⟩ | h
                  · obtain ⟨y, h1, h2⟩ := HEX.out
                    exact absurd h2 (h y (Nat.zero_le _) h1)
                  · exact h
                subst hnx
                have HYY := Lib.hid hOK
                have hown := own_keep HOW.out HWC.out
                rw [HLL.out] at hown
                have hsz : gb ≤ Wc.heap.size := Nat.le_trans hnW HWC.out.size
                obtain ⟨i0, hii, hz0, hz1, hz2⟩ := info_parts info3
                have hal2 : Below Wc.heap.size Wc (Wc.alloc (.cells #[.int .i64 (y : Nat)] 3)) := (Below.refl _ _).alloc (Nat.le_refl _) _
                have HC2 := Lib.hid (own_keep hown hal2)
                have HS2 : Hid (gb ≤ (Wc.alloc (.cells #[.int .i64 (y : Nat)] 3)).heap.size) := Lib.hid (Nat.le_trans hsz hal2.size)
                have HAL2 := Lib.hid hal2
                have d1 : decide ((-1 : Int) ≥ 0) = false := rfl
                rw [show ((0 : Nat) : Int) - 1 = -1 from rfl]
                clear hOK hown hal2 hsz
                go_wp2_with (at_builtin; refine wpList_append_own _ rfl _ _ 22 rfl gb 3 i0 (.int .i64 0) 1 8 under22 hii hz0 hz1 hz2 rfl (by decide) _ _ _ rfl HC2.out ⟨Wc.heap.size, 0, none⟩ 1 1 [.int .i64 (y : Nat)] rfl rfl ?c1 ?c2 ?c3 ?c4 ?c5 ?_)
                case c1 => exact new_cells _ _ _
                case c2 => intro u hu; simp at hu; subst hu; rfl
                case c3 => unfold maxLen; omega
                case c4 => omega
                case c5 => exact HS2.out
                intro v' w' hown' hgrow _
                have hbl : Below gb (Wc.alloc (.cells #[.int .i64 (y : Nat)] 3)) w' := grown_below HC2.out hgrow HS2.out
                have hbw : Below gb Wa w' := (HW1.out.trans ((HWC.out.mono hnW).trans (HAL2.out.mono (Nat.le_trans hnW HWC.out.size)))).trans hbl
                have hl1 : (l ++ [y]).length = i + 1 + 1 := by simp [HLL.out]
                have hold : ∀ j, j ≤ i → atOf (l ++ [y]) j = atOf l j := fun j hj => by
                  have : j < l.length := by have := HLL.out; omega
                  simp [atOf, List.getElem?_append_left this]
                have hnew : atOf (l ++ [y]) (i + 1) = y := by rw [← HLL.out]; simp [atOf]
                have hrel2 : ∃ (i1 : Nat) (l1 : List Nat), Value.int .i64 ((i : Int) + 1) = .int .i64 (i1 : Nat) ∧ i1 ≤ K ∧ l1.length = i1 + 1 ∧ w'.ownsRow gb 3 1 v' l1.length (nvals l1).flatten ∧ Below gb Wa w' ∧ gb ≤ w'.heap.size ∧ atOf l1 0 = start ∧ atOf l1 i1 < m.n ∧ 0 ≤ R i1 (atOf l1 i1) ∧ R i1 (atOf l1 i1) ≤ max bst (i1 : Int) ∧ ∀ j, j < i1 → legB T ⟨arm, atOf l1 j, atOf l1 (j + 1)⟩ = true ∧ AptM T rows ⟨arm, atOf l1 j, atOf l1 (j + 1)⟩ j := by
                  refine ⟨i + 1, l ++ [y], by simp, by omega, hl1, ?_, hbw, Nat.le_trans HS2.out hbl.size, by rw [hold 0 (Nat.zero_le _)]; exact HL0.out, by rw [hnew]; exact hyn, by rw [hnew]; exact HYY.out.1, by rw [hnew]; simpa using HYY.out.2.1, fun j hj => ?_⟩
                  · rw [hl1, nflat_snoc]
                    exact hown'
                  · by_cases e : j = i
                    · subst e
                      rw [hold j (Nat.le_refl _), hnew, HVV.out]
                      exact ⟨HYY.out.2.2.1, HYY.out.2.2.2.1⟩
                    · rw [hold j (by omega), hold (j + 1) (by omega)]
                      exact HLS.out j (by omega)
                have HREL2 := Lib.hid hrel2
                clear hrel2 hown' hgrow hbl hbw hl1 hold hnew HC2 HS2 HAL2 hii hz0 hz1 hz2 d1
                go_wp2_with fail
                refine ⟨HREL2.out, by simp [intOf]; omega⟩
              · obtain ⟨u, rfl⟩ : ∃ u, k = u + 1 := ⟨k - 1, by omega⟩
                have hq1 : ((u + 1 : Nat) : Int) - 1 = (u : Int) := by simp
                rw [hq1]
                have hun : u < m.n := by omega
                have d1 : decide ((u : Int) ≥ 0) = true := decide_eq_true (by omega)
                clear hq1 hk0
                have HWD := Lib.hid (belB HBE.out HWB.out HWC.out)
                have HAC := Lib.hid (HAB.out.keep HWC.out)
                go_upto_region 36 with fail
                have hbx_ := boxes1 Wc [.int .i64 (arm : Nat), .int .i64 (v : Nat), .int .i64 (u : Nat)] 65
                replace HAC := Lib.hid (HAC.out.keep hbx_.2)
                have HYB := Lib.hid (below_call HWC.out (hbx_.2))
                generalize Wc.alloc (.cells #[.int .i64 (arm : Nat), .int .i64 (v : Nat), .int .i64 (u : Nat)] 65) = Y at hbx_ HAC HYB ⊢
                obtain ⟨r27, hbel_⟩ := hbx_
                obtain ⟨n27, hn_⟩ : ∃ n, n = Wc.heap.size := ⟨_, rfl⟩
                rw [← hn_] at r27 ⊢
                clear hn_ hbel_
                have HY : Hid (Below B W0 Y) := Lib.hid (belB HBE.out HWB.out HYB.out)
                have hA := HAC.out
                have c0 := hA.box.c (i + 1) _ (avl_get (by omega) (Nat.zero_le _))
                have lg := hA.box.lt
                have hrow := hA.row (i + 1) (Nat.zero_le _) (by omega)
                have c1 := hrow.c u _ (ivl_get hun)
                have lr := hrow.lt
                generalize hx : R (i + 1) u = x at c1
                have HX := Lib.hid hx
                have hw1 : IntKind.i64.wrap ((i : Int) + 1) = (i : Int) + 1 := IntWalk.i64_in _ (by omega)
                have i5 : (i : Int) + 1 < (K : Int) + 1 := by omega
                have i6 : (u : Int) < (m.n : Int) := by omega
                have i7 : (0 : Int) ≤ (i : Int) + 1 := by omega
                have i8 : ((i : Int) + 1).toNat = i + 1 := by omega
                clear hA hrow hx d1
                go_upto_region 37 with fail
                clear c0 c1 lg lr i5 i7 i8
                have hskip : ∀ X, Below Wb.heap.size Wb X → ¬ OkS T rows arm goal i bst (R (i + 1)) v u → ∃ (k1 : Nat) (nx1 : Int), Value.int .i64 nx = .int .i64 nx1 ∧ Value.int .i64 ((u : Int) - 1) = .int .i64 ((k1 : Int) - 1) ∧ k1 ≤ m.n ∧ Below Wb.heap.size Wb X ∧ ((nx1 = -1 ∧ ∀ y, k1 ≤ y → y < m.n → ¬ OkS T rows arm goal i bst (R (i + 1)) v y) ∨ ∃ y : Nat, nx1 = (y : Int) ∧ y < m.n ∧ OkS T rows arm goal i bst (R (i + 1)) v y) := fun X h1 h2 => ⟨u, nx, rfl, rfl, by omega, h1, by
                  rcases HNX.out with ⟨h3, h4⟩ | h3
                  · exact .inl ⟨h3, fun y h5 h6 => by
                      by_cases e : y = u
                      · subst e; exact h2
                      · exact h4 y (by omega) h6⟩
                  · exact .inr h3⟩
                have HSK := Lib.hid hskip
                clear hskip
                have R6 := HR6.out.keep (by rw [← HBE.out]; exact HY.out)
                have a0 : Y.cell? ⟨n6, 0, none⟩ = some (.slice (some ⟨bm, offm, none⟩) T.ms.length cm) := R6.c 0 _ rfl
                have a1 : Y.cell? ⟨n6, 1, none⟩ = some (.slice oc T.cs.length cc) := R6.c 1 _ rfl
                have z0 : Y.cell? ⟨n27, 0, none⟩ = some (.int .i64 (arm : Nat)) := r27.c 0 _ rfl
                have z1 : Y.cell? ⟨n27, 1, none⟩ = some (.int .i64 (v : Nat)) := r27.c 1 _ rfl
                have z2 : Y.cell? ⟨n27, 2, none⟩ = some (.int .i64 (u : Nat)) := r27.c 2 _ rfl
                have l6 := R6.lt
                have l27 := r27.lt
                have HR27 := Lib.hid r27
                clear R6 r27
                by_cases hx0 : x < 0
                · have d2 : decide (x ≥ 0) = false := decide_eq_false (by omega)
                  clear a0 a1 z0 z1 z2 l6 l27
                  have HX0 := Lib.hid hx0
                  clear hx0
                  go_wp2_with fail
                  go_roundw
                  case rel => exact HSK.out _ HYB.out (fun h => by have := h.1; rw [HX.out] at this; have := HX0.out; omega)
                  case measure => simp [intOf]; try omega
                · have d2 : decide (x ≥ 0) = true := decide_eq_true (by omega)
                  have htk : ∀ X, Below Wb.heap.size Wb X → OkS T rows arm goal i bst (R (i + 1)) v u → ∃ (k1 : Nat) (nx1 : Int), Value.int .i64 (u : Int) = .int .i64 nx1 ∧ Value.int .i64 ((u : Int) - 1) = .int .i64 ((k1 : Int) - 1) ∧ k1 ≤ m.n ∧ Below Wb.heap.size Wb X ∧ ((nx1 = -1 ∧ ∀ y, k1 ≤ y → y < m.n → ¬ OkS T rows arm goal i bst (R (i + 1)) v y) ∨ ∃ y : Nat, nx1 = (y : Int) ∧ y < m.n ∧ OkS T rows arm goal i bst (R (i + 1)) v y) := fun X h1 h2 => ⟨u, u, rfl, rfl, by omega, h1, .inr ⟨u, rfl, hun, h2⟩⟩
                  have HTK := Lib.hid htk
                  have HX0 : Hid (0 ≤ x) := Lib.hid (by omega)
                  clear htk hx0
                  by_cases hxm : x ≤ max bst ((i : Int) + 1)
                  · have d3 : decide (x ≤ max bst ((i : Int) + 1)) = true := decide_eq_true hxm
                    have HXM := Lib.hid hxm
                    have hlg := refLegal_eq (some ⟨bm, offm, none⟩) oc cm cc T ⟨arm, v, u⟩ m Y HO.out HM.out HV2.out hun (HT.out.keep (by rw [← HBE.out]; exact HY.out))
                    generalize hlv : legB T ⟨arm, v, u⟩ = lv at hlg
                    have HLV := Lib.hid hlv
                    have HLG := Lib.hid hlg
                    clear hlv hlg hxm
                    go_wp2_with fail
                    with_reducible refine HLG.out.mono ?_
                    rintro e Z ⟨rfl, hb⟩
                    have HZ := Lib.hid (belB HBE.out HY.out hb)
                    have HZB := Lib.hid (below_call HYB.out hb)
                    have R27 := HR27.out.keep hb
                    clear a0 a1 z0 z1 z2 l6 l27 HLG hb d3
                    cases lv with
                    | false =>
                      clear R27
                      go_wp2_with fail
                      go_roundw
                      case rel => exact HSK.out _ HZB.out (fun h => by have := h.2.2.1; rw [HLV.out] at this; cases this)
                      case measure => simp [intOf]; try omega
                    | true =>
                      have R6 := HR6.out.keep (by rw [← HBE.out]; exact HZ.out)
                      have a0 : Z.cell? ⟨n6, 0, none⟩ = some (.slice (some ⟨bm, offm, none⟩) T.ms.length cm) := R6.c 0 _ rfl
                      have a1 : Z.cell? ⟨n6, 1, none⟩ = some (.slice oc T.cs.length cc) := R6.c 1 _ rfl
                      have z0 : Z.cell? ⟨n27, 0, none⟩ = some (.int .i64 (arm : Nat)) := R27.c 0 _ rfl
                      have z1 : Z.cell? ⟨n27, 1, none⟩ = some (.int .i64 (v : Nat)) := R27.c 1 _ rfl
                      have z2 : Z.cell? ⟨n27, 2, none⟩ = some (.int .i64 (u : Nat)) := R27.c 2 _ rfl
                      have l6 := R6.lt
                      have l27 := R27.lt
                      have hap := apart_any (some ⟨bm, offm, none⟩) oc op cm cc cp T rows K ⟨arm, v, u⟩ i Z HO.out (HT.out.keep (by rw [← HBE.out]; exact HZ.out)) HR.out hrn hK hlt (HL.out.keep (by rw [← HBE.out]; exact HZ.out))
                      have HAP := Lib.hid hap
                      clear R6 R27 hap
                      go_wp2_with fail
                      with_reducible refine HAP.out.mono ?_
                      rintro e Z2 ⟨ab, rfl, hab, hb⟩
                      have HZ2 := Lib.hid (below_call HZB.out hb)
                      have HABB := Lib.hid hab
                      clear a0 a1 z0 z1 z2 l6 l27 HAP hb hab
                      cases ab with
                      | false =>
                        go_wp2_with fail
                        go_roundw
                        case rel => exact HSK.out _ HZ2.out (fun h => by have := HABB.out.2 h.2.2.2.1; simp at this)
                        case measure => simp [intOf]; try omega
                      | true =>
                        have hOK : ((i : Int) < bst ∨ u = goal) → OkS T rows arm goal i bst (R (i + 1)) v u := fun h => ⟨by rw [HX.out]; exact HX0.out, by rw [HX.out]; exact HXM.out, HLV.out, by have := HABB.out; simpa using this, h⟩
                        have HOK := Lib.hid hOK
                        clear hOK
                        by_cases hib : (i : Int) < bst
                        · have d4 : decide ((i : Int) < bst) = true := decide_eq_true hib
                          have HIB := Lib.hid hib
                          clear hib
                          go_wp2_with fail
                          go_roundw
                          case rel => exact HTK.out _ HZ2.out (HOK.out (.inl HIB.out))
                          case measure => simp [intOf]; try omega
                        · have d4 : decide ((i : Int) < bst) = false := decide_eq_false hib
                          by_cases hug : u = goal
                          · have e2 := int_beq (u : Int) (goal : Int)
                            rw [decide_eq_true (by omega)] at e2
                            have HUG := Lib.hid hug
                            clear hug hib
                            go_wp2_with fail
                            go_roundw
                            case rel => exact HTK.out _ HZ2.out (HOK.out (.inr HUG.out))
                            case measure => simp [intOf]; try omega
                          · have e2 := int_beq (u : Int) (goal : Int)
                            rw [decide_eq_false (by omega)] at e2
                            have HNO : Hid (¬ ((i : Int) < bst ∨ u = goal)) := Lib.hid (fun h => h.elim hib hug)
                            clear hug hib
                            go_wp2_with fail
                            go_roundw
                            case rel => exact HSK.out _ HZ2.out (fun h => HNO.out h.2.2.2.2)
                            case measure => simp [intOf]; try omega
                  · have d3 : decide (x ≤ max bst ((i : Int) + 1)) = false := decide_eq_false hxm
                    have HXM := Lib.hid hxm
                    clear hxm a0 a1 z0 z1 z2 l6 l27
                    go_wp2_with fail
                    refine ⟨HSK.out _ HYB.out (fun h => by have := h.2.1; rw [HX.out] at this; exact HXM.out this), by simp [intOf]; try omega⟩
          · have hiK : i = K := by omega
            subst hiK
            have ho2 := HOW.out
            rw [← nvals_len] at ho2
            obtain ⟨oa, ca, hva, hsl⟩ := own_rows (nvals_one l) ho2
            injection hva with h1 h2 h3
            subst h1 h3
            clear h2
            have hge := oks_end HGG.out HV.out HR0.out
            have HSL := Lib.hid hsl
            have HGE := Lib.hid hge
            have HBW := Lib.hid (below_call HB.out (by rw [← HBE.out]; exact belB HBE.out HW.out (by rw [HGB.out]; exact HW1.out)))
            have hgc : i + 1 ≤ c ∧ w.heap.size ≤ g := ⟨by omega, Nat.le_trans HB.out.size (Nat.le_trans HW.out.size (by rw [HGB.out]; exact hg1))⟩
            have HGC := Lib.hid hgc
            clear ho2 hsl hge ho hW1 hl0 hv hr0 hr1 hl hg1 hg2 hg3 hgc
            go_wp2_with fail
            refine bodyPost_ret (v := .tuple #[.slice (some ⟨g, 0, none⟩) l.length c, .bool true]) (by simp [results, Try.results41, go_sem, HLL.out]) rfl ?_
            exact ⟨HBW.out, .inr ⟨l, _, _, rfl, HLL.out, HSL.out, HL0.out, HGE.out, HLS.out, HGC.out.1, fun a ha => by cases ha; exact HGC.out.2⟩⟩
    · obtain ⟨q, rfl⟩ : ∃ q, lo = q + 1 := ⟨lo - 1, by omega⟩
      have hq1 : ((q + 1 : Nat) : Int) - 1 = (q : Int) := by simp
      rw [hq1]
      have d1 : decide ((q : Int) ≥ 0) = true := decide_eq_true (by omega)
      have c0 := hA.box.c q _ (avl_none (by omega) (by omega))
      have f0 := hA.box.f q
      have lg := hA.box.lt
      have i1 : (q : Int) < (K : Int) + 1 := by omega
      have i2 : (0 : Int) ≤ (q : Int) := by omega
      have hD := hA.down (by omega : q ≤ K) (Nat.le_trans (by rw [HBE.out]; exact Nat.le_refl _) hW.size)
      have HD := Lib.hid hD
      have hgB := hA.hg
      have hBW2 : Below B W0 ((Wa.setCell ⟨gA, q, none⟩ (.slice (some ⟨Wa.heap.size, 0, none⟩) m.n m.n)).alloc (.cells (Array.replicate m.n (Value.int .i64 0)) 3)) := (hW.setCell (p := ⟨gA, q, none⟩) hgB _).alloc (by rw [HBE.out]; exact ((hW.setCell (p := ⟨gA, q, none⟩) hgB _).size)) _
      have HBW := Lib.hid hBW2
      clear hA hW hD hz hBW2
      go_wp2_with fail
      generalize (Wa.setCell ⟨gA, q, none⟩ (.slice (some ⟨Wa.heap.size, 0, none⟩) m.n m.n)).alloc (.cells (Array.replicate m.n (Value.int .i64 0)) 3) = W2 at HD HBW ⊢
      generalize (fun j => if j = q then Wa.heap.size else bf j) = bf' at HD ⊢
      generalize Wa.heap.size = gx at ⊢
      clear c0 f0 lg d1 HA HW
      go_loopw [17] (fun y W => ∃ (v : Nat) (f : Nat → Int), y = .int .i64 (v : Nat) ∧ v ≤ m.n ∧ Arr B W gA m.n K q bf' (updR R q f) ∧ Below B W0 W ∧ ∀ u, u < v → Good T rows arm goal m.n K q (R (q + 1)) u (f u)) (fun y _ => m.n - (intOf y).toNat)
      case atStart => exact ⟨0, _, rfl, Nat.zero_le _, HD.out, HBW.out, fun u h => absurd h (Nat.not_lt_zero _)⟩
      case round =>
        clear HD HBW
        obtain ⟨v, f, rfl, hv, hA, hW, hF⟩ := hrel
        obtain ⟨Wb, rfl⟩ : ∃ X, X = wr := ⟨_, rfl⟩
        have HF := Lib.hid hF
        have HW := Lib.hid hW
        have HA := Lib.hid hA
        clear hF
        by_cases hlt : v < m.n
        · have c0 := hA.box.c q _ (avl_get (by omega) (Nat.le_refl _))
          have lg := hA.box.lt
          have hrow := hA.row q (Nat.le_refl _) (by omega)
          simp only [updR, if_pos] at hrow
          have c1 := hrow.c v _ (ivl_get hlt)
          have f1 := hrow.f v
          have lr := hrow.lt
          have hA1 := hA.put (Nat.le_refl q) (by omega) v (-1)
          have hW1 : Below B W0 (Wb.setCell ⟨bf' q, v, none⟩ (.int .i64 (-1))) := hW.setCell (p := ⟨bf' q, v, none⟩) (hA.hi q (Nat.le_refl _) (by omega)) _
          have HA1 := Lib.hid hA1
          have HW1 := Lib.hid hW1
          have hhi := hA.hi q (Nat.le_refl _) (by omega)
          have i3 : (v : Int) < (m.n : Int) := by omega
          have i4 : (0 : Int) ≤ (v : Int) := by omega
          clear hA hW hrow hA1 hW1
          go_upto_region 11 with fail
          generalize Wb.setCell ⟨bf' q, v, none⟩ (.int .i64 (-1)) = V at HA1 HW1 ⊢
          have hstep : ∀ (X : World) (f' : Nat → Int), Arr B X gA m.n K q bf' (updR R q f') → Below B W0 X → (∀ u, u < v → f' u = f u) → Good T rows arm goal m.n K q (R (q + 1)) v (f' v) → ∃ (v1 : Nat) (f1 : Nat → Int), Value.int .i64 ((v : Int) + 1) = .int .i64 (v1 : Nat) ∧ v1 ≤ m.n ∧ Arr B X gA m.n K q bf' (updR R q f1) ∧ Below B W0 X ∧ ∀ u, u < v1 → Good T rows arm goal m.n K q (R (q + 1)) u (f1 u) := fun X f' h1 h2 h3 h4 =>
            ⟨v + 1, f', by simp, by omega, h1, h2, fun u hu => by
              by_cases e : u = v
              · subst e; exact h4
              · rw [h3 u (by omega)]; exact HF.out u (by omega)⟩
          have HST := Lib.hid hstep
          clear hstep c0 c1 f1 lg lr HA HW
          by_cases hqK : q = K
          · have e0 := int_beq (q : Int) (K : Int)
            rw [decide_eq_true (by omega)] at e0
            by_cases hvg : v = goal
            · have e1 := int_beq (v : Int) (goal : Int)
              rw [decide_eq_true (by omega)] at e1
              have c0 := HA1.out.box.c q _ (avl_get (by omega) (Nat.le_refl _))
              have lg := HA1.out.box.lt
              have hrow := HA1.out.row q (Nat.le_refl _) (by omega)
              simp only [updR, if_pos] at hrow
              have c1 := hrow.c v _ (ivl_get hlt)
              simp only [if_pos] at c1
              have f1 := hrow.f v
              have lr := hrow.lt
              have hA2 := HA1.out.put (Nat.le_refl q) (by omega) v (K : Int)
              have hW2 : Below B W0 (V.setCell ⟨bf' q, v, none⟩ (.int .i64 (K : Nat))) := HW1.out.setCell (p := ⟨bf' q, v, none⟩) hhi _
              have HA2 := Lib.hid hA2
              have HW2 := Lib.hid hW2
              have HQK := Lib.hid hqK
              have HVG := Lib.hid hvg
              clear hqK hvg hrow hA2 hW2
              go_wp2_with fail
              refine ⟨HST.out _ _ HA2.out HW2.out (fun u hu => ?_) ?_, by simp [intOf]; omega⟩
              · have : u ≠ v := by omega
                simp [this]
              · simp only [if_pos]
                exact .inr ⟨by rw [HQK.out]; exact Int.le_refl _, Int.le_refl _, .inl ⟨HQK.out, HVG.out⟩⟩
            · have e1 := int_beq (v : Int) (goal : Int)
              rw [decide_eq_false (by omega)] at e1
              have HQK := Lib.hid hqK
              have HVG := Lib.hid hvg
              clear hqK hvg
              go_wp2_with fail
              refine ⟨HST.out _ _ HA1.out HW1.out (fun u hu => ?_) ?_, by simp [intOf]; omega⟩
              · have : u ≠ v := by omega
                simp [this]
              · simp only [if_pos]
                exact .inl rfl
          · have e0 := int_beq (q : Int) (K : Int)
            rw [decide_eq_false (by omega)] at e0
            have HQK : Hid (q < K) := Lib.hid (by omega)
            clear hqK
            go_wp2_with fail
            clear e0
            go_loopw [18] (fun y W => ∃ (u : Nat) (f2 : Nat → Int), y = .int .i64 (u : Nat) ∧ u ≤ m.n ∧ Arr B W gA m.n K q bf' (updR R q f2) ∧ Below B W0 W ∧ (∀ x, x < v → f2 x = f x) ∧ Good T rows arm goal m.n K q (R (q + 1)) v (f2 v)) (fun y _ => m.n - (intOf y).toNat)
            case atStart => exact ⟨0, _, rfl, Nat.zero_le _, HA1.out, HW1.out, fun x hx => if_neg (by omega), .inl (if_pos rfl)⟩
            case round =>
              clear HA1 HW1
              obtain ⟨u, f2, rfl, hu, hA, hW, hFx, hGv⟩ := hrel
              obtain ⟨Wc, rfl⟩ : ∃ X, X = wr := ⟨_, rfl⟩
              have HFX := Lib.hid hFx
              have HGV := Lib.hid hGv
              have HA := Lib.hid hA
              have HW := Lib.hid hW
              clear hFx hGv hA hW
              by_cases hun : u < m.n
              · go_upto_region 18 with fail
                have hbx_ := boxes1 Wc [.int .i64 (arm : Nat), .int .i64 (v : Nat), .int .i64 (u : Nat)] 65
                replace HA := Lib.hid (HA.out.keep hbx_.2)
                have HY := Lib.hid (belB HBE.out HW.out (hbx_.2))
                generalize Wc.alloc (.cells #[.int .i64 (arm : Nat), .int .i64 (v : Nat), .int .i64 (u : Nat)] 65) = Y at hbx_ HA HY ⊢
                obtain ⟨r19, hbel_⟩ := hbx_
                obtain ⟨n19, hn_⟩ : ∃ n, n = Wc.heap.size := ⟨_, rfl⟩
                rw [← hn_] at r19 ⊢
                clear hn_ hbel_
                have hA := HA.out
                have c0 := hA.box.c (q + 1) _ (avl_get (by have := HQK.out; omega) (by omega))
                have lg := hA.box.lt
                have hrow := hA.row (q + 1) (by omega) (by have := HQK.out; omega)
                have hne : q + 1 ≠ q := by omega
                simp only [updR, if_neg hne] at hrow
                have c1 := hrow.c u _ (ivl_get hun)
                have lr := hrow.lt
                generalize hx : R (q + 1) u = x at c1
                have HX := Lib.hid hx
                have hw1 : IntKind.i64.wrap ((q : Int) + 1) = (q : Int) + 1 := IntWalk.i64_in _ (by omega)
                have i5 : (q : Int) + 1 < (K : Int) + 1 := by have := HQK.out; omega
                have i6 : (u : Int) < (m.n : Int) := by omega
                have i7 : (0 : Int) ≤ (q : Int) + 1 := by omega
                have i8 : ((q : Int) + 1).toNat = q + 1 := by omega
                clear hA hrow hx
                go_upto_region 19 with fail
                clear c0 c1 lg lr hw1 i5 i7 i8
                have hskip : ∀ X, Below B W0 X → Arr B X gA m.n K q bf' (updR R q f2) → ∃ (u1 : Nat) (f3 : Nat → Int), Value.int .i64 ((u : Int) + 1) = .int .i64 (u1 : Nat) ∧ u1 ≤ m.n ∧ Arr B X gA m.n K q bf' (updR R q f3) ∧ Below B W0 X ∧ (∀ x, x < v → f3 x = f x) ∧ Good T rows arm goal m.n K q (R (q + 1)) v (f3 v) := fun X h1 h2 => ⟨u + 1, f2, by simp, by omega, h2, h1, HFX.out, HGV.out⟩
                have HSK := Lib.hid hskip
                clear hskip
                have R6 := HR6.out.keep (by rw [← HBE.out]; exact HY.out)
                have a0 : Y.cell? ⟨n6, 0, none⟩ = some (.slice (some ⟨bm, offm, none⟩) T.ms.length cm) := R6.c 0 _ rfl
                have a1 : Y.cell? ⟨n6, 1, none⟩ = some (.slice oc T.cs.length cc) := R6.c 1 _ rfl
                have z0 : Y.cell? ⟨n19, 0, none⟩ = some (.int .i64 (arm : Nat)) := r19.c 0 _ rfl
                have z1 : Y.cell? ⟨n19, 1, none⟩ = some (.int .i64 (v : Nat)) := r19.c 1 _ rfl
                have z2 : Y.cell? ⟨n19, 2, none⟩ = some (.int .i64 (u : Nat)) := r19.c 2 _ rfl
                have l6 := R6.lt
                have l19 := r19.lt
                have HR19 := Lib.hid r19
                clear R6 r19
                by_cases hx0 : x < 0
                · have d2 : decide (x < 0) = true := decide_eq_true hx0
                  clear a0 a1 z0 z1 z2 l6 l19
                  go_wp2_with fail
                  go_roundw
                  case rel => exact HSK.out _ HY.out HA.out
                  case measure => simp [intOf]; omega
                · have d2 : decide (x < 0) = false := decide_eq_false hx0
                  have hlg := refLegal_eq (some ⟨bm, offm, none⟩) oc cm cc T ⟨arm, v, u⟩ m Y HO.out HM.out hlt hun (HT.out.keep (by rw [← HBE.out]; exact HY.out))
                  generalize hlv : legB T ⟨arm, v, u⟩ = lv at hlg
                  have HLV := Lib.hid hlv
                  have HLG := Lib.hid hlg
                  have HX0 := Lib.hid hx0
                  clear hlv hlg hx0
                  go_wp2_with fail
                  with_reducible refine HLG.out.mono ?_
                  rintro e Z ⟨rfl, hb⟩
                  have HZ := Lib.hid (belB HBE.out HY.out hb)
                  have HA := Lib.hid (HA.out.keep hb)
                  have R19 := HR19.out.keep hb
                  clear a0 a1 z0 z1 z2 l6 l19 HLG hb
                  cases lv with
                  | false =>
                    clear R19
                    go_wp2_with fail
                    go_roundw
                    case rel => exact HSK.out _ HZ.out HA.out
                    case measure => simp [intOf]; omega
                  | true =>
                    have R6 := HR6.out.keep (by rw [← HBE.out]; exact HZ.out)
                    have a0 : Z.cell? ⟨n6, 0, none⟩ = some (.slice (some ⟨bm, offm, none⟩) T.ms.length cm) := R6.c 0 _ rfl
                    have a1 : Z.cell? ⟨n6, 1, none⟩ = some (.slice oc T.cs.length cc) := R6.c 1 _ rfl
                    have z0 : Z.cell? ⟨n19, 0, none⟩ = some (.int .i64 (arm : Nat)) := R19.c 0 _ rfl
                    have z1 : Z.cell? ⟨n19, 1, none⟩ = some (.int .i64 (v : Nat)) := R19.c 1 _ rfl
                    have z2 : Z.cell? ⟨n19, 2, none⟩ = some (.int .i64 (u : Nat)) := R19.c 2 _ rfl
                    have l6 := R6.lt
                    have l19 := R19.lt
                    have hap := apart_any (some ⟨bm, offm, none⟩) oc op cm cc cp T rows K ⟨arm, v, u⟩ q Z HO.out (HT.out.keep (by rw [← HBE.out]; exact HZ.out)) HR.out hrn hK HQK.out (HL.out.keep (by rw [← HBE.out]; exact HZ.out))
                    have HAP := Lib.hid hap
                    clear R6 R19 hap
                    go_wp2_with fail
                    with_reducible refine HAP.out.mono ?_
                    rintro e Z2 ⟨ab, rfl, hab, hb⟩
                    have HZ2 := Lib.hid (belB HBE.out HZ.out hb)
                    have HA := Lib.hid (HA.out.keep hb)
                    have HAB := Lib.hid hab
                    clear a0 a1 z0 z1 z2 l6 l19 HAP hb hab
                    cases ab with
                    | false =>
                      go_wp2_with fail
                      go_roundw
                      case rel => exact HSK.out _ HZ2.out HA.out
                      case measure => simp [intOf]; omega
                    | true =>
                      go_upto_region 20 with fail
                      have hgx : ∀ a : Int, (a = x ∨ (a = q ∧ v = goal ∧ u = goal ∧ x = q + 1)) → Good T rows arm goal m.n K q (R (q + 1)) v a := fun a ha => by
                        have hgu := HG.out (q + 1) (Nat.le_refl _) (by have := HQK.out; omega) u hun
                        have hx0 := HX0.out
                        have hxr : (q : Int) + 1 ≤ x ∧ x ≤ (K : Int) := by
                          rw [HX.out] at hgu
                          rcases hgu with h | ⟨h1, h2, -⟩
                          · omega
                          · exact ⟨by simpa using h1, h2⟩
                        refine .inr ⟨?_, ?_, .inr ⟨HQK.out, u, hun, by rw [HX.out]; omega, HLV.out, (by have := HAB.out; simpa using this), ?_⟩⟩
                        · rcases ha with h | ⟨h, -⟩ <;> omega
                        · rcases ha with h | ⟨h, -⟩ <;> omega
                        · rw [HX.out]
                          rcases ha with h | ⟨h1, h2, h3, h4⟩
                          · exact .inl h
                          · exact .inr ⟨h2, h3, h1, h4⟩
                      have HGX := Lib.hid hgx
                      clear hgx
                      have hwq : IntKind.i64.wrap ((q : Int) + 1) = (q : Int) + 1 := IntWalk.i64_in _ (by omega)
                      by_cases hvg : v = goal
                      · have e1 := int_beq (v : Int) (goal : Int)
                        rw [decide_eq_true (by omega)] at e1
                        by_cases hug : u = goal
                        · have e2 := int_beq (u : Int) (goal : Int)
                          rw [decide_eq_true (by omega)] at e2
                          by_cases hxq : x = (q : Int) + 1
                          · have e3 := int_beq x ((q : Int) + 1)
                            rw [decide_eq_true hxq] at e3
                            have HVG := Lib.hid hvg
                            have HUG := Lib.hid hug
                            have HXQ := Lib.hid hxq
                            clear hvg hug hxq
                            go_upto_region 22 with fail
                            clear e1 e2 e3
                            have hgood : Good T rows arm goal m.n K q (R (q + 1)) v (q : Int) := HGX.out (q : Int) (.inr ⟨rfl, HVG.out, HUG.out, HXQ.out⟩)
                            have HGOOD := Lib.hid hgood
                            have hA := HA.out
                            have c0 := hA.box.c q _ (avl_get (by have := HQK.out; omega) (Nat.le_refl _))
                            have lg := hA.box.lt
                            have hrow := hA.row q (Nat.le_refl _) (by have := HQK.out; omega)
                            simp only [updR, if_pos] at hrow
                            have c1 := hrow.c v _ (ivl_get hlt)
                            have f1 := hrow.f v
                            have lr := hrow.lt
                            have hA2 := hA.put (Nat.le_refl q) (by have := HQK.out; omega) v (q : Int)
                            have hW2 : Below B W0 (Z2.setCell ⟨bf' q, v, none⟩ (.int .i64 (q : Int))) := HZ2.out.setCell (p := ⟨bf' q, v, none⟩) hhi _
                            have hput : ∃ (u1 : Nat) (f3 : Nat → Int), Value.int .i64 ((u : Int) + 1) = .int .i64 (u1 : Nat) ∧ u1 ≤ m.n ∧ Arr B (Z2.setCell ⟨bf' q, v, none⟩ (.int .i64 (q : Int))) gA m.n K q bf' (updR R q f3) ∧ Below B W0 (Z2.setCell ⟨bf' q, v, none⟩ (.int .i64 (q : Int))) ∧ (∀ x, x < v → f3 x = f x) ∧ Good T rows arm goal m.n K q (R (q + 1)) v (f3 v) :=
                              ⟨u + 1, _, by simp, by omega, hA2, hW2, fun y hy => (if_neg (by omega)).trans (HFX.out y hy), by rw [if_pos rfl]; exact HGOOD.out⟩
                            have HPUT := Lib.hid hput
                            clear hput hA hrow hA2 hW2 hgood
                            generalize f2 v = y at c1
                            have i9 : (q : Int) < (K : Int) + 1 := by have := HQK.out; omega
                            by_cases hy0 : y < 0
                            · have d3 : decide (y < 0) = true := decide_eq_true hy0
                              go_wp2_with fail
                              refine ⟨HPUT.out, by simp [intOf]; omega⟩
                            · have d3 : decide (y < 0) = false := decide_eq_false hy0
                              by_cases hya : (q : Int) < y
                              · have d4 : decide ((q : Int) < y) = true := decide_eq_true hya
                                go_wp2_with fail
                                refine ⟨HPUT.out, by simp [intOf]; omega⟩
                              · have d4 : decide ((q : Int) < y) = false := decide_eq_false hya
                                go_wp2_with fail
                                refine ⟨HSK.out _ HZ2.out HA.out, by simp [intOf]; omega⟩
                          · have e3 := int_beq x ((q : Int) + 1)
                            rw [decide_eq_false hxq] at e3
                            clear hvg hug hxq
                            go_upto_region 22 with fail
                            clear e1 e2 e3
                            have hgood : Good T rows arm goal m.n K q (R (q + 1)) v x := HGX.out x (.inl rfl)
                            have HGOOD := Lib.hid hgood
                            have hA := HA.out
                            have c0 := hA.box.c q _ (avl_get (by have := HQK.out; omega) (Nat.le_refl _))
                            have lg := hA.box.lt
                            have hrow := hA.row q (Nat.le_refl _) (by have := HQK.out; omega)
                            simp only [updR, if_pos] at hrow
                            have c1 := hrow.c v _ (ivl_get hlt)
                            have f1 := hrow.f v
                            have lr := hrow.lt
                            have hA2 := hA.put (Nat.le_refl q) (by have := HQK.out; omega) v x
                            have hW2 : Below B W0 (Z2.setCell ⟨bf' q, v, none⟩ (.int .i64 x)) := HZ2.out.setCell (p := ⟨bf' q, v, none⟩) hhi _
                            have hput : ∃ (u1 : Nat) (f3 : Nat → Int), Value.int .i64 ((u : Int) + 1) = .int .i64 (u1 : Nat) ∧ u1 ≤ m.n ∧ Arr B (Z2.setCell ⟨bf' q, v, none⟩ (.int .i64 x)) gA m.n K q bf' (updR R q f3) ∧ Below B W0 (Z2.setCell ⟨bf' q, v, none⟩ (.int .i64 x)) ∧ (∀ x, x < v → f3 x = f x) ∧ Good T rows arm goal m.n K q (R (q + 1)) v (f3 v) :=
                              ⟨u + 1, _, by simp, by omega, hA2, hW2, fun y hy => (if_neg (by omega)).trans (HFX.out y hy), by rw [if_pos rfl]; exact HGOOD.out⟩
                            have HPUT := Lib.hid hput
                            clear hput hA hrow hA2 hW2 hgood
                            generalize f2 v = y at c1
                            have i9 : (q : Int) < (K : Int) + 1 := by have := HQK.out; omega
                            by_cases hy0 : y < 0
                            · have d3 : decide (y < 0) = true := decide_eq_true hy0
                              go_wp2_with fail
                              refine ⟨HPUT.out, by simp [intOf]; omega⟩
                            · have d3 : decide (y < 0) = false := decide_eq_false hy0
                              by_cases hya : x < y
                              · have d4 : decide (x < y) = true := decide_eq_true hya
                                go_wp2_with fail
                                refine ⟨HPUT.out, by simp [intOf]; omega⟩
                              · have d4 : decide (x < y) = false := decide_eq_false hya
                                go_wp2_with fail
                                refine ⟨HSK.out _ HZ2.out HA.out, by simp [intOf]; omega⟩
                        · have e2 := int_beq (u : Int) (goal : Int)
                          rw [decide_eq_false (by omega)] at e2
                          clear hvg hug
                          go_upto_region 22 with fail
                          clear e1 e2
                          have hgood : Good T rows arm goal m.n K q (R (q + 1)) v x := HGX.out x (.inl rfl)
                          have HGOOD := Lib.hid hgood
                          have hA := HA.out
                          have c0 := hA.box.c q _ (avl_get (by have := HQK.out; omega) (Nat.le_refl _))
                          have lg := hA.box.lt
                          have hrow := hA.row q (Nat.le_refl _) (by have := HQK.out; omega)
                          simp only [updR, if_pos] at hrow
                          have c1 := hrow.c v _ (ivl_get hlt)
                          have f1 := hrow.f v
                          have lr := hrow.lt
                          have hA2 := hA.put (Nat.le_refl q) (by have := HQK.out; omega) v x
                          have hW2 : Below B W0 (Z2.setCell ⟨bf' q, v, none⟩ (.int .i64 x)) := HZ2.out.setCell (p := ⟨bf' q, v, none⟩) hhi _
                          have hput : ∃ (u1 : Nat) (f3 : Nat → Int), Value.int .i64 ((u : Int) + 1) = .int .i64 (u1 : Nat) ∧ u1 ≤ m.n ∧ Arr B (Z2.setCell ⟨bf' q, v, none⟩ (.int .i64 x)) gA m.n K q bf' (updR R q f3) ∧ Below B W0 (Z2.setCell ⟨bf' q, v, none⟩ (.int .i64 x)) ∧ (∀ x, x < v → f3 x = f x) ∧ Good T rows arm goal m.n K q (R (q + 1)) v (f3 v) :=
                            ⟨u + 1, _, by simp, by omega, hA2, hW2, fun y hy => (if_neg (by omega)).trans (HFX.out y hy), by rw [if_pos rfl]; exact HGOOD.out⟩
                          have HPUT := Lib.hid hput
                          clear hput hA hrow hA2 hW2 hgood
                          generalize f2 v = y at c1
                          have i9 : (q : Int) < (K : Int) + 1 := by have := HQK.out; omega
                          by_cases hy0 : y < 0
                          · have d3 : decide (y < 0) = true := decide_eq_true hy0
                            go_wp2_with fail
                            refine ⟨HPUT.out, by simp [intOf]; omega⟩
                          · have d3 : decide (y < 0) = false := decide_eq_false hy0
                            by_cases hya : x < y
                            · have d4 : decide (x < y) = true := decide_eq_true hya
                              go_wp2_with fail
                              refine ⟨HPUT.out, by simp [intOf]; omega⟩
                            · have d4 : decide (x < y) = false := decide_eq_false hya
                              go_wp2_with fail
                              refine ⟨HSK.out _ HZ2.out HA.out, by simp [intOf]; omega⟩
                      · have e1 := int_beq (v : Int) (goal : Int)
                        rw [decide_eq_false (by omega)] at e1
                        clear hvg
                        go_upto_region 22 with fail
                        clear e1
                        have hgood : Good T rows arm goal m.n K q (R (q + 1)) v x := HGX.out x (.inl rfl)
                        have HGOOD := Lib.hid hgood
                        have hA := HA.out
                        have c0 := hA.box.c q _ (avl_get (by have := HQK.out; omega) (Nat.le_refl _))
                        have lg := hA.box.lt
                        have hrow := hA.row q (Nat.le_refl _) (by have := HQK.out; omega)
                        simp only [updR, if_pos] at hrow
                        have c1 := hrow.c v _ (ivl_get hlt)
                        have f1 := hrow.f v
                        have lr := hrow.lt
                        have hA2 := hA.put (Nat.le_refl q) (by have := HQK.out; omega) v x
                        have hW2 : Below B W0 (Z2.setCell ⟨bf' q, v, none⟩ (.int .i64 x)) := HZ2.out.setCell (p := ⟨bf' q, v, none⟩) hhi _
                        have hput : ∃ (u1 : Nat) (f3 : Nat → Int), Value.int .i64 ((u : Int) + 1) = .int .i64 (u1 : Nat) ∧ u1 ≤ m.n ∧ Arr B (Z2.setCell ⟨bf' q, v, none⟩ (.int .i64 x)) gA m.n K q bf' (updR R q f3) ∧ Below B W0 (Z2.setCell ⟨bf' q, v, none⟩ (.int .i64 x)) ∧ (∀ x, x < v → f3 x = f x) ∧ Good T rows arm goal m.n K q (R (q + 1)) v (f3 v) :=
                          ⟨u + 1, _, by simp, by omega, hA2, hW2, fun y hy => (if_neg (by omega)).trans (HFX.out y hy), by rw [if_pos rfl]; exact HGOOD.out⟩
                        have HPUT := Lib.hid hput
                        clear hput hA hrow hA2 hW2 hgood
                        generalize f2 v = y at c1
                        have i9 : (q : Int) < (K : Int) + 1 := by have := HQK.out; omega
                        by_cases hy0 : y < 0
                        · have d3 : decide (y < 0) = true := decide_eq_true hy0
                          go_wp2_with fail
                          refine ⟨HPUT.out, by simp [intOf]; omega⟩
                        · have d3 : decide (y < 0) = false := decide_eq_false hy0
                          by_cases hya : x < y
                          · have d4 : decide (x < y) = true := decide_eq_true hya
                            go_wp2_with fail
                            refine ⟨HPUT.out, by simp [intOf]; omega⟩
                          · have d4 : decide (x < y) = false := decide_eq_false hya
                            go_wp2_with fail
                            refine ⟨HSK.out _ HZ2.out HA.out, by simp [intOf]; omega⟩
              · go_wp2_with fail
                refine ⟨HST.out _ f2 HA.out HW.out HFX.out HGV.out, by simp [intOf]; omega⟩
        · have hstep : ∃ (lo : Nat) (bf1 : Nat → Nat) (R1 : Nat → Nat → Int), Value.int .i64 ((q : Int) - 1) = .int .i64 ((lo : Int) - 1) ∧ lo ≤ K + 1 ∧ Arr B Wb gA m.n K lo bf1 R1 ∧ Below B W0 Wb ∧ ∀ q, lo ≤ q → q ≤ K → ∀ v, v < m.n → Good T rows arm goal m.n K q (R1 (q + 1)) v (R1 q v) :=
            ⟨q, bf', updR R q f, rfl, by omega, HA.out, HW.out, fun j h1 h2 y hy => by
              have hj : j + 1 ≠ q := by omega
              simp only [updR, if_neg hj]
              by_cases e : j = q
              · subst e; rw [if_pos rfl]; exact HF.out y (by omega)
              · rw [if_neg e]; exact HG.out j (by omega) h2 y hy⟩
          have HSTEP := Lib.hid hstep
          clear hstep hA hW
          go_wp2_with fail
          refine ⟨HSTEP.out, by simp [intOf]⟩
end Go.Proofs.Jn
