/-
  Texts put together: Cq Dv Dx Dy Dz Dw.
-/
import Derived.Test.YteeeogdfnpdpcaaZNeighborNearer24
import Derived.Test.YteeeogdfnpdpcaaZNeighborNearer21
set_option linter.unusedVariables false
section
/-
  Walks: the law NeighborTrees.
-/
namespace Go.Proofs.Ng
open Go.RowKit

/-- Points of a robot are valid points. -/
theorem good_vp {js : List JV} {ms : List MV} {oa om : Option Addr} {W : World} {n : Nat} {pts : List (List Int)} (hr : RobP js ms oa om W) (hg : Good js n pts) (hn : n ≤ 1024) : vpB pts = true := by
  refine vp_yes (by rw [hg.1]; exact hn) fun j c hj hc => ?_
  obtain ⟨hl, hi⟩ := hg.2 c (List.mem_of_getElem? hc)
  have hd : dimP pts = js.length := by
    obtain ⟨c0, hc0⟩ : ∃ c, pts[0]? = some c := ⟨_, List.getElem?_eq_getElem (by omega)⟩
    unfold dimP
    rw [hc0]
    exact (hg.2 c0 (List.mem_of_getElem? hc0)).1
  have hjl := hr.1
  unfold okC
  rw [hd, decide_eq_true (by omega), Bool.true_and]
  refine small_yes fun k x hk hx => ?_
  obtain ⟨jv, hjv⟩ : ∃ jv, js[k]? = some jv := ⟨_, List.getElem?_eq_getElem (by omega)⟩
  have h1 := hi k jv x hjv hx
  have h2 := (hr.2.2.1 k jv hjv).lim
  have h3 := limitF_bd jv.kind
  unfold okX
  exact decide_eq_true (by omega)
/-- The cells of rows, one behind another. -/
theorem flat_news {W : World} {n : Nat} (hn : 0 < n) : ∀ {rows : List (List Value)} {b off : Nat}, (∀ r ∈ rows, r.length = n) → RowsAt W b off n rows → ∀ (j : Nat) (u : Value), rows.flatten[j]? = some u → W.cell? ⟨b, off + j, none⟩ = some u
  | [], b, off, _, _, j, u, h => by simp at h
  | r :: rows, b, off, hl, hr, j, u, h => by
    have hrl := hl r (by simp)
    rw [List.flatten_cons] at h
    rcases Nat.lt_or_ge j r.length with h1 | h1
    · rw [List.getElem?_append_left h1] at h
      have := hr.c 0 r rfl j u h
      simpa using this
    · rw [List.getElem?_append_right h1] at h
      have := flat_news hn (rows := rows) (b := b) (off := off + n) (fun r hr => hl r (by simp [hr])) ⟨hr.lt, fun i r' hi k v hv => by
        have := hr.c (i + 1) r' (by simpa using hi) k v hv
        have e : off + ((i + 1) * n + k) = off + n + (i * n + k) := by rw [Nat.succ_mul]; omega
        rw [← e]; exact this⟩ (j - r.length) u h
      have e : off + n + (j - r.length) = off + j := by omega
      rw [← e]; exact this
theorem add_cell (b off j : Nat) : (⟨b, off, none⟩ : Addr).add j = ⟨b, off + j, none⟩ := by unfold Addr.add; split <;> simp_all
theorem nflat_one (t : List Nd) : ∀ u ∈ nflat t, u.oneCell' = true := by
  intro u hu
  unfold nflat at hu
  rw [List.mem_flatten] at hu
  obtain ⟨r, hr, hu⟩ := hu
  rw [List.mem_map] at hr
  obtain ⟨x, _, rfl⟩ := hr
  simp [Nd.vals] at hu
  rcases hu with rfl | rfl | rfl | rfl <;> rfl
theorem nflat_len (t : List Nd) : (nflat t).length = t.length * 4 := by
  unfold nflat
  induction t with
  | nil => rfl
  | cons a r ih => rw [List.map_cons, List.flatten_cons, List.length_append, ih]; simp [Nd.vals]; omega
theorem nflat_mod (f : Nat) (g : Nd → Nd) (v : Value) (hf : f < 4) (hg : ∀ n : Nd, (g n).vals = n.vals.set f v) : ∀ {t : List Nd} {k : Nat}, k < t.length → (nflat t).set (k * 4 + f) v = nflat (t.modify k g)
  | [], k, h => by simp at h
  | a :: t, 0, h => by
    have hl : a.vals.length = 4 := rfl
    have e : nflat ((a :: t).modify 0 g) = (g a).vals ++ nflat t := by simp [nflat]
    have e2 : nflat (a :: t) = a.vals ++ nflat t := by simp [nflat]
    rw [e, e2, hg, List.set_append_left _ _ (by omega), Nat.zero_mul, Nat.zero_add]
  | a :: t, k + 1, h => by
    have ih := nflat_mod f g v hf hg (t := t) (k := k) (by simpa using h)
    have hl : a.vals.length = 4 := rfl
    have e : nflat ((a :: t).modify (k + 1) g) = a.vals ++ nflat (t.modify k g) := by simp [nflat]
    have e2 : nflat (a :: t) = a.vals ++ nflat t := by simp [nflat]
    rw [e, ← ih, e2, List.set_append_right _ _ (by omega)]
    congr 2
    omega
theorem own_nodes2 {W : World} {base : Nat} {v : Value} {t : List Nd} (h : W.ownsRow base 36 4 v t.length (nflat t)) : ∃ ot ct, v = .slice ot t.length ct ∧ Sl W ot 4 (t.map Nd.vals) := by
  obtain ⟨ot, ct, rfl, hs⟩ := own_rows (rows := t.map Nd.vals) (nd_four t) (by rw [List.length_map]; exact h)
  rw [List.length_map]
  exact ⟨ot, ct, rfl, hs⟩
set_option maxRecDepth 100000 in
set_option maxHeartbeats 8000000 in
theorem trees4 (ol om : Option Addr) (cl cm : Nat) (ls xs : List Int) (n at_ how x : Int) (w : World) (hL : Sl w ol 1 (pvals ls)) (hl : ls.length ≤ 9223372036854775807) (hM : Sl w om 1 (pvals xs)) (hm : xs.length * 8 ≤ 140737488351232) (hmn : om = none → xs = [] ∧ cm = 0) :
    Calls Try.prog 4 #[.slice ol ls.length cl, .slice om xs.length cm, .int .i64 n, .int .i64 at_, .int .i64 how, .int .i64 x] w (BoolP true w) := by
  have HSO := Lib.hid (some9 ol om cl cm ls xs n w hL hl hM hm hmn)
  clear hL hM hmn hl hm
  go_enter Try.func4, Try.ntmps4
  go_wp2_with fail
  with_reducible refine HSO.out.mono ?_
  rintro e W2 ⟨js, ms, oa, cj, oms, cms, pts, op, cp, q, oq, cq, rfl, hrob, hgood, hpp, -, -, hb2⟩
  have hpl : pts.length ≤ 12 := by have := hgood.1; omega
  have HV := Lib.hid (good_vp hrob hgood (by omega))
  have HP := Lib.hid hpp
  have HB2 := Lib.hid hb2
  clear hrob hgood hpp hb2 HSO
  go_upto_region 2 with fail
  have hbx_ := blks1 W2 [.slice oa js.length cj, .slice oms ms.length cms] 30
  replace HP := Lib.hid (HP.out.keep hbx_.2)
  have HB3 := Lib.hid (below_call HB2.out hbx_.2)
  generalize W2.alloc (.cells #[.slice oa js.length cj, .slice oms ms.length cms] 30) = W3 at hbx_ HP HB3 ⊢
  obtain ⟨r11, hbel_⟩ := hbx_
  obtain ⟨n11, hn_⟩ : ∃ n, n = W2.heap.size := ⟨_, rfl⟩
  rw [← hn_] at r11 ⊢
  clear hn_ hbel_
  clear r11 HB2
  obtain ⟨hok, htl⟩ := buildP_ok HV.out
  have HOK := Lib.hid hok
  have hbd := build11 op cp pts W3 HP.out
  generalize buildP pts = t at hbd HOK htl
  have HBD := Lib.hid hbd
  have ht12 : t.length ≤ 12 := by omega
  have hd1 : ((t.length : Int) != (pts.length : Int)) = false := by simp [htl]
  have HTL := Lib.hid htl
  clear hok hbd htl
  go_wp2_with fail
  with_reducible refine HBD.out.mono ?_
  rintro e W4 ⟨ot, ct, rfl, hct, hst, hb, -⟩
  have HP4 := Lib.hid (HP.out.keep hb)
  have HB4 := Lib.hid (below_call HB3.out hb)
  have HV4 := Lib.hid (valid13 op ot cp ct pts t W4 HP4.out hst (by omega) (by omega))
  have HT4 := Lib.hid hst
  clear hst hb HBD HP HB3
  go_wp2_with fail
  with_reducible refine HV4.out.mono ?_
  rintro e W5 ⟨b, rfl, hbi, hb5⟩
  have hbt : b = true := hbi.2 HOK.out
  subst hbt
  have HP := Lib.hid (HP4.out.keep hb5)
  have HT := Lib.hid (HT4.out.keep hb5)
  have HB4 := Lib.hid (below_call HB4.out hb5)
  clear hbi hb5 HV4 HP4 HT4
  by_cases h0 : t.length = 0
  · have hd2 : ((t.length : Int) == 0) = true := by simp [h0]
    clear h0
    go_wp2_with fail
    refine (Try.awake _).mono ?_
    rintro e W6 ⟨rfl, hb⟩
    go_wp2_with fail
    go_ret
    exact ⟨rfl, below_call HB4.out hb⟩
  · have hd2 : ((t.length : Int) == 0) = false := beq_eq_false_iff_ne.2 (by omega)
    obtain ⟨bt, offt, rfl, hTr⟩ := HT.out (map_ne (k := 0) (by omega))
    have HNW := Lib.hid (fun (j : Nat) (u : Value) (hu : (nflat t)[j]? = some u) => show W5.cell? ((⟨bt, offt, none⟩ : Addr).add j) = some u from by
      rw [add_cell]; exact flat_news (n := 4) (by omega) (nd_four t) hTr j u hu)
    obtain ⟨i0, hi, hz0, hz1, hz2⟩ := info_parts info36
    have hTr0 := Lib.hid hTr.lt
    clear hTr
    go_wp2_with (at_builtin; refine wpList_append_own _ rfl _ _ 23 rfl W5.heap.size 36 i0 (.agg #[.int .i64 0, .int .i64 0, .int .i64 0, .int .i64 0]) 4 32 under23 hi hz0 hz1 hz2 rfl (by decide) _ _ _ rfl (World.ownsRow_nil W5 W5.heap.size 36 4) ⟨bt, offt, none⟩ t.length ct (nflat t) rfl ?c0 HNW.out (nflat_one t) ?c3 ?c4 (Nat.le_refl _) ?_)
    case c0 => exact nflat_len t
    case c3 => unfold maxLen; omega
    case c4 => omega
    intro v6 W6 ho6 hg6 _
    obtain ⟨gu, c6, rfl⟩ := own_some ho6 (by omega)
    have hB6 := grown_below (World.ownsRow_nil W5 W5.heap.size 36 4) hg6 (Nat.le_refl _)
    have hbt : bt < W5.heap.size := hTr0.out
    have HP6 := Lib.hid (HP.out.keep hB6)
    have HB6 := Lib.hid hB6
    have HO6 := Lib.hid ho6
    have hgu := own_lt ho6 gu rfl
    have hk : ∃ k : Nat, at_ % (t.length : Int) = (k : Nat) ∧ k < t.length := ⟨(at_ % (t.length : Int)).toNat, by have := Int.emod_nonneg at_ (show (t.length : Int) ≠ 0 by omega); omega, by have := Int.emod_lt_of_pos at_ (show (0 : Int) < (t.length : Int) by omega); have := Int.emod_nonneg at_ (show (t.length : Int) ≠ 0 by omega); omega⟩
    obtain ⟨k, hk1, hk2⟩ := hk
    have HK1 := Lib.hid (fun X : World => (round_any at_ (t.length : Int) X (by omega) (by omega)).mono (R' := fun e w' => e = .returned (.int .i64 (k : Nat)) ∧ w' = X) fun _ _ h => ⟨by rw [h.1, hk1], h.2.symm⟩)
    obtain ⟨r, hr⟩ : ∃ r, r = how % 4 := ⟨_, rfl⟩
    have HK2 := Lib.hid (fun X : World => (round_any how 4 X (by omega) (by omega)).mono (R' := fun e w' => e = .returned (.int .i64 r) ∧ w' = X) fun _ _ h => ⟨by rw [h.1, hr], h.2.symm⟩)
    have hr4 : r = 0 ∨ r = 1 ∨ r = 2 ∨ r = 3 := by omega
    clear hg6 hB6 ho6 hk1 hr hi hz0 hz1 hz2 HNW HT
    go_wp2_with fail
    refine (HK1.out _).mono ?_
    rintro e W6 ⟨rfl, rfl⟩
    go_wp2_with fail
    refine (HK2.out _).mono ?_
    rintro e W6 ⟨rfl, rfl⟩
    obtain ⟨nd, hnd⟩ : ∃ nd, t[k]? = some nd := ⟨_, List.getElem?_eq_getElem hk2⟩
    obtain ⟨np, na, nl, nh⟩ := nd
    have z0 : W6.cell? ⟨gu, k * 4, none⟩ = some (.int .i64 np) := own_at HO6.out _ _ (nflat_at hnd (j := 0) rfl)
    have z1 : W6.cell? ⟨gu, k * 4 + 1, none⟩ = some (.int .i64 na) := own_at HO6.out _ _ (nflat_at hnd (j := 1) rfl)
    have z2 : W6.cell? ⟨gu, k * 4 + 2, none⟩ = some (.int .i64 nl) := own_at HO6.out _ _ (nflat_at hnd (j := 2) rfl)
    have z3 : W6.cell? ⟨gu, k * 4 + 3, none⟩ = some (.int .i64 nh) := own_at HO6.out _ _ (nflat_at hnd (j := 3) rfl)
    have f0 := own_frozen HO6.out (by omega) (k * 4)
    have f1 := own_frozen HO6.out (by omega) (k * 4 + 1)
    have f2 := own_frozen HO6.out (by omega) (k * 4 + 2)
    have f3 := own_frozen HO6.out (by omega) (k * 4 + 3)
    have lg := hgu.1
    have HGU := Lib.hid hgu.2
    clear hgu hnd HK1 HK2
    rcases hr4 with rfl | rfl | rfl | rfl
    · go_wp2_with fail
      refine (round_any x ((t.length : Int) + 2) W6 (by omega) (by omega)).mono ?_
      rintro e W6 ⟨rfl, rfl⟩
      have hz1' := Int.emod_nonneg x (show (t.length : Int) + 2 ≠ 0 by omega)
      have hz2' := Int.emod_lt_of_pos x (show (0 : Int) < (t.length : Int) + 2 by omega)
      generalize x % ((t.length : Int) + 2) = z at hz1' hz2' ⊢
      have hw : IntKind.i64.wrap (z - 1) = z - 1 := IntWalk.i64_in _ (by omega)
      have ho := own_set1 HO6.out (k * 4 + 0) (by omega) (.int .i64 (z - 1))
      rw [nflat_mod 0 (fun n => { n with pt := z - 1 }) (.int .i64 (z - 1)) (by omega) (fun n => rfl) hk2] at ho
      have HO7 := Lib.hid ho
      clear ho
      go_upto_region 17 with fail
      have hlen : (t.modify k fun n => { n with pt := z - 1 }).length = t.length := by first | exact List.length_modify .. | exact setLH_len ..
      have hsl := own_nodes2 (W := W6.setCell ⟨gu, k * 4, none⟩ (.int .i64 (z - 1))) (by rw [List.length_modify]; exact HO7.out)
      rw [hlen] at hsl
      obtain ⟨ou, cu, hu, hS⟩ := hsl
      injection hu with hu1 hu2 hu3
      subst hu1 hu3
      have HS := Lib.hid hS
      have HB7 := Lib.hid (HB6.out.setCell (p := ⟨gu, k * 4, none⟩) HGU.out (.int .i64 (z - 1)))
      have HL := Lib.hid hlen
      clear hS hlen hu2
      generalize (t.modify k fun n => { n with pt := z - 1 }) = t' at HS HL
      generalize W6.setCell ⟨gu, k * 4, none⟩ (.int .i64 (z - 1)) = W7 at HS HB7 ⊢
      go_wp2_with fail
      refine (Try.awake _).mono ?_
      rintro e W8 ⟨rfl, hb⟩
      have HB8 := Lib.hid (below_call HB7.out hb)
      have HS8 := Lib.hid (HS.out.keep hb)
      clear hb
      have hv1 := valid13 op (some ⟨gu, 0, none⟩) cp c6 pts t' W8 (HP.out.keep HB8.out) HS8.out (by rw [HL.out]; omega) (by omega)
      rw [HL.out] at hv1
      have HV1 := Lib.hid hv1
      clear hv1
      go_wp2_with fail
      with_reducible refine HV1.out.mono ?_
      rintro e W9 ⟨b1, rfl, i1, hb⟩
      have HB9 := Lib.hid (below_call HB8.out hb)
      have hv2 := validTree14 op (some ⟨gu, 0, none⟩) cp c6 pts t' W9 (HP.out.keep HB9.out) (HS8.out.keep hb) (by rw [HL.out]; omega) (by omega)
      rw [HL.out] at hv2
      have HV2 := Lib.hid hv2
      clear hv2 hb
      go_wp2_with fail
      with_reducible refine HV2.out.mono ?_
      rintro e W10 ⟨b2, rfl, i2, hb⟩
      have HB10 := Lib.hid (below_call HB9.out hb)
      have e1 := iff_beq i1 i2
      clear i1 i2 hb
      go_wp2_with fail
      go_ret
      exact ⟨rfl, below_call HB4.out HB10.out⟩
    · obtain ⟨hp1024, hdim⟩ := vp_dim HV.out
      obtain ⟨p0, hp0⟩ : ∃ c, pts[0]? = some c := ⟨_, List.getElem?_eq_getElem (by have := HTL.out; omega)⟩
      have hpd := hdim p0 (List.mem_of_getElem? hp0)
      obtain ⟨bp, offp, oc, cc, rfl, q0, lbp, -⟩ := (HP.out.keep HB6.out).get hp0
      rw [hpd.1, Nat.add_zero] at q0
      have hpl0 : 0 < pts.length := by have := HTL.out; omega
      have hdp := hpd.2.2
      clear hdim hpd hp0 hp1024
      generalize hdd : dimP pts = d at q0 hdp
      have HDD := Lib.hid hdd
      clear hdd
      go_wp2_with fail
      refine (round_any x ((d : Int) + 2) W6 (by omega) (by omega)).mono ?_
      rintro e W6 ⟨rfl, rfl⟩
      have hz1' := Int.emod_nonneg x (show (d : Int) + 2 ≠ 0 by omega)
      have hz2' := Int.emod_lt_of_pos x (show (0 : Int) < (d : Int) + 2 by omega)
      generalize x % ((d : Int) + 2) = z at hz1' hz2' ⊢
      have hw : IntKind.i64.wrap (z - 1) = z - 1 := IntWalk.i64_in _ (by omega)
      have ho := own_set1 HO6.out (k * 4 + 1) (by omega) (.int .i64 (z - 1))
      rw [nflat_mod 1 (fun n => { n with ax := z - 1 }) (.int .i64 (z - 1)) (by omega) (fun n => rfl) hk2] at ho
      have HO7 := Lib.hid ho
      clear ho
      go_upto_region 17 with fail
      clear q0
      have hlen : (t.modify k fun n => { n with ax := z - 1 }).length = t.length := by first | exact List.length_modify .. | exact setLH_len ..
      have hsl := own_nodes2 (W := W6.setCell ⟨gu, k * 4 + 1, none⟩ (.int .i64 (z - 1))) (by rw [List.length_modify]; exact HO7.out)
      rw [hlen] at hsl
      obtain ⟨ou, cu, hu, hS⟩ := hsl
      injection hu with hu1 hu2 hu3
      subst hu1 hu3
      have HS := Lib.hid hS
      have HB7 := Lib.hid (HB6.out.setCell (p := ⟨gu, k * 4 + 1, none⟩) HGU.out (.int .i64 (z - 1)))
      have HL := Lib.hid hlen
      clear hS hlen hu2
      generalize (t.modify k fun n => { n with ax := z - 1 }) = t' at HS HL
      generalize W6.setCell ⟨gu, k * 4 + 1, none⟩ (.int .i64 (z - 1)) = W7 at HS HB7 ⊢
      go_wp2_with fail
      refine (Try.awake _).mono ?_
      rintro e W8 ⟨rfl, hb⟩
      have HB8 := Lib.hid (below_call HB7.out hb)
      have HS8 := Lib.hid (HS.out.keep hb)
      clear hb
      have hv1 := valid13 (some ⟨bp, offp, none⟩) (some ⟨gu, 0, none⟩) cp c6 pts t' W8 (HP.out.keep HB8.out) HS8.out (by rw [HL.out]; omega) (by omega)
      rw [HL.out] at hv1
      have HV1 := Lib.hid hv1
      clear hv1
      go_wp2_with fail
      with_reducible refine HV1.out.mono ?_
      rintro e W9 ⟨b1, rfl, i1, hb⟩
      have HB9 := Lib.hid (below_call HB8.out hb)
      have hv2 := validTree14 (some ⟨bp, offp, none⟩) (some ⟨gu, 0, none⟩) cp c6 pts t' W9 (HP.out.keep HB9.out) (HS8.out.keep hb) (by rw [HL.out]; omega) (by omega)
      rw [HL.out] at hv2
      have HV2 := Lib.hid hv2
      clear hv2 hb
      go_wp2_with fail
      with_reducible refine HV2.out.mono ?_
      rintro e W10 ⟨b2, rfl, i2, hb⟩
      have HB10 := Lib.hid (below_call HB9.out hb)
      have e1 := iff_beq i1 i2
      clear i1 i2 hb
      go_wp2_with fail
      go_ret
      exact ⟨rfl, below_call HB4.out HB10.out⟩
    · go_wp2_with fail
      refine (round_any x ((t.length : Int) + 2) W6 (by omega) (by omega)).mono ?_
      rintro e W6 ⟨rfl, rfl⟩
      have hz1' := Int.emod_nonneg x (show (t.length : Int) + 2 ≠ 0 by omega)
      have hz2' := Int.emod_lt_of_pos x (show (0 : Int) < (t.length : Int) + 2 by omega)
      generalize x % ((t.length : Int) + 2) = z at hz1' hz2' ⊢
      have hw : IntKind.i64.wrap (z - 1) = z - 1 := IntWalk.i64_in _ (by omega)
      have ho := own_set1 HO6.out (k * 4 + 2) (by omega) (.int .i64 (z - 1))
      rw [nflat_mod 2 (fun n => { n with lo := z - 1 }) (.int .i64 (z - 1)) (by omega) (fun n => rfl) hk2] at ho
      have HO7 := Lib.hid ho
      clear ho
      go_upto_region 17 with fail
      have hlen : (t.modify k fun n => { n with lo := z - 1 }).length = t.length := by first | exact List.length_modify .. | exact setLH_len ..
      have hsl := own_nodes2 (W := W6.setCell ⟨gu, k * 4 + 2, none⟩ (.int .i64 (z - 1))) (by rw [List.length_modify]; exact HO7.out)
      rw [hlen] at hsl
      obtain ⟨ou, cu, hu, hS⟩ := hsl
      injection hu with hu1 hu2 hu3
      subst hu1 hu3
      have HS := Lib.hid hS
      have HB7 := Lib.hid (HB6.out.setCell (p := ⟨gu, k * 4 + 2, none⟩) HGU.out (.int .i64 (z - 1)))
      have HL := Lib.hid hlen
      clear hS hlen hu2
      generalize (t.modify k fun n => { n with lo := z - 1 }) = t' at HS HL
      generalize W6.setCell ⟨gu, k * 4 + 2, none⟩ (.int .i64 (z - 1)) = W7 at HS HB7 ⊢
      go_wp2_with fail
      refine (Try.awake _).mono ?_
      rintro e W8 ⟨rfl, hb⟩
      have HB8 := Lib.hid (below_call HB7.out hb)
      have HS8 := Lib.hid (HS.out.keep hb)
      clear hb
      have hv1 := valid13 op (some ⟨gu, 0, none⟩) cp c6 pts t' W8 (HP.out.keep HB8.out) HS8.out (by rw [HL.out]; omega) (by omega)
      rw [HL.out] at hv1
      have HV1 := Lib.hid hv1
      clear hv1
      go_wp2_with fail
      with_reducible refine HV1.out.mono ?_
      rintro e W9 ⟨b1, rfl, i1, hb⟩
      have HB9 := Lib.hid (below_call HB8.out hb)
      have hv2 := validTree14 op (some ⟨gu, 0, none⟩) cp c6 pts t' W9 (HP.out.keep HB9.out) (HS8.out.keep hb) (by rw [HL.out]; omega) (by omega)
      rw [HL.out] at hv2
      have HV2 := Lib.hid hv2
      clear hv2 hb
      go_wp2_with fail
      with_reducible refine HV2.out.mono ?_
      rintro e W10 ⟨b2, rfl, i2, hb⟩
      have HB10 := Lib.hid (below_call HB9.out hb)
      have e1 := iff_beq i1 i2
      clear i1 i2 hb
      go_wp2_with fail
      go_ret
      exact ⟨rfl, below_call HB4.out HB10.out⟩
    · have ho := own_set1 (own_set1 HO6.out (k * 4 + 2) (by omega) (.int .i64 nh)) (k * 4 + 3) (by omega) (.int .i64 nl)
      rw [nflat_lh hk2] at ho
      have HO7 := Lib.hid ho
      have HB7 := Lib.hid ((HB6.out.setCell (p := ⟨gu, k * 4 + 2, none⟩) HGU.out (.int .i64 nh)).setCell (p := ⟨gu, k * 4 + 3, none⟩) HGU.out (.int .i64 nl))
      clear ho
      go_upto_region 10 with fail
      go_region
      have HO8 := Lib.hid (own_keep HO7.out ((Below.refl _ _).drew))
      have HB8x := Lib.hid HB7.out.drew
      clear HO7 HB7 z0 z1 z2 z3 f0 f1 f2 f3 lg
      generalize ((W6.setCell ⟨gu, k * 4 + 2, none⟩ (.int .i64 nh)).setCell ⟨gu, k * 4 + 3, none⟩ (.int .i64 nl)).drew = X at HO8 HB8x ⊢
      go_wp2_with fail
      go_upto_region 17 with fail
      have hlen : (setLH t k nh nl).length = t.length := by first | exact List.length_modify .. | exact setLH_len ..
      have hsl := own_nodes2 (W := X) (by rw [setLH_len]; exact HO8.out)
      rw [hlen] at hsl
      obtain ⟨ou, cu, hu, hS⟩ := hsl
      injection hu with hu1 hu2 hu3
      subst hu1 hu3
      have HS := Lib.hid hS
      have HB7 := Lib.hid HB8x.out
      have HL := Lib.hid hlen
      clear hS hlen hu2
      generalize (setLH t k nh nl) = t' at HS HL
      generalize X = W7 at HS HB7 ⊢
      go_wp2_with fail
      refine (Try.awake _).mono ?_
      rintro e W8 ⟨rfl, hb⟩
      have HB8 := Lib.hid (below_call HB7.out hb)
      have HS8 := Lib.hid (HS.out.keep hb)
      clear hb
      have hv1 := valid13 op (some ⟨gu, 0, none⟩) cp c6 pts t' W8 (HP.out.keep HB8.out) HS8.out (by rw [HL.out]; omega) (by omega)
      rw [HL.out] at hv1
      have HV1 := Lib.hid hv1
      clear hv1
      go_wp2_with fail
      with_reducible refine HV1.out.mono ?_
      rintro e W9 ⟨b1, rfl, i1, hb⟩
      have HB9 := Lib.hid (below_call HB8.out hb)
      have hv2 := validTree14 op (some ⟨gu, 0, none⟩) cp c6 pts t' W9 (HP.out.keep HB9.out) (HS8.out.keep hb) (by rw [HL.out]; omega) (by omega)
      rw [HL.out] at hv2
      have HV2 := Lib.hid hv2
      clear hv2 hb
      go_wp2_with fail
      with_reducible refine HV2.out.mono ?_
      rintro e W10 ⟨b2, rfl, i2, hb⟩
      have HB10 := Lib.hid (below_call HB9.out hb)
      have e1 := iff_beq i1 i2
      clear i1 i2 hb
      go_wp2_with fail
      go_ret
      exact ⟨rfl, below_call HB4.out HB10.out⟩
end Go.Proofs.Ng
end

section
/-
  What some makes, fits.
-/
namespace Go.Proofs.Ng
open Go.RowKit

theorem fits_some {js : List JV} {ms : List MV} {oa om : Option Addr} {W : World} {n : Nat} {pts : List (List Int)} {q : List Int} (hr : RobP js ms oa om W) (hg : Good js n pts) (hn : n ≤ 1024) (hl : q.length = js.length) (hq : inTo js q) : FitsP js ms pts (buildP pts) q := by
  refine ⟨okR_rob hr, hl, small_in hr hl hq, (buildP_ok (good_vp hr hg hn)).1, ?_⟩
  by_cases h : pts = []
  · exact .inl h
  · obtain ⟨x, xs, rfl⟩ := List.exists_cons_of_ne_nil h
    refine .inr ?_
    unfold dimP
    simpa using (hg.2 x (by simp)).1
end Go.Proofs.Ng
end

section
/-
  Flags of those seen.
-/
namespace Go.Proofs.Ng
open Go.RowKit

def inB (n : Nat) (l : List Nat) : List Bool := (List.range n).map fun p => decide (p ∈ l)
theorem inB_len (n : Nat) (l : List Nat) : (inB n l).length = n := by simp [inB]
theorem inB_nil (n : Nat) : inB n [] = List.replicate n false := by
  apply List.ext_getElem
  · simp [inB]
  · intro i h1 h2; simp [inB]
theorem inB_get {n : Nat} {l : List Nat} {p : Nat} (h : p < n) : (inB n l)[p]? = some (decide (p ∈ l)) := by
  simp [inB, h]
theorem inB_set {n : Nat} {l : List Nat} {p : Nat} (h : p < n) : (inB n l).set p true = inB n (l ++ [p]) := by
  apply List.ext_getElem?
  intro i
  rw [List.getElem?_set, inB_len]
  by_cases hi : i < n
  · rw [inB_get hi, inB_get hi]
    by_cases e : p = i
    · subst e; simp [h]
    · simp [e, Ne.symm e]
  · rw [if_neg (by omega), List.getElem?_eq_none (by rw [inB_len]; omega), List.getElem?_eq_none (by rw [inB_len]; omega)]
end Go.Proofs.Ng
end

section
/-
  The reference's distance of a point.
-/
namespace Go.Proofs.Ng
open Go.RowKit

theorem dist_pt {oj om ox oq : Option Addr} {cj cm cx cq : Nat} {js : List JV} {ms : List MV} {pts : List (List Int)} {t : List Nd} {x q : List Int} {p : Nat} {X : World}
    (hF : FitsP js ms pts t q) (hl : ms.length ≤ 9223372036854775807) (hJ : Sl X oj 12 (js.map JV.vals)) (hM : Sl X om 5 (ms.map MV.vals)) (hx : pts[p]? = some x) (hX : Sl X ox 1 (pvals x)) (hQ : Sl X oq 1 (pvals q)) :
    Calls Try.prog 18 #[.agg #[.slice oj js.length cj, .slice om ms.length cm], .slice ox x.length cx, .slice oq q.length cq] X (fun e w' => e = .returned (.int .i64 (dP js q pts p)) ∧ Below X.heap.size X w') := by
  obtain ⟨hok, hql, hsq, hkd, hd⟩ := hF
  have hmem := List.mem_of_getElem? hx
  have hdim : dimP pts = js.length := by
    rcases hd with h | h
    · subst h; simp at hx
    · exact h
  have hxl := ((vp_dim hkd.1).2 x hmem).1
  have hsx : smallB x = true := by
    have hv := hkd.1
    unfold vpB at hv
    rw [Bool.and_eq_true, decide_eq_true_eq, List.all_eq_true] at hv
    have h1 := hv.2 x hmem
    unfold okC at h1
    rw [Bool.and_eq_true] at h1
    exact h1.2
  have e : dP js q pts p = dst js q x := by unfold dP; rw [hx]; rfl
  rw [e]
  exact dist18 oj om ox oq cj cm cx cq js ms x q X (by have := hok.1.2; omega) hl hJ hM hX hQ hok hsx hsq (by omega) (by omega)
end Go.Proofs.Ng
end

section
/-
  The plain law of Nearest: another order of the points.
-/
namespace Go.Proofs.Ng
open Go.RowKit

/-- The i-th of the nearest is no farther than the i-th of another list that shows as far points. -/
theorem near_ord {k k' n n' : Nat} {dA dB : Nat → Int} {R S : List Nat} (hR : NearL k n dA R) (hS : NearL k' n' dB S) (f : Nat → Nat) (hlt : ∀ p, p < n' → f p < n) (hinj : ∀ p q, p < n' → q < n' → f p = f q → p = q) (hd : ∀ p, p < n' → dA (f p) = dB p) {i a b : Nat} (ha : R[i]? = some a) (hb : S[i]? = some b) : dA a ≤ dB b := by
  refine Int.not_lt.1 fun hc => ?_
  obtain ⟨hi, -⟩ := List.getElem?_eq_some_iff.1 ha
  obtain ⟨hj, -⟩ := List.getElem?_eq_some_iff.1 hb
  have hmS : ∀ p ∈ S.take (i + 1), p < n' := fun p hp => hS.set.lt p (List.mem_of_mem_take hp)
  have hnd : ((S.take (i + 1)).map f).Nodup := by
    have hn : (S.take (i + 1)).Nodup := hS.set.nd.sublist (List.take_sublist _ _)
    rw [List.Nodup, List.pairwise_map]
    refine (List.Pairwise.and_mem.1 hn).imp ?_
    rintro p q ⟨hp, hq, hne⟩ e
    exact hne (hinj p q (hmS p hp) (hmS q hq) e)
  have hsub : ∀ x ∈ (S.take (i + 1)).map f, x ∈ R.take i := fun x hx => by
    obtain ⟨p, hp, rfl⟩ := List.mem_map.1 hx
    have hpn := hmS p hp
    have hle : dB p ≤ dB b := by
      obtain ⟨j, hjp⟩ := List.mem_iff_getElem?.1 hp
      rw [List.getElem?_take] at hjp
      split at hjp
      · exact hS.le (by omega) hjp hb
      · cases hjp
    have hxR : f p ∈ R := Decidable.byContradiction fun hn => by
      have h1 := hR.out (hlt p hpn) hn (List.mem_of_getElem? ha)
      have h2 := hd p hpn
      omega
    obtain ⟨j, hjp⟩ := List.mem_iff_getElem?.1 hxR
    refine List.mem_iff_getElem?.2 ⟨j, ?_⟩
    rw [List.getElem?_take]
    split
    · exact hjp
    · have h1 := hR.le (show i ≤ j by omega) ha hjp
      have h2 := hd p hpn
      omega
  have hcount := nodup_sub _ _ hnd hsub
  rw [List.length_map, List.length_take, List.length_take] at hcount
  omega
/-- The points in another order: their distances. -/
theorem near_perm {k n : Nat} {dA dB : Nat → Int} {R S : List Nat} (hR : NearL k n dA R) (hS : NearL k n dB S) (f : Nat → Nat) (hlt : ∀ p, p < n → f p < n) (hinj : ∀ p q, p < n → q < n → f p = f q → p = q) (hon : ∀ p, p < n → ∃ q, q < n ∧ f q = p) (hd : ∀ p, p < n → dA (f p) = dB p) {i a b : Nat} (ha : R[i]? = some a) (hb : S[i]? = some b) : dA a = dB b := by
  refine Int.le_antisymm (near_ord hR hS f hlt hinj hd ha hb) ?_
  have hg : ∀ p : Nat, ∃ q, p < n → q < n ∧ f q = p := fun p => by
    by_cases hp : p < n
    · obtain ⟨q, h1, h2⟩ := hon p hp
      exact ⟨q, fun _ => ⟨h1, h2⟩⟩
    · exact ⟨0, fun h => absurd h hp⟩
  obtain ⟨g, hg⟩ := Classical.axiomOfChoice hg
  refine near_ord hS hR g (fun p hp => (hg p hp).1) (fun p q hp hq e => ?_) (fun p hp => ?_) hb ha
  · rw [← (hg p hp).2, e, (hg q hq).2]
  · rw [← hd _ (hg p hp).1, (hg p hp).2]
/-- A distance is not negative. -/
theorem dP_nn {js : List JV} {ms : List MV} {pts : List (List Int)} {t : List Nd} {q : List Int} (h : FitsP js ms pts t q) (p : Nat) : 0 ≤ dP js q pts p := by
  have hw := wt_nn (okR_tame h.1 h.2.2.1).w
  unfold dP dst
  generalize (pts[p]?.getD []) = x
  induction x.length with
  | zero => exact Int.le_refl _
  | succ m ih => exact Int.add_nonneg ih (Int.mul_nonneg (hw m) (gapA_nn _))
end Go.Proofs.Ng
end

section
/-
  The law NeighborNearer.
-/
namespace Go.Proofs.Ng
open Go.RowKit

set_option maxRecDepth 100000 in
set_option maxHeartbeats 4000000 in
theorem nearer5 (ol om : Option Addr) (cl cm : Nat) (ls xs : List Int) (n k : Int) (w : World) (hL : Sl w ol 1 (pvals ls)) (hl : ls.length ≤ 9223372036854775807) (hM : Sl w om 1 (pvals xs)) (hm : xs.length * 8 ≤ 140737488351232) (hmn : om = none → xs = [] ∧ cm = 0) :
    Calls Try.prog 5 #[.slice ol ls.length cl, .slice om xs.length cm, .int .i64 n, .int .i64 k] w (BoolP true w) := by
  have HSO := Lib.hid (some9 ol om cl cm ls xs n w hL hl hM hm hmn)
  obtain ⟨j, hj⟩ : ∃ j : Nat, k % 8 = (j : Nat) ∧ j < 8 := ⟨(k % 8).toNat, by omega, by omega⟩
  have HRD := Lib.hid (fun X : World => (round_any k 8 X (by omega) (by omega)).mono (R' := fun e w' => e = .returned (.int .i64 (j : Nat)) ∧ w' = X) fun _ _ h => ⟨by rw [h.1, hj.1], h.2.symm⟩)
  have hj8 := hj.2
  clear hL hM hmn hl hm hj
  go_enter Try.func5, Try.ntmps5
  go_wp2_with fail
  with_reducible refine HSO.out.mono ?_
  rintro e W2 ⟨js, ms, oa, cj, oms, cms, pts, op, cp, q, oq, cq, rfl, hrob, hgood, hpp, ⟨hql, hqi⟩, hqs, hb2⟩
  have hpl : pts.length ≤ 12 := by have := hgood.1; omega
  have HFI := Lib.hid (fits_some hrob hgood (by omega) hql hqi)
  have HP := Lib.hid hpp
  have HQ := Lib.hid hqs
  have HROB := Lib.hid hrob
  have HB2 := Lib.hid hb2
  have HQL := Lib.hid hql
  have hq12 : q.length ≤ 12 := by have := hrob.1; omega
  have hj3 : js.length ≤ 3 := by have := hrob.1; omega
  clear hrob hgood hpp hb2 hqs hqi HSO hql
  go_upto_region 2 with fail
  have hbx_ := blks1 W2 [.slice oa js.length cj, .slice oms ms.length cms] 30
  replace HP := Lib.hid (HP.out.keep hbx_.2)
  replace HQ := Lib.hid (HQ.out.keep hbx_.2)
  have HB3 := Lib.hid (hbx_.2)
  generalize W2.alloc (.cells #[.slice oa js.length cj, .slice oms ms.length cms] 30) = W3 at hbx_ HP HQ HB3 ⊢
  obtain ⟨r9, hbel_⟩ := hbx_
  obtain ⟨n9, hn_⟩ : ∃ n, n = W2.heap.size := ⟨_, rfl⟩
  rw [← hn_] at r9 ⊢
  clear hn_ hbel_
  have HROB := Lib.hid (show Sl W3 oa 12 (js.map JV.vals) ∧ Sl W3 oms 5 (ms.map MV.vals) ∧ ms.length ≤ 2 from by
    have h := HROB.out
    obtain ⟨_, h2, _, _, h5, h6⟩ := h
    exact ⟨h5.keep HB3.out, h6.keep HB3.out, h2⟩)
  have HB3 := Lib.hid (below_call HB2.out HB3.out)
  have hbd := build11 op cp pts W3 HP.out
  have HOK := Lib.hid (HFI.out.2.2.2.1)
  generalize buildP pts = t at hbd HOK HFI
  have HBD := Lib.hid hbd
  have ht12 : t.length ≤ 12 := by have := HOK.out.2.1; omega
  have HR9 := Lib.hid r9
  clear hbd r9 HB2
  go_wp2_with fail
  with_reducible refine HBD.out.mono ?_
  rintro e W4 ⟨ot, ct, rfl, -, hst, hb, -⟩
  have HT := Lib.hid hst
  have HP := Lib.hid (HP.out.keep hb)
  have HQ := Lib.hid (HQ.out.keep hb)
  have HROB := Lib.hid (show Sl W4 oa 12 (js.map JV.vals) ∧ Sl W4 oms 5 (ms.map MV.vals) ∧ ms.length ≤ 2 from ⟨HROB.out.1.keep hb, HROB.out.2.1.keep hb, HROB.out.2.2⟩)
  have HB4 := Lib.hid (below_call HB3.out hb)
  have HR9 := Lib.hid (HR9.out.keep hb)
  clear hst hb HBD HB3
  obtain ⟨j1, hj1⟩ : ∃ j1 : Nat, j1 = 1 + j := ⟨_, rfl⟩
  obtain ⟨j2, hj2⟩ : ∃ j2 : Nat, j2 = j1 + 1 := ⟨_, rfl⟩
  have hw1 : IntKind.i64.wrap (1 + (j : Int)) = 1 + (j : Int) := IntWalk.i64_in _ (by omega)
  have E1 : Hid ((1 + (j : Int)) = ((j1 : Nat) : Int)) := Lib.hid (by omega)
  have E2 : Hid (((j2 : Nat) : Int) = (j1 : Int) + 1) := Lib.hid (by omega)
  have HJJ : Hid (j2 = j1 + 1 ∧ 1 ≤ j1 ∧ j1 ≤ 8) := Lib.hid (by omega)
  clear hj1 hj2
  go_wp2_with fail
  refine (HRD.out _).mono ?_
  rintro e W5 ⟨rfl, hw5⟩
  subst hw5
  go_upto_region 4 with fail
  rw [E1.out]
  clear hw1 E1
  have hw2 : IntKind.i64.wrap ((j1 : Int) + 1) = (j1 : Int) + 1 := IntWalk.i64_in _ (by have := HJJ.out; omega)
  have hNN : ∀ (X : World) (k : Nat), Below W5.heap.size W5 X → 1 ≤ k → k ≤ 100 → Calls Try.prog 16 #[.agg #[.slice oa js.length cj, .slice oms ms.length cms], .slice op pts.length cp, .slice ot t.length ct, .slice oq q.length cq, .int .i64 (k : Nat)] X (NearP k pts.length (dP js q pts) X) := fun X k hX h1 h2 =>
    nearest16 oa oms op ot oq cj cms cp ct cq js ms pts t q k X (by omega) (by have := HROB.out.2.2; omega) (HROB.out.1.keep hX) (HROB.out.2.1.keep hX) (HP.out.keep hX) (HT.out.keep hX) (HQ.out.keep hX) (by omega) (by omega) (by omega) HFI.out h1 (by omega)
  have HN1 := Lib.hid (fun (X : World) (hX : Below W5.heap.size W5 X) => hNN X j1 hX HJJ.out.2.1 (by have := HJJ.out; omega))
  have HN2 := Lib.hid (fun (X : World) (hX : Below W5.heap.size W5 X) => hNN X j2 hX (by have := HJJ.out; omega) (by have := HJJ.out; omega))
  rw [E2.out] at HN2
  clear hNN E2
  have hmk : ∀ Y, Below W5.heap.size W5 Y → Y.cell? ⟨n9, 0, none⟩ = some (.slice oa js.length cj) ∧ Y.cell? ⟨n9, 1, none⟩ = some (.slice oms ms.length cms) ∧ Below W5.heap.size W5 Y := fun Y hY => ⟨(HR9.out.keep hY).c 0 _ rfl, (HR9.out.keep hY).c 1 _ rfl, hY⟩
  have hS := hmk W5 (Below.refl _ _)
  have HMK := Lib.hid hmk
  have l9 := HR9.out.lt
  clear hmk
  go_cut [14, 15] (fun u v X => ∃ (R S : List Nat) (b1 b2 : Nat), NearL j1 pts.length (dP js q pts) R ∧ NearL j2 pts.length (dP js q pts) S ∧ u = .slice (some ⟨b1, 0, none⟩) R.length R.length ∧ v = .slice (some ⟨b2, 0, none⟩) S.length S.length ∧ Blk X b1 (pflat (R.map fun x => ((x : Nat) : Int))) ∧ Blk X b2 (pflat (S.map fun x => ((x : Nat) : Int))) ∧ Below W5.heap.size W5 X)
  case first =>
    go_region_held3 (fun Y => Y.cell? ⟨n9, 0, none⟩ = some (.slice oa js.length cj) ∧ Y.cell? ⟨n9, 1, none⟩ = some (.slice oms ms.length cms) ∧ Below W5.heap.size W5 Y)
      (first
        | assumption
        | exact HMK.out _ (by repeat (first | assumption | exact Below.refl _ _ | apply Below.drew | exact (by assumption : _ ∧ _ ∧ Below W5.heap.size W5 _).2.2)))
      (first
        | (go_at_call 16
           with_reducible refine (HN1.out _ (by assumption : _ ∧ _ ∧ Below W5.heap.size W5 _).2.2).mono ?_
           rintro e Xa ⟨R, b1, hR, rfl, hb1, hba, hk1⟩
           have hbs := (by assumption : _ ∧ _ ∧ Below W5.heap.size W5 _).2.2
           have hr1 := hba
           replace hba := below_call hbs hba)
        | (go_at_call 16
           with_reducible refine (HN2.out _ (by assumption : _ ∧ _ ∧ Below W5.heap.size W5 _).2.2).mono ?_
           rintro e Xb ⟨S, b2, hS2, rfl, hb2, hbb, hk2⟩
           have hbs := (by assumption : _ ∧ _ ∧ Below W5.heap.size W5 _).2.2
           have hr2 := hbb
           replace hbb := below_call hbs hbb))
    all_goals
      go_wp2_with fail
      go_meet
      exact ⟨R, S, b1, b2, hR, hS2, rfl, rfl, by first | exact hk1 | exact hk1.keep hr2 | exact (hk1.keep (Below.refl _ _).drew).keep hr2, by first | exact hk2 | exact hk2.keep hr1 | exact (hk2.keep (Below.refl _ _).drew).keep hr1, by first | exact hbb | exact hba⟩
  case rest =>
    obtain ⟨R, S, b1, b2, hR, hS2, rfl, rfl, hk1, hk2, hb6⟩ := hcut
    clear hS HMK HN1 HN2 l9 hw2
    have hmore := near_more hR (by have := HJJ.out.1; subst this; exact hS2)
    have hlR := hR.set.len
    have hlS := hS2.set.len
    have hRS : R.length ≤ S.length := by have := HJJ.out; omega
    have hmn1 : ((R.length : Int) != min (j1 : Int) (pts.length : Int)) = false := by simp; omega
    have hmn2 : ((S.length : Int) != min ((j1 : Int) + 1) (pts.length : Int)) = false := by have := HJJ.out; simp; omega
    have hw2 : IntKind.i64.wrap ((j1 : Int) + 1) = (j1 : Int) + 1 := IntWalk.i64_in _ (by have := HJJ.out; omega)
    have hlt12 : R.length ≤ 12 := by omega
    have hsl1 : Sl wc (some ⟨b1, 0, none⟩) 1 (pvals (R.map fun x => ((x : Nat) : Int))) := by
      have h := blk_sl R.length hk1
      rwa [List.take_of_length_le (by simp)] at h
    have hsl2 : Sl wc (some ⟨b2, 0, none⟩) 1 (pvals (R.map fun x => ((x : Nat) : Int))) := by
      have h := blk_sl R.length hk2
      rwa [← List.map_take, ← hmore] at h
    have HSM := Lib.hid (same17 (some ⟨b1, 0, none⟩) (some ⟨b2, 0, none⟩) R.length S.length (R.map fun x => ((x : Nat) : Int)) wc hsl1 hsl2 (by simp; omega))
    rw [List.length_map] at HSM
    have HK1 := Lib.hid hk1
    have HK2 := Lib.hid hk2
    have HB6 := Lib.hid hb6
    have HMO := Lib.hid hmore
    have HRR := Lib.hid hR
    have HLR := Lib.hid hlR
    have HLS := Lib.hid hlS
    have HSL1 := Lib.hid hsl1
    clear hk1 hk2 hb6 hmore hR hS2 hlR hlS hsl1 hsl2
    go_wp2_with fail
    with_reducible refine HSM.out.mono ?_
    rintro e W7 ⟨rfl, hb7⟩
    have hmk := run_make44 pts.length (by omega)
    have HB7 := Lib.hid (below_call HB6.out hb7)
    have HSL7 := Lib.hid (HSL1.out.keep hb7)
    clear hb7 HSM HSL1 hmn1 hmn2 hw2
    go_upto_region 10 with fail
    obtain ⟨gI, hgI⟩ : ∃ n, n = W7.heap.size := ⟨_, rfl⟩
    have kI : Blk (W7.alloc (.cells (bls (List.replicate pts.length false)).toArray 4)) gI (bls (inB pts.length (R.take 0))) := by
      rw [List.take_zero, inB_nil, hgI]
      exact Blk.new W7 _ 4
    have kB : Below W7.heap.size W7 (W7.alloc (.cells (bls (List.replicate pts.length false)).toArray 4)) := (Below.refl _ _).alloc (Nat.le_refl _) _
    rw [← hgI]
    have HGI := Lib.hid hgI
    clear hmk hgI
    go_loopw [17, 18, 19] (fun f i d X => ∃ (k : Nat) (fv : Int), i = .int .i64 (k : Nat) ∧ k ≤ R.length ∧ f = .int .i64 fv ∧ (fv = -1 ∨ ∃ i' a, i' < k ∧ R[i']? = some a ∧ fv = dP js q pts a) ∧ Blk X gI (bls (inB pts.length (R.take k))) ∧ Below W7.heap.size W7 X) (fun _ i _ _ => R.length - (intOf i).toNat)
    case atStart => exact ⟨0, -1, rfl, Nat.zero_le _, rfl, .inl rfl, kI, kB⟩
    case round =>
      clear kI kB
      obtain ⟨k', fv, rfl, hk', rfl, hfv, kI, kB⟩ := hrel
      by_cases hlt : k' < R.length
      · obtain ⟨a, ha⟩ : ∃ a, R[k']? = some a := ⟨_, List.getElem?_eq_getElem hlt⟩
        have han : a < pts.length := HRR.out.set.lt a (List.mem_of_getElem? ha)
        have hnt : a ∉ R.take k' := by
          obtain ⟨h1, h2⟩ := List.getElem?_eq_some_iff.1 ha
          have hd : R.drop k' = a :: R.drop (k' + 1) := by rw [List.drop_eq_getElem_cons h1, h2]
          have hn := HRR.out.set.nd
          rw [← List.take_append_drop k' R, hd, List.nodup_append] at hn
          exact fun h => hn.2.2 a h a (by simp) rfl
        obtain ⟨br, offr, hbr, z1, lr⟩ := pv_get (HSL7.out.keep kB) (show (R.map fun x => ((x : Nat) : Int))[k']? = some ((a : Nat) : Int) by rw [List.getElem?_map, ha]; rfl)
        injection hbr with hbr
        injection hbr with hb0 hb1
        subst hb0
        subst hb1
        have z2 : wr.cell? ⟨gI, a, none⟩ = some (.bool false) := kI.c a _ (bls_get (by rw [inB_get han]; simp [hnt]))
        have lI := kI.lt
        have fI := kI.f a
        have ha0 : decide ((a : Int) < 0) = false := decide_eq_false (by omega)
        have ha1 : decide ((pts.length : Int) ≤ (a : Int)) = false := decide_eq_false (by omega)
        have ha2 : (a : Int) < (pts.length : Int) := by omega
        have hkr : (k' : Int) < (R.length : Int) := by omega
        rw [Nat.zero_add] at z1
        have KI := Lib.hid kI
        have KB := Lib.hid kB
        have HFV := Lib.hid hfv
        have HA := Lib.hid ha
        have HNT := Lib.hid hnt
        clear kI kB hfv ha hnt
        go_upto_region 15 with fail
        obtain ⟨V, hV⟩ : ∃ X, X = wr.setCell ⟨gI, a, none⟩ (.bool true) := ⟨_, rfl⟩
        have htk : R.take (k' + 1) = R.take k' ++ [a] := by rw [List.take_add_one, HA.out]; rfl
        have kI2 : Blk V gI (bls (inB pts.length (R.take (k' + 1)))) := by
          have h := KI.out.put a (.bool true)
          rw [bls_set, inB_set han, ← htk, ← hV] at h
          exact h
        have kB2 : Below W7.heap.size W7 V := by rw [hV]; exact KB.out.setCell (p := ⟨gI, a, none⟩) (Nat.le_of_eq HGI.out.symm) _
        rw [← hV]
        have KI2 := Lib.hid kI2
        have KB2 := Lib.hid kB2
        clear hV z1 z2 lr lI fI htk kI2
        obtain ⟨x, hx⟩ : ∃ x, pts[a]? = some x := ⟨_, List.getElem?_eq_getElem han⟩
        have hb7v := below_call HB7.out kB2
        obtain ⟨bp, offp, ox, cx, hope, y4, lp, hox⟩ := (HP.out.keep hb7v).get hx
        subst hope
        obtain ⟨br2, offr2, hbr2, z1, lr⟩ := pv_get (HSL7.out.keep kB2) (show (R.map fun x => ((x : Nat) : Int))[k']? = some ((a : Nat) : Int) by rw [List.getElem?_map, HA.out]; rfl)
        injection hbr2 with hbr2
        injection hbr2 with hb0 hb1
        subst hb0
        subst hb1
        rw [Nat.zero_add] at z1
        have z9 := HR9.out.keep hb7v
        have y0 : V.cell? ⟨n9, 0, none⟩ = some (.slice oa js.length cj) := z9.c 0 _ rfl
        have y1 : V.cell? ⟨n9, 1, none⟩ = some (.slice oms ms.length cms) := z9.c 1 _ rfl
        have l9 := z9.lt
        have hmk : ∀ Y, Below V.heap.size V Y → Y.cell? ⟨n9, 0, none⟩ = some (.slice oa js.length cj) ∧ Y.cell? ⟨n9, 1, none⟩ = some (.slice oms ms.length cms) ∧ Y.cell? ⟨b1, k', none⟩ = some (.int .i64 (a : Nat)) ∧ Y.cell? ⟨bp, offp + a, none⟩ = some (.slice ox x.length cx) ∧ Below V.heap.size V Y := fun Y hY => ⟨(hY.cell (p := ⟨n9, 0, none⟩) l9).trans y0, (hY.cell (p := ⟨n9, 1, none⟩) l9).trans y1, (hY.cell (p := ⟨b1, k', none⟩) lr).trans z1, (hY.cell (p := ⟨bp, offp + a, none⟩) lp).trans y4, hY⟩
        have hS := hmk V (Below.refl _ _)
        have HMK := Lib.hid hmk
        have HDI := Lib.hid (fun (X : World) (hX : Below V.heap.size V X) => (dist_pt (X := X) (oj := oa) (om := oms) (ox := ox) (oq := oq) (cj := cj) (cm := cms) (cx := cx) (cq := cq) HFI.out (by have := HROB.out.2.2; omega) (HROB.out.1.keep (hb7v.trans (hX.mono hb7v.size))) (HROB.out.2.1.keep (hb7v.trans (hX.mono hb7v.size))) hx (hox.keep hX) (HQ.out.keep (hb7v.trans (hX.mono hb7v.size)))))
        have hnn := dP_nn HFI.out a
        have hfd : decide (dP js q pts a < fv) = false := decide_eq_false (by
          rcases HFV.out with h | ⟨i', a', h1, h2, h3⟩
          · omega
          · have := HRR.out.le (show i' ≤ k' by omega) h2 HA.out
            omega)
        have HX := Lib.hid hx
        clear hmk hx hox kB2 hb7v z9 y0 y1 y4 z1 HP hnn
        go_region_held3 (fun Y => Y.cell? ⟨n9, 0, none⟩ = some (.slice oa js.length cj) ∧ Y.cell? ⟨n9, 1, none⟩ = some (.slice oms ms.length cms) ∧ Y.cell? ⟨b1, k', none⟩ = some (.int .i64 (a : Nat)) ∧ Y.cell? ⟨bp, offp + a, none⟩ = some (.slice ox x.length cx) ∧ Below V.heap.size V Y)
          (first
            | assumption
            | exact HMK.out _ (by repeat (first | assumption | exact Below.refl _ _ | apply Below.drew | exact (by assumption : _ ∧ _ ∧ _ ∧ _ ∧ Below V.heap.size V _).2.2.2.2)))
          ((go_at_call 18
            with_reducible refine (HDI.out _ (by assumption : _ ∧ _ ∧ _ ∧ _ ∧ Below V.heap.size V _).2.2.2.2).mono ?_
            rintro e Xa ⟨rfl, hba⟩
            have hbs := (by assumption : _ ∧ _ ∧ _ ∧ _ ∧ Below V.heap.size V _).2.2.2.2
            replace hba := below_call hbs hba))
        all_goals
          go_wp2_with fail
          go_roundw
          case rel => exact ⟨k' + 1, _, by simp, by omega, rfl, .inr ⟨k', a, by omega, HA.out, rfl⟩, KI2.out.keep hba, below_call KB2.out hba⟩
          case measure => simp [intOf]; omega
      · obtain ⟨Wb, rfl⟩ : ∃ X, X = wr := ⟨_, rfl⟩
        obtain rfl : k' = R.length := by omega
        rw [List.take_length] at kI
        have KI := Lib.hid kI
        have HB7w := Lib.hid (below_call HB7.out kB)
        have hfv2 : ∀ p, p < pts.length → p ∉ R → fv ≤ dP js q pts p := fun p hp hn => by
          rcases hfv with h | ⟨i', a', _, h2, h3⟩
          · have := dP_nn HFI.out p; omega
          · have := HRR.out.out hp hn (List.mem_of_getElem? h2); omega
        have HF2 := Lib.hid hfv2
        clear kI kB hfv hfv2 hlt hk'
        have hkr : ¬ ((R.length : Int) < (R.length : Int)) := Int.lt_irrefl _
        go_wp2_with fail
        go_loopw [20] (fun i X => ∃ p : Nat, i = .int .i64 (p : Nat) ∧ p ≤ pts.length ∧ Below Wb.heap.size Wb X) (fun i _ => pts.length - (intOf i).toNat)
        case atStart => exact ⟨0, rfl, Nat.zero_le _, Below.refl _ _⟩
        case round =>
          clear hkr
          obtain ⟨p, rfl, hp, hb⟩ := hrel
          obtain ⟨V, rfl⟩ : ∃ X, X = wr := ⟨_, rfl⟩
          by_cases hpl : p < pts.length
          · have kI2 := KI.out.keep hb
            have hpi : (p : Int) < (pts.length : Int) := by omega
            have hpi0 : (0 : Int) ≤ (p : Int) := by omega
            have lI := kI2.lt
            by_cases hin : p ∈ R
            · have z2 : V.cell? ⟨gI, p, none⟩ = some (.bool true) := kI2.c p _ (bls_get (by rw [inB_get hpl]; simp [hin]))
              have HBB := Lib.hid hb
              clear kI2 hb
              go_upto_region 22 with fail
              go_quiet (fail)
              go_wp2_with fail
              go_roundw
              case rel => exact ⟨p + 1, by simp, by omega, below_call HBB.out (below_drew _ _)⟩
              case measure => simp [intOf]; omega
            · have z2 : V.cell? ⟨gI, p, none⟩ = some (.bool false) := kI2.c p _ (bls_get (by rw [inB_get hpl]; simp [hin]))
              obtain ⟨x, hx⟩ : ∃ x, pts[p]? = some x := ⟨_, List.getElem?_eq_getElem hpl⟩
              have hb7v := below_call HB7w.out hb
              obtain ⟨bp, offp, ox, cx, hope, y4, lp, hox⟩ := (HP.out.keep hb7v).get hx
              subst hope
              have z9 := HR9.out.keep hb7v
              have y0 : V.cell? ⟨n9, 0, none⟩ = some (.slice oa js.length cj) := z9.c 0 _ rfl
              have y1 : V.cell? ⟨n9, 1, none⟩ = some (.slice oms ms.length cms) := z9.c 1 _ rfl
              have l9 := z9.lt
              have hmk : ∀ Y, Below V.heap.size V Y → Y.cell? ⟨n9, 0, none⟩ = some (.slice oa js.length cj) ∧ Y.cell? ⟨n9, 1, none⟩ = some (.slice oms ms.length cms) ∧ Y.cell? ⟨gI, p, none⟩ = some (.bool false) ∧ Y.cell? ⟨bp, offp + p, none⟩ = some (.slice ox x.length cx) ∧ Below V.heap.size V Y := fun Y hY => ⟨(hY.cell (p := ⟨n9, 0, none⟩) l9).trans y0, (hY.cell (p := ⟨n9, 1, none⟩) l9).trans y1, (hY.cell (p := ⟨gI, p, none⟩) lI).trans z2, (hY.cell (p := ⟨bp, offp + p, none⟩) lp).trans y4, hY⟩
              have hS := hmk V (Below.refl _ _)
              have HMK := Lib.hid hmk
              have HDI := Lib.hid (fun (X : World) (hX : Below V.heap.size V X) => (dist_pt (X := X) (oj := oa) (om := oms) (ox := ox) (oq := oq) (cj := cj) (cm := cms) (cx := cx) (cq := cq) HFI.out (by have := HROB.out.2.2; omega) (HROB.out.1.keep (hb7v.trans (hX.mono hb7v.size))) (HROB.out.2.1.keep (hb7v.trans (hX.mono hb7v.size))) hx (hox.keep hX) (HQ.out.keep (hb7v.trans (hX.mono hb7v.size)))))
              have hfd : decide (dP js q pts p < fv) = false := decide_eq_false (by have := HF2.out p hpl hin; omega)
              have HBB := Lib.hid hb
              clear hmk hx hox hb hb7v z9 y0 y1 y4 z2 HP kI2
              go_upto_region 22 with fail
              go_region_held3 (fun Y => Y.cell? ⟨n9, 0, none⟩ = some (.slice oa js.length cj) ∧ Y.cell? ⟨n9, 1, none⟩ = some (.slice oms ms.length cms) ∧ Y.cell? ⟨gI, p, none⟩ = some (.bool false) ∧ Y.cell? ⟨bp, offp + p, none⟩ = some (.slice ox x.length cx) ∧ Below V.heap.size V Y)
                (first
                  | assumption
                  | exact HMK.out _ (by repeat (first | assumption | exact Below.refl _ _ | apply Below.drew | exact (by assumption : _ ∧ _ ∧ _ ∧ _ ∧ Below V.heap.size V _).2.2.2.2)))
                ((go_at_call 18
                  with_reducible refine (HDI.out _ (by assumption : _ ∧ _ ∧ _ ∧ _ ∧ Below V.heap.size V _).2.2.2.2).mono ?_
                  rintro e Xa ⟨rfl, hba⟩
                  have hbs := (by assumption : _ ∧ _ ∧ _ ∧ _ ∧ Below V.heap.size V _).2.2.2.2
                  replace hba := below_call hbs hba))
              all_goals
                go_wp2_with fail
                go_roundw
                case rel => exact ⟨p + 1, by simp, by omega, below_call HBB.out hba⟩
                case measure => simp [intOf]; omega
          · have hpn : ¬ ((p : Int) < (pts.length : Int)) := by omega
            have HBB := Lib.hid (below_call HB7w.out hb)
            clear hb
            go_wp2_with fail
            refine (Try.awake _).mono ?_
            rintro e W8 ⟨rfl, hb8⟩
            go_wp2_with fail
            go_ret
            exact ⟨rfl, below_call HB4.out (below_call HBB.out hb8)⟩
end Go.Proofs.Ng
end

