/-
  Texts put together: Cq Dv Dx Dy Dz Ea Eb.
-/
import Derived.Test.YteeeogdfnpdpcaaZNeighborOrder24
import Derived.Test.YteeeogdfnpdpcaaZNeighborOrder21
import Derived.BigRegion
set_option linter.unusedVariables false
section
/-
  Walks: the law NeighborTrees.
-/
namespace Go.Proofs.Ng
open Go.RowKit

/-- Points of a robot are valid points. -/
theorem good_vp {js : List JV} {ms : List MV} {oa om : Option Addr} {W : World} {n : Nat} {pts : List (List Int)} (hr : RobP js ms oa om W) (hg : Good js n pts) (hn : n ≤ 1024) : vpB pts = true := by
  refine vp_yes (by rw [hg.1]; exact hn) fun j c hj hc => ?_
  obtain ⟨hl, hi⟩ := hg.2 c (List.mem_of_getElem? hc)
  have hd : dimP pts = js.length := by
    obtain ⟨c0, hc0⟩ : ∃ c, pts[0]? = some c := ⟨_, List.getElem?_eq_getElem (by omega)⟩
    unfold dimP
    rw [hc0]
    exact (hg.2 c0 (List.mem_of_getElem? hc0)).1
  have hjl := hr.1
  unfold okC
  rw [hd, decide_eq_true (by omega), Bool.true_and]
  refine small_yes fun k x hk hx => ?_
  obtain ⟨jv, hjv⟩ : ∃ jv, js[k]? = some jv := ⟨_, List.getElem?_eq_getElem (by omega)⟩
  have h1 := hi k jv x hjv hx
  have h2 := (hr.2.2.1 k jv hjv).lim
  have h3 := limitF_bd jv.kind
  unfold okX
  exact decide_eq_true (by omega)
/-- The cells of rows, one behind another. -/
theorem flat_news {W : World} {n : Nat} (hn : 0 < n) : ∀ {rows : List (List Value)} {b off : Nat}, (∀ r ∈ rows, r.length = n) → RowsAt W b off n rows → ∀ (j : Nat) (u : Value), rows.flatten[j]? = some u → W.cell? ⟨b, off + j, none⟩ = some u
  | [], b, off, _, _, j, u, h => by simp at h
  | r :: rows, b, off, hl, hr, j, u, h => by
    have hrl := hl r (by simp)
    rw [List.flatten_cons] at h
    rcases Nat.lt_or_ge j r.length with h1 | h1
    · rw [List.getElem?_append_left h1] at h
      have := hr.c 0 r rfl j u h
      simpa using this
    · rw [List.getElem?_append_right h1] at h
      have := flat_news hn (rows := rows) (b := b) (off := off + n) (fun r hr => hl r (by simp [hr])) ⟨hr.lt, fun i r' hi k v hv => by
        have := hr.c (i + 1) r' (by simpa using hi) k v hv
        have e : off + ((i + 1) * n + k) = off + n + (i * n + k) := by rw [Nat.succ_mul]; omega
        rw [← e]; exact this⟩ (j - r.length) u h
      have e : off + n + (j - r.length) = off + j := by omega
      rw [← e]; exact this
theorem add_cell (b off j : Nat) : (⟨b, off, none⟩ : Addr).add j = ⟨b, off + j, none⟩ := by unfold Addr.add; split <;> simp_all
theorem nflat_one (t : List Nd) : ∀ u ∈ nflat t, u.oneCell' = true := by
  intro u hu
  unfold nflat at hu
  rw [List.mem_flatten] at hu
  obtain ⟨r, hr, hu⟩ := hu
  rw [List.mem_map] at hr
  obtain ⟨x, _, rfl⟩ := hr
  simp [Nd.vals] at hu
  rcases hu with rfl | rfl | rfl | rfl <;> rfl
theorem nflat_len (t : List Nd) : (nflat t).length = t.length * 4 := by
  unfold nflat
  induction t with
  | nil => rfl
  | cons a r ih => rw [List.map_cons, List.flatten_cons, List.length_append, ih]; simp [Nd.vals]; omega
theorem nflat_mod (f : Nat) (g : Nd → Nd) (v : Value) (hf : f < 4) (hg : ∀ n : Nd, (g n).vals = n.vals.set f v) : ∀ {t : List Nd} {k : Nat}, k < t.length → (nflat t).set (k * 4 + f) v = nflat (t.modify k g)
  | [], k, h => by simp at h
  | a :: t, 0, h => by
    have hl : a.vals.length = 4 := rfl
    have e : nflat ((a :: t).modify 0 g) = (g a).vals ++ nflat t := by simp [nflat]
    have e2 : nflat (a :: t) = a.vals ++ nflat t := by simp [nflat]
    rw [e, e2, hg, List.set_append_left _ _ (by omega), Nat.zero_mul, Nat.zero_add]
  | a :: t, k + 1, h => by
    have ih := nflat_mod f g v hf hg (t := t) (k := k) (by simpa using h)
    have hl : a.vals.length = 4 := rfl
    have e : nflat ((a :: t).modify (k + 1) g) = a.vals ++ nflat (t.modify k g) := by simp [nflat]
    have e2 : nflat (a :: t) = a.vals ++ nflat t := by simp [nflat]
    rw [e, ← ih, e2, List.set_append_right _ _ (by omega)]
    congr 2
    omega
theorem own_nodes2 {W : World} {base : Nat} {v : Value} {t : List Nd} (h : W.ownsRow base 36 4 v t.length (nflat t)) : ∃ ot ct, v = .slice ot t.length ct ∧ Sl W ot 4 (t.map Nd.vals) := by
  obtain ⟨ot, ct, rfl, hs⟩ := own_rows (rows := t.map Nd.vals) (nd_four t) (by rw [List.length_map]; exact h)
  rw [List.length_map]
  exact ⟨ot, ct, rfl, hs⟩
set_option maxRecDepth 100000 in
set_option maxHeartbeats 8000000 in
theorem trees4 (ol om : Option Addr) (cl cm : Nat) (ls xs : List Int) (n at_ how x : Int) (w : World) (hL : Sl w ol 1 (pvals ls)) (hl : ls.length ≤ 9223372036854775807) (hM : Sl w om 1 (pvals xs)) (hm : xs.length * 8 ≤ 140737488351232) (hmn : om = none → xs = [] ∧ cm = 0) :
    Calls Try.prog 4 #[.slice ol ls.length cl, .slice om xs.length cm, .int .i64 n, .int .i64 at_, .int .i64 how, .int .i64 x] w (BoolP true w) := by
  have HSO := Lib.hid (some9 ol om cl cm ls xs n w hL hl hM hm hmn)
  clear hL hM hmn hl hm
  go_enter Try.func4, Try.ntmps4
  go_wp2_with fail
  with_reducible refine HSO.out.mono ?_
  rintro e W2 ⟨js, ms, oa, cj, oms, cms, pts, op, cp, q, oq, cq, rfl, hrob, hgood, hpp, -, -, hb2⟩
  have hpl : pts.length ≤ 12 := by have := hgood.1; omega
  have HV := Lib.hid (good_vp hrob hgood (by omega))
  have HP := Lib.hid hpp
  have HB2 := Lib.hid hb2
  clear hrob hgood hpp hb2 HSO
  go_upto_region 2 with fail
  have hbx_ := blks1 W2 [.slice oa js.length cj, .slice oms ms.length cms] 30
  replace HP := Lib.hid (HP.out.keep hbx_.2)
  have HB3 := Lib.hid (below_call HB2.out hbx_.2)
  generalize W2.alloc (.cells #[.slice oa js.length cj, .slice oms ms.length cms] 30) = W3 at hbx_ HP HB3 ⊢
  obtain ⟨r11, hbel_⟩ := hbx_
  obtain ⟨n11, hn_⟩ : ∃ n, n = W2.heap.size := ⟨_, rfl⟩
  rw [← hn_] at r11 ⊢
  clear hn_ hbel_
  clear r11 HB2
  obtain ⟨hok, htl⟩ := buildP_ok HV.out
  have HOK := Lib.hid hok
  have hbd := build11 op cp pts W3 HP.out
  generalize buildP pts = t at hbd HOK htl
  have HBD := Lib.hid hbd
  have ht12 : t.length ≤ 12 := by omega
  have hd1 : ((t.length : Int) != (pts.length : Int)) = false := by simp [htl]
  have HTL := Lib.hid htl
  clear hok hbd htl
  go_wp2_with fail
  with_reducible refine HBD.out.mono ?_
  rintro e W4 ⟨ot, ct, rfl, hct, hst, hb, -⟩
  have HP4 := Lib.hid (HP.out.keep hb)
  have HB4 := Lib.hid (below_call HB3.out hb)
  have HV4 := Lib.hid (valid13 op ot cp ct pts t W4 HP4.out hst (by omega) (by omega))
  have HT4 := Lib.hid hst
  clear hst hb HBD HP HB3
  go_wp2_with fail
  with_reducible refine HV4.out.mono ?_
  rintro e W5 ⟨b, rfl, hbi, hb5⟩
  have hbt : b = true := hbi.2 HOK.out
  subst hbt
  have HP := Lib.hid (HP4.out.keep hb5)
  have HT := Lib.hid (HT4.out.keep hb5)
  have HB4 := Lib.hid (below_call HB4.out hb5)
  clear hbi hb5 HV4 HP4 HT4
  by_cases h0 : t.length = 0
  · have hd2 : ((t.length : Int) == 0) = true := by simp [h0]
    clear h0
    go_wp2_with fail
    refine (Try.awake _).mono ?_
    rintro e W6 ⟨rfl, hb⟩
    go_wp2_with fail
    go_ret
    exact ⟨rfl, below_call HB4.out hb⟩
  · have hd2 : ((t.length : Int) == 0) = false := beq_eq_false_iff_ne.2 (by omega)
    obtain ⟨bt, offt, rfl, hTr⟩ := HT.out (map_ne (k := 0) (by omega))
    have HNW := Lib.hid (fun (j : Nat) (u : Value) (hu : (nflat t)[j]? = some u) => show W5.cell? ((⟨bt, offt, none⟩ : Addr).add j) = some u from by
      rw [add_cell]; exact flat_news (n := 4) (by omega) (nd_four t) hTr j u hu)
    obtain ⟨i0, hi, hz0, hz1, hz2⟩ := info_parts info36
    have hTr0 := Lib.hid hTr.lt
    clear hTr
    go_wp2_with (at_builtin; refine wpList_append_own _ rfl _ _ 23 rfl W5.heap.size 36 i0 (.agg #[.int .i64 0, .int .i64 0, .int .i64 0, .int .i64 0]) 4 32 under23 hi hz0 hz1 hz2 rfl (by decide) _ _ _ rfl (World.ownsRow_nil W5 W5.heap.size 36 4) ⟨bt, offt, none⟩ t.length ct (nflat t) rfl ?c0 HNW.out (nflat_one t) ?c3 ?c4 (Nat.le_refl _) ?_)
    case c0 => exact nflat_len t
    case c3 => unfold maxLen; omega
    case c4 => omega
    intro v6 W6 ho6 hg6 _
    obtain ⟨gu, c6, rfl⟩ := own_some ho6 (by omega)
    have hB6 := grown_below (World.ownsRow_nil W5 W5.heap.size 36 4) hg6 (Nat.le_refl _)
    have hbt : bt < W5.heap.size := hTr0.out
    have HP6 := Lib.hid (HP.out.keep hB6)
    have HB6 := Lib.hid hB6
    have HO6 := Lib.hid ho6
    have hgu := own_lt ho6 gu rfl
    have hk : ∃ k : Nat, at_ % (t.length : Int) = (k : Nat) ∧ k < t.length := ⟨(at_ % (t.length : Int)).toNat, by have := Int.emod_nonneg at_ (show (t.length : Int) ≠ 0 by omega); omega, by have := Int.emod_lt_of_pos at_ (show (0 : Int) < (t.length : Int) by omega); have := Int.emod_nonneg at_ (show (t.length : Int) ≠ 0 by omega); omega⟩
    obtain ⟨k, hk1, hk2⟩ := hk
    have HK1 := Lib.hid (fun X : World => (round_any at_ (t.length : Int) X (by omega) (by omega)).mono (R' := fun e w' => e = .returned (.int .i64 (k : Nat)) ∧ w' = X) fun _ _ h => ⟨by rw [h.1, hk1], h.2.symm⟩)
    obtain ⟨r, hr⟩ : ∃ r, r = how % 4 := ⟨_, rfl⟩
    have HK2 := Lib.hid (fun X : World => (round_any how 4 X (by omega) (by omega)).mono (R' := fun e w' => e = .returned (.int .i64 r) ∧ w' = X) fun _ _ h => ⟨by rw [h.1, hr], h.2.symm⟩)
    have hr4 : r = 0 ∨ r = 1 ∨ r = 2 ∨ r = 3 := by omega
    clear hg6 hB6 ho6 hk1 hr hi hz0 hz1 hz2 HNW HT
    go_wp2_with fail
    refine (HK1.out _).mono ?_
    rintro e W6 ⟨rfl, rfl⟩
    go_wp2_with fail
    refine (HK2.out _).mono ?_
    rintro e W6 ⟨rfl, rfl⟩
    obtain ⟨nd, hnd⟩ : ∃ nd, t[k]? = some nd := ⟨_, List.getElem?_eq_getElem hk2⟩
    obtain ⟨np, na, nl, nh⟩ := nd
    have z0 : W6.cell? ⟨gu, k * 4, none⟩ = some (.int .i64 np) := own_at HO6.out _ _ (nflat_at hnd (j := 0) rfl)
    have z1 : W6.cell? ⟨gu, k * 4 + 1, none⟩ = some (.int .i64 na) := own_at HO6.out _ _ (nflat_at hnd (j := 1) rfl)
    have z2 : W6.cell? ⟨gu, k * 4 + 2, none⟩ = some (.int .i64 nl) := own_at HO6.out _ _ (nflat_at hnd (j := 2) rfl)
    have z3 : W6.cell? ⟨gu, k * 4 + 3, none⟩ = some (.int .i64 nh) := own_at HO6.out _ _ (nflat_at hnd (j := 3) rfl)
    have f0 := own_frozen HO6.out (by omega) (k * 4)
    have f1 := own_frozen HO6.out (by omega) (k * 4 + 1)
    have f2 := own_frozen HO6.out (by omega) (k * 4 + 2)
    have f3 := own_frozen HO6.out (by omega) (k * 4 + 3)
    have lg := hgu.1
    have HGU := Lib.hid hgu.2
    clear hgu hnd HK1 HK2
    rcases hr4 with rfl | rfl | rfl | rfl
    · go_wp2_with fail
      refine (round_any x ((t.length : Int) + 2) W6 (by omega) (by omega)).mono ?_
      rintro e W6 ⟨rfl, rfl⟩
      have hz1' := Int.emod_nonneg x (show (t.length : Int) + 2 ≠ 0 by omega)
      have hz2' := Int.emod_lt_of_pos x (show (0 : Int) < (t.length : Int) + 2 by omega)
      generalize x % ((t.length : Int) + 2) = z at hz1' hz2' ⊢
      have hw : IntKind.i64.wrap (z - 1) = z - 1 := IntWalk.i64_in _ (by omega)
      have ho := own_set1 HO6.out (k * 4 + 0) (by omega) (.int .i64 (z - 1))
      rw [nflat_mod 0 (fun n => { n with pt := z - 1 }) (.int .i64 (z - 1)) (by omega) (fun n => rfl) hk2] at ho
      have HO7 := Lib.hid ho
      clear ho
      go_upto_region 17 with fail
      have hlen : (t.modify k fun n => { n with pt := z - 1 }).length = t.length := by first | exact List.length_modify .. | exact setLH_len ..
      have hsl := own_nodes2 (W := W6.setCell ⟨gu, k * 4, none⟩ (.int .i64 (z - 1))) (by rw [List.length_modify]; exact HO7.out)
      rw [hlen] at hsl
      obtain ⟨ou, cu, hu, hS⟩ := hsl
      injection hu with hu1 hu2 hu3
      subst hu1 hu3
      have HS := Lib.hid hS
      have HB7 := Lib.hid (HB6.out.setCell (p := ⟨gu, k * 4, none⟩) HGU.out (.int .i64 (z - 1)))
      have HL := Lib.hid hlen
      clear hS hlen hu2
      generalize (t.modify k fun n => { n with pt := z - 1 }) = t' at HS HL
      generalize W6.setCell ⟨gu, k * 4, none⟩ (.int .i64 (z - 1)) = W7 at HS HB7 ⊢
      go_wp2_with fail
      refine (Try.awake _).mono ?_
      rintro e W8 ⟨rfl, hb⟩
      have HB8 := Lib.hid (below_call HB7.out hb)
      have HS8 := Lib.hid (HS.out.keep hb)
      clear hb
      have hv1 := valid13 op (some ⟨gu, 0, none⟩) cp c6 pts t' W8 (HP.out.keep HB8.out) HS8.out (by rw [HL.out]; omega) (by omega)
      rw [HL.out] at hv1
      have HV1 := Lib.hid hv1
      clear hv1
      go_wp2_with fail
      with_reducible refine HV1.out.mono ?_
      rintro e W9 ⟨b1, rfl, i1, hb⟩
      have HB9 := Lib.hid (below_call HB8.out hb)
      have hv2 := validTree14 op (some ⟨gu, 0, none⟩) cp c6 pts t' W9 (HP.out.keep HB9.out) (HS8.out.keep hb) (by rw [HL.out]; omega) (by omega)
      rw [HL.out] at hv2
      have HV2 := Lib.hid hv2
      clear hv2 hb
      go_wp2_with fail
      with_reducible refine HV2.out.mono ?_
      rintro e W10 ⟨b2, rfl, i2, hb⟩
      have HB10 := Lib.hid (below_call HB9.out hb)
      have e1 := iff_beq i1 i2
      clear i1 i2 hb
      go_wp2_with fail
      go_ret
      exact ⟨rfl, below_call HB4.out HB10.out⟩
    · obtain ⟨hp1024, hdim⟩ := vp_dim HV.out
      obtain ⟨p0, hp0⟩ : ∃ c, pts[0]? = some c := ⟨_, List.getElem?_eq_getElem (by have := HTL.out; omega)⟩
      have hpd := hdim p0 (List.mem_of_getElem? hp0)
      obtain ⟨bp, offp, oc, cc, rfl, q0, lbp, -⟩ := (HP.out.keep HB6.out).get hp0
      rw [hpd.1, Nat.add_zero] at q0
      have hpl0 : 0 < pts.length := by have := HTL.out; omega
      have hdp := hpd.2.2
      clear hdim hpd hp0 hp1024
      generalize hdd : dimP pts = d at q0 hdp
      have HDD := Lib.hid hdd
      clear hdd
      go_wp2_with fail
      refine (round_any x ((d : Int) + 2) W6 (by omega) (by omega)).mono ?_
      rintro e W6 ⟨rfl, rfl⟩
      have hz1' := Int.emod_nonneg x (show (d : Int) + 2 ≠ 0 by omega)
      have hz2' := Int.emod_lt_of_pos x (show (0 : Int) < (d : Int) + 2 by omega)
      generalize x % ((d : Int) + 2) = z at hz1' hz2' ⊢
      have hw : IntKind.i64.wrap (z - 1) = z - 1 := IntWalk.i64_in _ (by omega)
      have ho := own_set1 HO6.out (k * 4 + 1) (by omega) (.int .i64 (z - 1))
      rw [nflat_mod 1 (fun n => { n with ax := z - 1 }) (.int .i64 (z - 1)) (by omega) (fun n => rfl) hk2] at ho
      have HO7 := Lib.hid ho
      clear ho
      go_upto_region 17 with fail
      clear q0
      have hlen : (t.modify k fun n => { n with ax := z - 1 }).length = t.length := by first | exact List.length_modify .. | exact setLH_len ..
      have hsl := own_nodes2 (W := W6.setCell ⟨gu, k * 4 + 1, none⟩ (.int .i64 (z - 1))) (by rw [List.length_modify]; exact HO7.out)
      rw [hlen] at hsl
      obtain ⟨ou, cu, hu, hS⟩ := hsl
      injection hu with hu1 hu2 hu3
      subst hu1 hu3
      have HS := Lib.hid hS
      have HB7 := Lib.hid (HB6.out.setCell (p := ⟨gu, k * 4 + 1, none⟩) HGU.out (.int .i64 (z - 1)))
      have HL := Lib.hid hlen
      clear hS hlen hu2
      generalize (t.modify k fun n => { n with ax := z - 1 }) = t' at HS HL
      generalize W6.setCell ⟨gu, k * 4 + 1, none⟩ (.int .i64 (z - 1)) = W7 at HS HB7 ⊢
      go_wp2_with fail
      refine (Try.awake _).mono ?_
      rintro e W8 ⟨rfl, hb⟩
      have HB8 := Lib.hid (below_call HB7.out hb)
      have HS8 := Lib.hid (HS.out.keep hb)
      clear hb
      have hv1 := valid13 (some ⟨bp, offp, none⟩) (some ⟨gu, 0, none⟩) cp c6 pts t' W8 (HP.out.keep HB8.out) HS8.out (by rw [HL.out]; omega) (by omega)
      rw [HL.out] at hv1
      have HV1 := Lib.hid hv1
      clear hv1
      go_wp2_with fail
      with_reducible refine HV1.out.mono ?_
      rintro e W9 ⟨b1, rfl, i1, hb⟩
      have HB9 := Lib.hid (below_call HB8.out hb)
      have hv2 := validTree14 (some ⟨bp, offp, none⟩) (some ⟨gu, 0, none⟩) cp c6 pts t' W9 (HP.out.keep HB9.out) (HS8.out.keep hb) (by rw [HL.out]; omega) (by omega)
      rw [HL.out] at hv2
      have HV2 := Lib.hid hv2
      clear hv2 hb
      go_wp2_with fail
      with_reducible refine HV2.out.mono ?_
      rintro e W10 ⟨b2, rfl, i2, hb⟩
      have HB10 := Lib.hid (below_call HB9.out hb)
      have e1 := iff_beq i1 i2
      clear i1 i2 hb
      go_wp2_with fail
      go_ret
      exact ⟨rfl, below_call HB4.out HB10.out⟩
    · go_wp2_with fail
      refine (round_any x ((t.length : Int) + 2) W6 (by omega) (by omega)).mono ?_
      rintro e W6 ⟨rfl, rfl⟩
      have hz1' := Int.emod_nonneg x (show (t.length : Int) + 2 ≠ 0 by omega)
      have hz2' := Int.emod_lt_of_pos x (show (0 : Int) < (t.length : Int) + 2 by omega)
      generalize x % ((t.length : Int) + 2) = z at hz1' hz2' ⊢
      have hw : IntKind.i64.wrap (z - 1) = z - 1 := IntWalk.i64_in _ (by omega)
      have ho := own_set1 HO6.out (k * 4 + 2) (by omega) (.int .i64 (z - 1))
      rw [nflat_mod 2 (fun n => { n with lo := z - 1 }) (.int .i64 (z - 1)) (by omega) (fun n => rfl) hk2] at ho
      have HO7 := Lib.hid ho
      clear ho
      go_upto_region 17 with fail
      have hlen : (t.modify k fun n => { n with lo := z - 1 }).length = t.length := by first | exact List.length_modify .. | exact setLH_len ..
      have hsl := own_nodes2 (W := W6.setCell ⟨gu, k * 4 + 2, none⟩ (.int .i64 (z - 1))) (by rw [List.length_modify]; exact HO7.out)
      rw [hlen] at hsl
      obtain ⟨ou, cu, hu, hS⟩ := hsl
      injection hu with hu1 hu2 hu3
      subst hu1 hu3
      have HS := Lib.hid hS
      have HB7 := Lib.hid (HB6.out.setCell (p := ⟨gu, k * 4 + 2, none⟩) HGU.out (.int .i64 (z - 1)))
      have HL := Lib.hid hlen
      clear hS hlen hu2
      generalize (t.modify k fun n => { n with lo := z - 1 }) = t' at HS HL
      generalize W6.setCell ⟨gu, k * 4 + 2, none⟩ (.int .i64 (z - 1)) = W7 at HS HB7 ⊢
      go_wp2_with fail
      refine (Try.awake _).mono ?_
      rintro e W8 ⟨rfl, hb⟩
      have HB8 := Lib.hid (below_call HB7.out hb)
      have HS8 := Lib.hid (HS.out.keep hb)
      clear hb
      have hv1 := valid13 op (some ⟨gu, 0, none⟩) cp c6 pts t' W8 (HP.out.keep HB8.out) HS8.out (by rw [HL.out]; omega) (by omega)
      rw [HL.out] at hv1
      have HV1 := Lib.hid hv1
      clear hv1
      go_wp2_with fail
      with_reducible refine HV1.out.mono ?_
      rintro e W9 ⟨b1, rfl, i1, hb⟩
      have HB9 := Lib.hid (below_call HB8.out hb)
      have hv2 := validTree14 op (some ⟨gu, 0, none⟩) cp c6 pts t' W9 (HP.out.keep HB9.out) (HS8.out.keep hb) (by rw [HL.out]; omega) (by omega)
      rw [HL.out] at hv2
      have HV2 := Lib.hid hv2
      clear hv2 hb
      go_wp2_with fail
      with_reducible refine HV2.out.mono ?_
      rintro e W10 ⟨b2, rfl, i2, hb⟩
      have HB10 := Lib.hid (below_call HB9.out hb)
      have e1 := iff_beq i1 i2
      clear i1 i2 hb
      go_wp2_with fail
      go_ret
      exact ⟨rfl, below_call HB4.out HB10.out⟩
    · have ho := own_set1 (own_set1 HO6.out (k * 4 + 2) (by omega) (.int .i64 nh)) (k * 4 + 3) (by omega) (.int .i64 nl)
      rw [nflat_lh hk2] at ho
      have HO7 := Lib.hid ho
      have HB7 := Lib.hid ((HB6.out.setCell (p := ⟨gu, k * 4 + 2, none⟩) HGU.out (.int .i64 nh)).setCell (p := ⟨gu, k * 4 + 3, none⟩) HGU.out (.int .i64 nl))
      clear ho
      go_upto_region 10 with fail
      go_region
      have HO8 := Lib.hid (own_keep HO7.out ((Below.refl _ _).drew))
      have HB8x := Lib.hid HB7.out.drew
      clear HO7 HB7 z0 z1 z2 z3 f0 f1 f2 f3 lg
      generalize ((W6.setCell ⟨gu, k * 4 + 2, none⟩ (.int .i64 nh)).setCell ⟨gu, k * 4 + 3, none⟩ (.int .i64 nl)).drew = X at HO8 HB8x ⊢
      go_wp2_with fail
      go_upto_region 17 with fail
      have hlen : (setLH t k nh nl).length = t.length := by first | exact List.length_modify .. | exact setLH_len ..
      have hsl := own_nodes2 (W := X) (by rw [setLH_len]; exact HO8.out)
      rw [hlen] at hsl
      obtain ⟨ou, cu, hu, hS⟩ := hsl
      injection hu with hu1 hu2 hu3
      subst hu1 hu3
      have HS := Lib.hid hS
      have HB7 := Lib.hid HB8x.out
      have HL := Lib.hid hlen
      clear hS hlen hu2
      generalize (setLH t k nh nl) = t' at HS HL
      generalize X = W7 at HS HB7 ⊢
      go_wp2_with fail
      refine (Try.awake _).mono ?_
      rintro e W8 ⟨rfl, hb⟩
      have HB8 := Lib.hid (below_call HB7.out hb)
      have HS8 := Lib.hid (HS.out.keep hb)
      clear hb
      have hv1 := valid13 op (some ⟨gu, 0, none⟩) cp c6 pts t' W8 (HP.out.keep HB8.out) HS8.out (by rw [HL.out]; omega) (by omega)
      rw [HL.out] at hv1
      have HV1 := Lib.hid hv1
      clear hv1
      go_wp2_with fail
      with_reducible refine HV1.out.mono ?_
      rintro e W9 ⟨b1, rfl, i1, hb⟩
      have HB9 := Lib.hid (below_call HB8.out hb)
      have hv2 := validTree14 op (some ⟨gu, 0, none⟩) cp c6 pts t' W9 (HP.out.keep HB9.out) (HS8.out.keep hb) (by rw [HL.out]; omega) (by omega)
      rw [HL.out] at hv2
      have HV2 := Lib.hid hv2
      clear hv2 hb
      go_wp2_with fail
      with_reducible refine HV2.out.mono ?_
      rintro e W10 ⟨b2, rfl, i2, hb⟩
      have HB10 := Lib.hid (below_call HB9.out hb)
      have e1 := iff_beq i1 i2
      clear i1 i2 hb
      go_wp2_with fail
      go_ret
      exact ⟨rfl, below_call HB4.out HB10.out⟩
end Go.Proofs.Ng
end

section
/-
  What some makes, fits.
-/
namespace Go.Proofs.Ng
open Go.RowKit

theorem fits_some {js : List JV} {ms : List MV} {oa om : Option Addr} {W : World} {n : Nat} {pts : List (List Int)} {q : List Int} (hr : RobP js ms oa om W) (hg : Good js n pts) (hn : n ≤ 1024) (hl : q.length = js.length) (hq : inTo js q) : FitsP js ms pts (buildP pts) q := by
  refine ⟨okR_rob hr, hl, small_in hr hl hq, (buildP_ok (good_vp hr hg hn)).1, ?_⟩
  by_cases h : pts = []
  · exact .inl h
  · obtain ⟨x, xs, rfl⟩ := List.exists_cons_of_ne_nil h
    refine .inr ?_
    unfold dimP
    simpa using (hg.2 x (by simp)).1
end Go.Proofs.Ng
end

section
/-
  Flags of those seen.
-/
namespace Go.Proofs.Ng
open Go.RowKit

def inB (n : Nat) (l : List Nat) : List Bool := (List.range n).map fun p => decide (p ∈ l)
theorem inB_len (n : Nat) (l : List Nat) : (inB n l).length = n := by simp [inB]
theorem inB_nil (n : Nat) : inB n [] = List.replicate n false := by
  apply List.ext_getElem
  · simp [inB]
  · intro i h1 h2; simp [inB]
theorem inB_get {n : Nat} {l : List Nat} {p : Nat} (h : p < n) : (inB n l)[p]? = some (decide (p ∈ l)) := by
  simp [inB, h]
theorem inB_set {n : Nat} {l : List Nat} {p : Nat} (h : p < n) : (inB n l).set p true = inB n (l ++ [p]) := by
  apply List.ext_getElem?
  intro i
  rw [List.getElem?_set, inB_len]
  by_cases hi : i < n
  · rw [inB_get hi, inB_get hi]
    by_cases e : p = i
    · subst e; simp [h]
    · simp [e, Ne.symm e]
  · rw [if_neg (by omega), List.getElem?_eq_none (by rw [inB_len]; omega), List.getElem?_eq_none (by rw [inB_len]; omega)]
end Go.Proofs.Ng
end

section
/-
  The reference's distance of a point.
-/
namespace Go.Proofs.Ng
open Go.RowKit

theorem dist_pt {oj om ox oq : Option Addr} {cj cm cx cq : Nat} {js : List JV} {ms : List MV} {pts : List (List Int)} {t : List Nd} {x q : List Int} {p : Nat} {X : World}
    (hF : FitsP js ms pts t q) (hl : ms.length ≤ 9223372036854775807) (hJ : Sl X oj 12 (js.map JV.vals)) (hM : Sl X om 5 (ms.map MV.vals)) (hx : pts[p]? = some x) (hX : Sl X ox 1 (pvals x)) (hQ : Sl X oq 1 (pvals q)) :
    Calls Try.prog 18 #[.agg #[.slice oj js.length cj, .slice om ms.length cm], .slice ox x.length cx, .slice oq q.length cq] X (fun e w' => e = .returned (.int .i64 (dP js q pts p)) ∧ Below X.heap.size X w') := by
  obtain ⟨hok, hql, hsq, hkd, hd⟩ := hF
  have hmem := List.mem_of_getElem? hx
  have hdim : dimP pts = js.length := by
    rcases hd with h | h
    · subst h; simp at hx
    · exact h
  have hxl := ((vp_dim hkd.1).2 x hmem).1
  have hsx : smallB x = true := by
    have hv := hkd.1
    unfold vpB at hv
    rw [Bool.and_eq_true, decide_eq_true_eq, List.all_eq_true] at hv
    have h1 := hv.2 x hmem
    unfold okC at h1
    rw [Bool.and_eq_true] at h1
    exact h1.2
  have e : dP js q pts p = dst js q x := by unfold dP; rw [hx]; rfl
  rw [e]
  exact dist18 oj om ox oq cj cm cx cq js ms x q X (by have := hok.1.2; omega) hl hJ hM hX hQ hok hsx hsq (by omega) (by omega)
end Go.Proofs.Ng
end

section
/-
  The plain law of Nearest: another order of the points.
-/
namespace Go.Proofs.Ng
open Go.RowKit

/-- The i-th of the nearest is no farther than the i-th of another list that shows as far points. -/
theorem near_ord {k k' n n' : Nat} {dA dB : Nat → Int} {R S : List Nat} (hR : NearL k n dA R) (hS : NearL k' n' dB S) (f : Nat → Nat) (hlt : ∀ p, p < n' → f p < n) (hinj : ∀ p q, p < n' → q < n' → f p = f q → p = q) (hd : ∀ p, p < n' → dA (f p) = dB p) {i a b : Nat} (ha : R[i]? = some a) (hb : S[i]? = some b) : dA a ≤ dB b := by
  refine Int.not_lt.1 fun hc => ?_
  obtain ⟨hi, -⟩ := List.getElem?_eq_some_iff.1 ha
  obtain ⟨hj, -⟩ := List.getElem?_eq_some_iff.1 hb
  have hmS : ∀ p ∈ S.take (i + 1), p < n' := fun p hp => hS.set.lt p (List.mem_of_mem_take hp)
  have hnd : ((S.take (i + 1)).map f).Nodup := by
    have hn : (S.take (i + 1)).Nodup := hS.set.nd.sublist (List.take_sublist _ _)
    rw [List.Nodup, List.pairwise_map]
    refine (List.Pairwise.and_mem.1 hn).imp ?_
    rintro p q ⟨hp, hq, hne⟩ e
    exact hne (hinj p q (hmS p hp) (hmS q hq) e)
  have hsub : ∀ x ∈ (S.take (i + 1)).map f, x ∈ R.take i := fun x hx => by
    obtain ⟨p, hp, rfl⟩ := List.mem_map.1 hx
    have hpn := hmS p hp
    have hle : dB p ≤ dB b := by
      obtain ⟨j, hjp⟩ := List.mem_iff_getElem?.1 hp
      rw [List.getElem?_take] at hjp
      split at hjp
      · exact hS.le (by omega) hjp hb
      · cases hjp
    have hxR : f p ∈ R := Decidable.byContradiction fun hn => by
      have h1 := hR.out (hlt p hpn) hn (List.mem_of_getElem? ha)
      have h2 := hd p hpn
      omega
    obtain ⟨j, hjp⟩ := List.mem_iff_getElem?.1 hxR
    refine List.mem_iff_getElem?.2 ⟨j, ?_⟩
    rw [List.getElem?_take]
    split
    · exact hjp
    · have h1 := hR.le (show i ≤ j by omega) ha hjp
      have h2 := hd p hpn
      omega
  have hcount := nodup_sub _ _ hnd hsub
  rw [List.length_map, List.length_take, List.length_take] at hcount
  omega
/-- The points in another order: their distances. -/
theorem near_perm {k n : Nat} {dA dB : Nat → Int} {R S : List Nat} (hR : NearL k n dA R) (hS : NearL k n dB S) (f : Nat → Nat) (hlt : ∀ p, p < n → f p < n) (hinj : ∀ p q, p < n → q < n → f p = f q → p = q) (hon : ∀ p, p < n → ∃ q, q < n ∧ f q = p) (hd : ∀ p, p < n → dA (f p) = dB p) {i a b : Nat} (ha : R[i]? = some a) (hb : S[i]? = some b) : dA a = dB b := by
  refine Int.le_antisymm (near_ord hR hS f hlt hinj hd ha hb) ?_
  have hg : ∀ p : Nat, ∃ q, p < n → q < n ∧ f q = p := fun p => by
    by_cases hp : p < n
    · obtain ⟨q, h1, h2⟩ := hon p hp
      exact ⟨q, fun _ => ⟨h1, h2⟩⟩
    · exact ⟨0, fun h => absurd h hp⟩
  obtain ⟨g, hg⟩ := Classical.axiomOfChoice hg
  refine near_ord hS hR g (fun p hp => (hg p hp).1) (fun p q hp hq e => ?_) (fun p hp => ?_) hb ha
  · rw [← (hg p hp).2, e, (hg q hq).2]
  · rw [← hd _ (hg p hp).1, (hg p hp).2]
/-- A distance is not negative. -/
theorem dP_nn {js : List JV} {ms : List MV} {pts : List (List Int)} {t : List Nd} {q : List Int} (h : FitsP js ms pts t q) (p : Nat) : 0 ≤ dP js q pts p := by
  have hw := wt_nn (okR_tame h.1 h.2.2.1).w
  unfold dP dst
  generalize (pts[p]?.getD []) = x
  induction x.length with
  | zero => exact Int.le_refl _
  | succ m ih => exact Int.add_nonneg ih (Int.mul_nonneg (hw m) (gapA_nn _))
end Go.Proofs.Ng
end

section
/-
  Walks: the maker's Order: a permutation.
-/
namespace Go.Proofs.Ng
open Go.RowKit

/-- The world inside Vertices. -/
structure NI (W1 : World) (nS : Nat) (os : Option Addr) (cap : Nat) (xs : List Int) (ps : List Nat) (v : Value) (W : World) : Prop where
  gr : W1.grownBy W (some nS)
  src : Src W nS os cap xs
  own : W.ownsRow W1.heap.size 3 1 v ps.length (nvals ps).flatten
  hb : W1.heap.size ≤ W.heap.size
  hs : nS < W1.heap.size
  i0 : Sl W1 os 1 (pvals xs)
theorem NI.call {W1 W W' : World} {nS : Nat} {os : Option Addr} {cap : Nat} {xs : List Int} {ps : List Nat} {v : Value} (h : NI W1 nS os cap xs ps v W) (hg : W.grownBy W' (some nS)) (hS : Src W' nS os cap xs) : NI W1 nS os cap xs ps v W' :=
  ⟨grown_trans h.gr hg, hS, own_blk h.own fun g _ hl hb => hg.block g hl (fun e => by injection e; have := h.hs; omega), Nat.le_trans h.hb hg.size, h.hs, h.i0⟩
theorem NI.keep {W1 W W' : World} {nS : Nat} {os : Option Addr} {cap : Nat} {xs : List Int} {ps : List Nat} {v : Value} (h : NI W1 nS os cap xs ps v W) (hb : Below W.heap.size W W') : NI W1 nS os cap xs ps v W' :=
  ⟨grown_trans h.gr (grown_of_below hb), h.src.keepB hb, own_keep h.own hb, Nat.le_trans h.hb hb.size, h.hs, h.i0⟩
theorem grown_fresh {w W W' : World} {nS : Nat} (hb : Below w.heap.size w W) (hg : W.grownBy W' (some nS)) (hn : w.heap.size ≤ nS) : Below w.heap.size w W' :=
  ⟨hg.os.trans hb.os, hg.tape.trans hb.tape, hg.output.trans hb.output, Nat.le_trans hb.size hg.size, fun k hk => (hg.block k (Nat.lt_of_lt_of_le hk hb.size) (fun e => by injection e; omega)).trans (hb.block k hk)⟩
theorem nflat_snocO (ps : List Nat) (p : Nat) : (nvals (ps ++ [p])).flatten = (nvals ps).flatten ++ [.int .i64 (p : Nat)] := by simp [nvals]
theorem NI.app {W1 W W' : World} {nS : Nat} {os : Option Addr} {cap : Nat} {xs : List Int} {ps : List Nat} {p : Nat} {v v' : Value} (h : NI W1 nS os cap xs ps v W) (ho : W'.ownsRow W1.heap.size 3 1 v' (ps.length + 1) ((nvals ps).flatten ++ [.int .i64 (p : Nat)])) (hg : W.grownBy W' v.ownBlock) :
    NI W1 nS os cap xs (ps ++ [p]) v' W' := by
  have B1 : Below W1.heap.size W W' := grown_below h.own hg h.hb
  refine ⟨grown_low h.gr B1, h.src.low h.i0 h.hs B1, ?_, Nat.le_trans h.hb B1.size, h.hs, h.i0⟩
  rw [nflat_snocO, List.length_append]
  exact ho
theorem nat_int {r : Int} {n : Nat} (h0 : 0 ≤ r) (h1 : r < n) : ∃ k : Nat, r = k ∧ k < n := ⟨r.toNat, by omega, by omega⟩
theorem NI.done {W1 W : World} {nS : Nat} {os : Option Addr} {cap : Nat} {xs : List Int} {ps : List Nat} {v : Value} (h : NI W1 nS os cap xs ps v W) : ∃ oa ca, v = .slice oa ps.length ca ∧ Sl W oa 1 (nvals ps) ∧ ∀ a, oa = some a → W1.heap.size ≤ a.block := by
  have ho := h.own
  rw [← nvals_len] at ho
  obtain ⟨oa, ca, hv, hs⟩ := own_rows (nvals_one ps) ho
  rw [nvals_len] at hv
  subst hv
  exact ⟨oa, ca, rfl, hs, own_fresh ho⟩
/-- A list of the first n numbers, each once. -/
structure Perm (n : Nat) (l : List Nat) : Prop where
  len : l.length = n
  lt : ∀ (i x : Nat), l[i]? = some x → x < n
  inj : ∀ (i j x : Nat), l[i]? = some x → l[j]? = some x → i = j
  on : ∀ (x : Nat), x < n → ∃ i : Nat, l[i]? = some x
theorem Perm.nil : Perm 0 [] := ⟨rfl, by simp, by simp, fun x h => absurd h (by omega)⟩
theorem Perm.push {n : Nat} {l : List Nat} (h : Perm n l) : Perm (n + 1) (l ++ [n]) := by
  have hl := h.len
  have key : ∀ (i x : Nat), (l ++ [n])[i]? = some x → (l[i]? = some x ∧ x < n) ∨ (i = n ∧ x = n) := fun i x hx => by
    rcases Nat.lt_or_ge i l.length with hi | hi
    · rw [List.getElem?_append_left hi] at hx
      exact .inl ⟨hx, h.lt i x hx⟩
    · have := (List.getElem?_eq_some_iff.1 hx).1
      simp at this
      have e : i = l.length := by omega
      subst e
      simp at hx
      exact .inr ⟨hl, hx.symm⟩
  refine ⟨by simp [hl], fun i x hx => ?_, fun i j x hx hy => ?_, fun x hx => ?_⟩
  · rcases key i x hx with ⟨_, h2⟩ | ⟨_, h2⟩ <;> omega
  · rcases key i x hx with ⟨h1, h2⟩ | ⟨h1, h2⟩ <;> rcases key j x hy with ⟨h3, h4⟩ | ⟨h3, h4⟩
    · exact h.inj i j x h1 h3
    · omega
    · omega
    · omega
  · by_cases e : x = n
    · exact ⟨n, by subst e; rw [← hl]; simp⟩
    · obtain ⟨i, hi⟩ := h.on x (by omega)
      have := (List.getElem?_eq_some_iff.1 hi).1
      exact ⟨i, by rw [List.getElem?_append_left this]; exact hi⟩
theorem Perm.sw {n : Nat} {l l2 : List Nat} (h : Perm n l) (f : Nat → Nat) (hf : ∀ i, f (f i) = i) (hl : l2.length = l.length) (he : ∀ i, l2[i]? = l[f i]?) : Perm n l2 := by
  refine ⟨by rw [hl, h.len], fun i x hx => h.lt (f i) x (by rw [← he]; exact hx), fun i j x hx hy => ?_, fun x hx => ?_⟩
  · have := h.inj (f i) (f j) x (by rw [← he]; exact hx) (by rw [← he]; exact hy)
    rw [← hf i, this, hf]
  · obtain ⟨i, hi⟩ := h.on x hx
    exact ⟨f i, by rw [he, hf]; exact hi⟩
theorem Perm.swap {n : Nat} {l : List Nat} (h : Perm n l) (i k a b : Nat) (ha : l[i]? = some a) (hb : l[k]? = some b) : Perm n ((l.set i b).set k a) := by
  have hi := (List.getElem?_eq_some_iff.1 ha).1
  have hk := (List.getElem?_eq_some_iff.1 hb).1
  refine h.sw (fun j => if j = k then i else if j = i then k else j) (fun j => ?_) (by simp) (fun j => ?_)
  · split
    · split
      · omega
      · simp_all
    · split <;> simp_all
  · rw [List.getElem?_set, List.getElem?_set]
    simp only [List.length_set]
    by_cases e1 : j = k
    · subst e1; simp [hk, ha]
    · by_cases e2 : j = i
      · subst e2; simp [hi, hb, e1, Ne.symm e1]
      · simp [e1, e2, Ne.symm e1, Ne.symm e2]
theorem own_setO {W : World} {base n c g : Nat} {xs : List Value} (h : W.ownsRow base 3 1 (.slice (some ⟨g, 0, none⟩) n c) n xs) (i : Nat) (hi : i < n) (x : Value) : (W.setCell ⟨g, i, none⟩ x).ownsRow base 3 1 (.slice (some ⟨g, 0, none⟩) n c) n (xs.set i x) := by
  obtain ⟨hl, hv⟩ := h
  refine ⟨by simp [hl], .inr ?_⟩
  rcases hv with ⟨h1, h2⟩ | ⟨g', cap, cur, h1, h2, h3, h4, h5, h6, h7⟩
  · omega
  · injection h1 with h1 h8 h9
    injection h1 with h1
    injection h1 with h1 _ _
    subst h1 h9
    refine ⟨g, c, cur.setIfInBounds i x, rfl, h2, ?_, h4, h5, by simp [h6], ?_⟩
    · have hg : g < W.heap.size := by
        rcases Nat.lt_or_ge g W.heap.size with h1 | h1
        · exact h1
        · rw [Array.getElem?_eq_none h1] at h3; cases h3
      simp [World.setCell, Array.getElem?_modify, h3]
    · rw [← h7]
      simp [List.take_set]
theorem own_cur {W : World} {base n : Nat} {v : Value} {l : List Nat} (h : W.ownsRow base 3 1 v n (nvals l).flatten) (hn : 0 < n) : ∃ g cap cur, v = .slice (some ⟨g, 0, none⟩) n cap ∧ base ≤ g ∧ W.heap[g]? = some (.cells cur 3 (0, 0)) ∧ n ≤ cap ∧ cap ≤ maxLen ∧ cur.size = cap * 1 ∧ cur.toList.take (n * 1) = (nvals l).flatten := by
  rcases h.2 with ⟨h1, h2⟩ | h1
  · omega
  · exact h1
theorem own_cellO {W : World} {base c g : Nat} {l : List Nat} (h : W.ownsRow base 3 1 (.slice (some ⟨g, 0, none⟩) l.length c) l.length (nvals l).flatten) (i y : Nat) (hy : l[i]? = some y) : W.cell? ⟨g, i, none⟩ = some (.int .i64 (y : Nat)) := by
  rw [← nvals_len] at h
  obtain ⟨oa, ca, hv, hs⟩ := own_rows (nvals_one l) h
  injection hv with h1 _ _
  subst h1
  obtain ⟨b, off, h2, hr⟩ := hs (fun e => by simp [nvals] at e; subst e; simp at hy)
  injection h2 with h2
  injection h2 with h2 h3 _
  subst h2 h3
  have := hr.c i [.int .i64 (y : Nat)] (by simp [nvals, hy]) 0 _ rfl
  simpa using this
theorem nvals_setO (l : List Nat) (i x : Nat) : (nvals (l.set i x)).flatten = (nvals l).flatten.set i (.int .i64 (x : Nat)) := by
  have e : ∀ l : List Nat, (nvals l).flatten = l.map fun x => .int .i64 (x : Nat) := fun l => by
    induction l with
    | nil => rfl
    | cons a r ih => simpa [nvals] using ih
  rw [e, e, List.map_set]
def OrdP (n : Nat) (w : World) (e : Ending) (W : World) : Prop := ∃ (l : List Nat) (oa : Option Addr) (ca : Nat), e = .returned (.slice oa l.length ca) ∧ Perm n l ∧ Sl W oa 1 (nvals l) ∧ Below w.heap.size w W ∧ ∀ a, oa = some a → w.heap.size ≤ a.block

set_option maxRecDepth 100000 in
set_option maxHeartbeats 4000000 in
theorem order_any (os : Option Addr) (cap n : Nat) (xs : List Int) (w : World) (hn : n ≤ 1000) (hX : Sl w os 1 (pvals xs)) (hxl : xs.length ≤ 9223372036854775807) :
    Calls Try.prog 19 #[.int .i64 (n : Nat), .slice os xs.length cap] w (OrdP n w) := by
  go_enter Try.func19, Try.ntmps19
  go_wp2_with fail
  refine (from_any os cap xs.length w).mono ?_
  rintro e W1 ⟨rfl, rfl⟩
  have hbA : Below w.heap.size w (w.alloc (.cells #[.slice os xs.length cap, .int .i64 0] 105)) := (Below.refl _ _).alloc (Nat.le_refl _) _
  have hC2 := Cells2.new w (.slice os xs.length cap) (.int .i64 0) 105
  have hX1 := hX.keep hbA
  have hoff : pvals xs ≠ [] → ∀ b o s, os = some ⟨b, o, s⟩ → b ≠ w.heap.size := fun h b o s he => by
    obtain ⟨b', off', e1, hr⟩ := hX h
    rw [he] at e1; injection e1 with e1; injection e1 with e1 _ _
    have := hr.lt; omega
  have hS : Src (w.alloc (.cells #[.slice os xs.length cap, .int .i64 0] 105)) w.heap.size os cap xs := ⟨⟨0, by omega, hC2⟩, hX1, fun h => hoff (fun h0 => h (by simpa [pvals] using h0)), hxl⟩
  have HB1 := Lib.hid hbA
  have hnS : w.heap.size ≤ w.heap.size := Nat.le_refl _
  clear hbA hC2 hX hoff
  generalize w.alloc (.cells #[.slice os xs.length cap, .int .i64 0] 105) = W1 at *
  obtain ⟨nS, hnSe⟩ : ∃ a, a = w.heap.size := ⟨_, rfl⟩
  rw [← hnSe] at hS
  have hI : NI W1 nS os cap xs [] (.slice none 0 0) W1 := ⟨grown_of_below (Below.refl _ _), hS, World.ownsRow_nil _ _ _ _, Nat.le_refl _, src_lt hS, hX1⟩
  have HNS := Lib.hid hnSe
  rw [← hnSe]
  clear hS hX1 hnSe hnS
  go_wp2_with fail
  go_loopw [6, 7] (fun v i W => ∃ l : List Nat, l.length ≤ n ∧ i = .int .i64 (l.length : Nat) ∧ Perm l.length l ∧ NI W1 nS os cap xs l v W) (fun _ i _ => n - (intOf i).toNat)
  case atStart => exact ⟨[], by simp, rfl, Perm.nil, hI⟩
  case round =>
    clear hI
    obtain ⟨l, hk, rfl, hV, hI⟩ := hrel
    have HV := Lib.hid hV
    clear hV
    by_cases hlt : l.length < n
    · go_wp2_with fail
      refine (next_any wr nS os cap xs (l.length + 1) hI.src (by omega) (by omega)).mono ?_
      rintro e W2 ⟨q, q0, q1, rfl, hg2, hS2⟩
      obtain ⟨q, rfl, q2⟩ := nat_int q0 q1
      replace hI := hI.call hg2 hS2
      clear hg2 hS2
      obtain ⟨i0, hi, hz0, hz1, hz2⟩ := info_parts info3
      have HC2 := Lib.hid (hI.keep (W' := W2.alloc (.cells #[.int .i64 (l.length : Nat)] 3)) ((Below.refl _ _).alloc (Nat.le_refl _) _))
      go_wp2_with (at_builtin; refine wpList_append_own _ rfl _ _ 24 rfl W1.heap.size 3 i0 (.int .i64 0) 1 8 under24 hi hz0 hz1 hz2 rfl (by decide) _ _ _ rfl HC2.out.own ⟨W2.heap.size, 0, none⟩ 1 1 [.int .i64 (l.length : Nat)] rfl rfl ?c1 ?c2 ?c3 ?c4 ?c5 ?_)
      case c1 => exact new_cells _ _ _
      case c2 => intro u hu; simp at hu; subst hu; rfl
      case c3 => unfold maxLen; omega
      case c4 => omega
      case c5 => exact HC2.out.hb
      intro v' w' hown' hgrow _
      have HN := Lib.hid (HC2.out.app hown' hgrow)
      clear hown' hgrow HC2 hI hi hz0 hz1 hz2
      go_upto_region 8 with fail
      obtain ⟨g, c, cur, rfl, hg1, hg2, hg3, hg4, hg5, hg6⟩ := own_cur HN.out.own (by simp)
      have hpn : Perm (l.length + 1) (l ++ [l.length]) := HV.out.push
      obtain ⟨y, hy⟩ : ∃ y, (l ++ [l.length])[q]? = some y := ⟨_, List.getElem?_eq_getElem (by simp; omega)⟩
      have hz : (l ++ [l.length])[l.length]? = some l.length := by simp
      have x0 : w'.cell? ⟨g, q, none⟩ = some (.int .i64 (y : Nat)) := own_cellO HN.out.own q y hy
      have x1 : w'.cell? ⟨g, l.length, none⟩ = some (.int .i64 (l.length : Nat)) := own_cellO HN.out.own _ _ hz
      have f0 : w'.frozen? ⟨g, q, none⟩ = false := by simp [World.frozen?, hg2]
      have f1 : w'.frozen? ⟨g, l.length, none⟩ = false := by simp [World.frozen?, hg2]
      have lg := (own_lt HN.out.own g rfl).1
      have i1 : (q : Int) < (l.length : Int) + 1 := by omega
      have i2 : (l.length : Int) < (l.length : Int) + 1 := by omega
      have i3 : (0 : Int) ≤ (q : Int) := by omega
      have i4 : (0 : Int) ≤ (l.length : Int) := by omega
      have hL : ∀ W', Below W1.heap.size w' W' → W'.ownsRow W1.heap.size 3 1 (.slice (some ⟨g, 0, none⟩) (((l ++ [l.length]).set l.length y).set q l.length).length c) (((l ++ [l.length]).set l.length y).set q l.length).length (nvals (((l ++ [l.length]).set l.length y).set q l.length)).flatten → NI W1 nS os cap xs (((l ++ [l.length]).set l.length y).set q l.length) (.slice (some ⟨g, 0, none⟩) (((l ++ [l.length]).set l.length y).set q l.length).length c) W' := fun W' hb ho => ⟨grown_low HN.out.gr hb, HN.out.src.low HN.out.i0 HN.out.hs hb, ho, Nat.le_trans HN.out.hb hb.size, HN.out.hs, HN.out.i0⟩
      have hP2 := Lib.hid (hpn.swap l.length q l.length y hz hy)
      have hlen : (((l ++ [l.length]).set l.length y).set q l.length).length = l.length + 1 := by simp
      have hO2 : ((w'.setCell ⟨g, l.length, none⟩ (.int .i64 (y : Nat))).setCell ⟨g, q, none⟩ (.int .i64 (l.length : Nat))).drew.ownsRow W1.heap.size 3 1 (.slice (some ⟨g, 0, none⟩) (((l ++ [l.length]).set l.length y).set q l.length).length c) (((l ++ [l.length]).set l.length y).set q l.length).length (nvals (((l ++ [l.length]).set l.length y).set q l.length)).flatten := by
        rw [nvals_setO, nvals_setO]
        have h1 := own_setO HN.out.own l.length (by simp) (.int .i64 (y : Nat))
        have h2 := own_setO h1 q (by simp; omega) (.int .i64 (l.length : Nat))
        simp only [List.length_set]
        exact h2
      have hB2 : Below W1.heap.size w' ((w'.setCell ⟨g, l.length, none⟩ (.int .i64 (y : Nat))).setCell ⟨g, q, none⟩ (.int .i64 (l.length : Nat))).drew := Below.drew (((Below.refl _ _).setCell (p := ⟨g, l.length, none⟩) hg1 _).setCell (p := ⟨g, q, none⟩) hg1 _)
      have HN2 := Lib.hid (hL _ hB2 hO2)
      have HLE := Lib.hid hlen
      clear hL hO2 hB2 hlen hpn hg2 hg3 hg4 hg5 hg6 hy hz
      by_cases hq : q = l.length
      · subst hq
        obtain rfl : l.length = y := by
          have := x0.symm.trans x1
          simp at this
          omega
        go_region
        go_wp2
        go_roundw
        case rel => exact ⟨_, by rw [HLE.out]; omega, by simp, by rw [HLE.out]; exact hP2.out, by have := HN2.out; simpa using this⟩
        case measure => simp [intOf]; omega
      · have hne : ¬ (l.length = q) := fun e => hq e.symm
        clear q2
        go_region
        go_wp2
        go_roundw
        case rel => exact ⟨_, by rw [HLE.out]; omega, by simp, by rw [HLE.out]; exact hP2.out, by have := HN2.out; simpa using this⟩
        case measure => simp [intOf]; omega
    · obtain ⟨oa, ca, rfl, hs, hf⟩ := hI.done
      have hle : l.length = n := by omega
      have HI := Lib.hid hI
      have HS := Lib.hid hs
      have HF := Lib.hid hf
      clear hI hs hf
      go_wp2
      go_ret
      refine ⟨l, oa, ca, rfl, by rw [← hle]; exact HV.out, HS.out, ?_, fun a ha => Nat.le_trans HB1.out.size (HF.out a ha)⟩
      exact (grown_fresh HB1.out HI.out.gr (by rw [HNS.out]; exact Nat.le_refl _))
end Go.Proofs.Ng
end

section
/-
  Points in another order.
-/
namespace Go.Proofs.Ng
open Go.RowKit

/-- A row of points of the world W4 that grows. -/
structure Sel (W4 : World) (ys : List (List Int)) (v : Value) (X : World) : Prop where
  ex : ∃ us : List Value, us.length = ys.length ∧ X.ownsRow W4.heap.size 31 1 v ys.length us ∧ ∀ (k : Nat) (u : Value) (y : List Int), us[k]? = some u → ys[k]? = some y → PtAt W4 u y
  bel : Below W4.heap.size W4 X
theorem Sel.nil (W4 : World) : Sel W4 [] (.slice none 0 0) W4 := ⟨⟨[], rfl, World.ownsRow_nil _ _ _ _, by simp⟩, Below.refl _ _⟩
theorem Sel.app {W4 X2 : World} {ys : List (List Int)} {us : List Value} {u v' : Value} {y : List Int} (hl : us.length = ys.length) (hp : ∀ (k : Nat) (u : Value) (y : List Int), us[k]? = some u → ys[k]? = some y → PtAt W4 u y) (hu : PtAt W4 u y) (ho : X2.ownsRow W4.heap.size 31 1 v' (ys.length + 1) (us ++ [u])) (hb : Below W4.heap.size W4 X2) : Sel W4 (ys ++ [y]) v' X2 := by
  refine ⟨⟨us ++ [u], by simp [hl], by simpa using ho, fun k u' y' h1 h2 => ?_⟩, hb⟩
  rcases Nat.lt_or_ge k us.length with hlt | hge
  · rw [List.getElem?_append_left hlt] at h1
    rw [List.getElem?_append_left (by omega)] at h2
    exact hp k u' y' h1 h2
  · have hk : k = us.length := by
      have := (List.getElem?_eq_some_iff.1 h1).1
      simp at this; omega
    subst hk
    rw [List.getElem?_append_right (Nat.le_refl _), Nat.sub_self] at h1
    rw [hl, List.getElem?_append_right (Nat.le_refl _), Nat.sub_self] at h2
    simp at h1 h2
    subst h1 h2
    exact hu
theorem Sel.done {W4 X : World} {ys : List (List Int)} {v : Value} (h : Sel W4 ys v X) : ∃ oa ca, v = .slice oa ys.length ca ∧ Pts X oa ys := by
  obtain ⟨us, h1, h2, h3⟩ := h.ex
  have e : (us.map fun u => [u]).flatten = us := by
    clear h1 h2 h3
    induction us with
    | nil => rfl
    | cons a r ih => simpa using ih
  obtain ⟨oa, ca, rfl, hs⟩ := own_rows (rows := us.map fun u => [u]) (n := 1) (by intro r hr; simp at hr; obtain ⟨j, _, rfl⟩ := hr; rfl) (by rw [List.length_map, h1, e]; exact h2)
  rw [List.length_map, h1]
  exact ⟨oa, ca, rfl, ⟨us, h1, hs, fun k u xs hu hx => (h3 k u xs hu hx).keep h.bel⟩⟩
/-- The points in the order l. -/
def selP (pts : List (List Int)) (l : List Nat) : List (List Int) := l.map fun i => pts[i]?.getD []
theorem selP_len (pts : List (List Int)) (l : List Nat) : (selP pts l).length = l.length := by simp [selP]
theorem selP_take {pts : List (List Int)} {l : List Nat} {m y : Nat} {x : List Int} (hy : l[m]? = some y) (hx : pts[y]? = some x) : selP pts (l.take (m + 1)) = selP pts (l.take m) ++ [x] := by
  rw [List.take_add_one, hy]
  simp [selP, hx]
theorem selP_get {pts : List (List Int)} {l : List Nat} {m y : Nat} (hy : l[m]? = some y) : (selP pts l)[m]? = some (pts[y]?.getD []) := by simp [selP, hy]
theorem selP_good {js : List JV} {n : Nat} {pts : List (List Int)} {l : List Nat} (hg : Good js n pts) (hp : Perm pts.length l) : Good js n (selP pts l) := by
  refine ⟨by rw [selP_len, hp.len, hg.1], fun p h => ?_⟩
  obtain ⟨i, hi, rfl⟩ := List.mem_map.1 h
  obtain ⟨j, hj⟩ := List.mem_iff_getElem?.1 hi
  have hlt := hp.lt j i hj
  rw [List.getElem?_eq_getElem hlt]
  exact hg.2 _ (List.getElem_mem hlt)
/-- The distances of the nearest points are the same. -/
theorem near_sel {k : Nat} {js : List JV} {q : List Int} {pts : List (List Int)} {l R S : List Nat} (hp : Perm pts.length l) (hR : NearL k pts.length (dP js q pts) R) (hS : NearL k pts.length (dP js q (selP pts l)) S) {i a b : Nat} (ha : R[i]? = some a) (hb : S[i]? = some b) : dP js q pts a = dP js q (selP pts l) b := by
  have hg : ∀ p, p < pts.length → l[p]? = some (l[p]?.getD 0) := fun p h => by
    have : p < l.length := by rw [hp.len]; exact h
    rw [List.getElem?_eq_getElem this]; rfl
  refine near_perm hR hS (fun p => l[p]?.getD 0) (fun p h => hp.lt p _ (hg p h)) (fun p r h1 h2 e => hp.inj p r _ (hg p h1) ((hg r h2).trans (by rw [← e]))) (fun p h => ?_) (fun p h => ?_) ha hb
  · obtain ⟨j, hj⟩ := hp.on p h
    have hlt := (List.getElem?_eq_some_iff.1 hj).1
    rw [hp.len] at hlt
    exact ⟨j, hlt, by rw [hj]; rfl⟩
  · unfold dP
    rw [selP_get (hg p h)]
    rfl
end Go.Proofs.Ng
end

