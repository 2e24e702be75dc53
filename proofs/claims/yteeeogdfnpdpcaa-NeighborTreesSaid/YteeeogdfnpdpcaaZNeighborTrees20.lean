/-
  Texts put together: Cq Co.
-/
import Derived.Test.YteeeogdfnpdpcaaZNeighborTrees19
import Derived.Test.YteeeogdfnpdpcaaZNeighborTrees11
import Derived.Test.YteeeogdfnpdpcaaZNeighborTrees14
import Derived.Deep.Slices
import Derived.OpenShut
import Derived.ChangeArms
import Derived.ProofKit
import Derived.ChangeSame
import Derived.Carry
import Derived.Below
import Derived.Lib.SmallJoins
set_option linter.unusedVariables false
section
/-
  Walks: the law NeighborTrees.
-/
namespace Go.Proofs.Ng
open Go.RowKit

/-- Points of a robot are valid points. -/
theorem good_vp {js : List JV} {ms : List MV} {oa om : Option Addr} {W : World} {n : Nat} {pts : List (List Int)} (hr : RobP js ms oa om W) (hg : Good js n pts) (hn : n ≤ 1024) : vpB pts = true := by
  refine vp_yes (by rw [hg.1]; exact hn) fun j c hj hc => ?_
  obtain ⟨hl, hi⟩ := hg.2 c (List.mem_of_getElem? hc)
  have hd : dimP pts = js.length := by
    obtain ⟨c0, hc0⟩ : ∃ c, pts[0]? = some c := ⟨_, List.getElem?_eq_getElem (by omega)⟩
    unfold dimP
    rw [hc0]
    exact (hg.2 c0 (List.mem_of_getElem? hc0)).1
  have hjl := hr.1
  unfold okC
  rw [hd, decide_eq_true (by omega), Bool.true_and]
  refine small_yes fun k x hk hx => ?_
  obtain ⟨jv, hjv⟩ : ∃ jv, js[k]? = some jv := ⟨_, List.getElem?_eq_getElem (by omega)⟩
  have h1 := hi k jv x hjv hx
  have h2 := (hr.2.2.1 k jv hjv).lim
  have h3 := limitF_bd jv.kind
  unfold okX
  exact decide_eq_true (by omega)
/-- The cells of rows, one behind another. -/
theorem flat_news {W : World} {n : Nat} (hn : 0 < n) : ∀ {rows : List (List Value)} {b off : Nat}, (∀ r ∈ rows, r.length = n) → RowsAt W b off n rows → ∀ (j : Nat) (u : Value), rows.flatten[j]? = some u → W.cell? ⟨b, off + j, none⟩ = some u
  | [], b, off, _, _, j, u, h => by simp at h
  | r :: rows, b, off, hl, hr, j, u, h => by
    have hrl := hl r (by simp)
    rw [List.flatten_cons] at h
    rcases Nat.lt_or_ge j r.length with h1 | h1
    · rw [List.getElem?_append_left h1] at h
      have := hr.c 0 r rfl j u h
      simpa using this
    · rw [List.getElem?_append_right h1] at h
      have := flat_news hn (rows := rows) (b := b) (off := off + n) (fun r hr => hl r (by simp [hr])) ⟨hr.lt, fun i r' hi k v hv => by
        have := hr.c (i + 1) r' (by simpa using hi) k v hv
        have e : off + ((i + 1) * n + k) = off + n + (i * n + k) := by rw [Nat.succ_mul]; omega
        rw [← e]; exact this⟩ (j - r.length) u h
      have e : off + n + (j - r.length) = off + j := by omega
      rw [← e]; exact this
theorem add_cell (b off j : Nat) : (⟨b, off, none⟩ : Addr).add j = ⟨b, off + j, none⟩ := by unfold Addr.add; split <;> simp_all
theorem nflat_one (t : List Nd) : ∀ u ∈ nflat t, u.oneCell' = true := by
  intro u hu
  unfold nflat at hu
  rw [List.mem_flatten] at hu
  obtain ⟨r, hr, hu⟩ := hu
  rw [List.mem_map] at hr
  obtain ⟨x, _, rfl⟩ := hr
  simp [Nd.vals] at hu
  rcases hu with rfl | rfl | rfl | rfl <;> rfl
theorem nflat_len (t : List Nd) : (nflat t).length = t.length * 4 := by
  unfold nflat
  induction t with
  | nil => rfl
  | cons a r ih => rw [List.map_cons, List.flatten_cons, List.length_append, ih]; simp [Nd.vals]; omega
theorem nflat_mod (f : Nat) (g : Nd → Nd) (v : Value) (hf : f < 4) (hg : ∀ n : Nd, (g n).vals = n.vals.set f v) : ∀ {t : List Nd} {k : Nat}, k < t.length → (nflat t).set (k * 4 + f) v = nflat (t.modify k g)
  | [], k, h => by simp at h
  | a :: t, 0, h => by
    have hl : a.vals.length = 4 := rfl
    have e : nflat ((a :: t).modify 0 g) = (g a).vals ++ nflat t := by simp [nflat]
    have e2 : nflat (a :: t) = a.vals ++ nflat t := by simp [nflat]
    rw [e, e2, hg, List.set_append_left _ _ (by omega), Nat.zero_mul, Nat.zero_add]
  | a :: t, k + 1, h => by
    have ih := nflat_mod f g v hf hg (t := t) (k := k) (by simpa using h)
    have hl : a.vals.length = 4 := rfl
    have e : nflat ((a :: t).modify (k + 1) g) = a.vals ++ nflat (t.modify k g) := by simp [nflat]
    have e2 : nflat (a :: t) = a.vals ++ nflat t := by simp [nflat]
    rw [e, ← ih, e2, List.set_append_right _ _ (by omega)]
    congr 2
    omega
theorem own_nodes2 {W : World} {base : Nat} {v : Value} {t : List Nd} (h : W.ownsRow base 36 4 v t.length (nflat t)) : ∃ ot ct, v = .slice ot t.length ct ∧ Sl W ot 4 (t.map Nd.vals) := by
  obtain ⟨ot, ct, rfl, hs⟩ := own_rows (rows := t.map Nd.vals) (nd_four t) (by rw [List.length_map]; exact h)
  rw [List.length_map]
  exact ⟨ot, ct, rfl, hs⟩
set_option maxRecDepth 100000 in
set_option maxHeartbeats 8000000 in
theorem trees4 (ol om : Option Addr) (cl cm : Nat) (ls xs : List Int) (n at_ how x : Int) (w : World) (hL : Sl w ol 1 (pvals ls)) (hl : ls.length ≤ 9223372036854775807) (hM : Sl w om 1 (pvals xs)) (hm : xs.length * 8 ≤ 140737488351232) (hmn : om = none → xs = [] ∧ cm = 0) :
    Calls Try.prog 4 #[.slice ol ls.length cl, .slice om xs.length cm, .int .i64 n, .int .i64 at_, .int .i64 how, .int .i64 x] w (BoolP true w) := by
  have HSO := Lib.hid (some9 ol om cl cm ls xs n w hL hl hM hm hmn)
  clear hL hM hmn hl hm
  go_enter Try.func4, Try.ntmps4
  go_wp2_with fail
  with_reducible refine HSO.out.mono ?_
  rintro e W2 ⟨js, ms, oa, cj, oms, cms, pts, op, cp, q, oq, cq, rfl, hrob, hgood, hpp, -, -, hb2⟩
  have hpl : pts.length ≤ 12 := by have := hgood.1; omega
  have HV := Lib.hid (good_vp hrob hgood (by omega))
  have HP := Lib.hid hpp
  have HB2 := Lib.hid hb2
  clear hrob hgood hpp hb2 HSO
  go_upto_region 2 with fail
  have hbx_ := blks1 W2 [.slice oa js.length cj, .slice oms ms.length cms] 30
  replace HP := Lib.hid (HP.out.keep hbx_.2)
  have HB3 := Lib.hid (below_call HB2.out hbx_.2)
  generalize W2.alloc (.cells #[.slice oa js.length cj, .slice oms ms.length cms] 30) = W3 at hbx_ HP HB3 ⊢
  obtain ⟨r11, hbel_⟩ := hbx_
  obtain ⟨n11, hn_⟩ : ∃ n, n = W2.heap.size := ⟨_, rfl⟩
  rw [← hn_] at r11 ⊢
  clear hn_ hbel_
  clear r11 HB2
  obtain ⟨hok, htl⟩ := buildP_ok HV.out
  have HOK := Lib.hid hok
  have hbd := build11 op cp pts W3 HP.out
  generalize buildP pts = t at hbd HOK htl
  have HBD := Lib.hid hbd
  have ht12 : t.length ≤ 12 := by omega
  have hd1 : ((t.length : Int) != (pts.length : Int)) = false := by simp [htl]
  have HTL := Lib.hid htl
  clear hok hbd htl
  go_wp2_with fail
  with_reducible refine HBD.out.mono ?_
  rintro e W4 ⟨ot, ct, rfl, hct, hst, hb, -⟩
  have HP4 := Lib.hid (HP.out.keep hb)
  have HB4 := Lib.hid (below_call HB3.out hb)
  have HV4 := Lib.hid (valid13 op ot cp ct pts t W4 HP4.out hst (by omega) (by omega))
  have HT4 := Lib.hid hst
  clear hst hb HBD HP HB3
  go_wp2_with fail
  with_reducible refine HV4.out.mono ?_
  rintro e W5 ⟨b, rfl, hbi, hb5⟩
  have hbt : b = true := hbi.2 HOK.out
  subst hbt
  have HP := Lib.hid (HP4.out.keep hb5)
  have HT := Lib.hid (HT4.out.keep hb5)
  have HB4 := Lib.hid (below_call HB4.out hb5)
  clear hbi hb5 HV4 HP4 HT4
  by_cases h0 : t.length = 0
  · have hd2 : ((t.length : Int) == 0) = true := by simp [h0]
    clear h0
    go_wp2_with fail
    refine (Try.awake _).mono ?_
    rintro e W6 ⟨rfl, hb⟩
    go_wp2_with fail
    go_ret
    exact ⟨rfl, below_call HB4.out hb⟩
  · have hd2 : ((t.length : Int) == 0) = false := beq_eq_false_iff_ne.2 (by omega)
    obtain ⟨bt, offt, rfl, hTr⟩ := HT.out (map_ne (k := 0) (by omega))
    have HNW := Lib.hid (fun (j : Nat) (u : Value) (hu : (nflat t)[j]? = some u) => show W5.cell? ((⟨bt, offt, none⟩ : Addr).add j) = some u from by
      rw [add_cell]; exact flat_news (n := 4) (by omega) (nd_four t) hTr j u hu)
    obtain ⟨i0, hi, hz0, hz1, hz2⟩ := info_parts info36
    have hTr0 := Lib.hid hTr.lt
    clear hTr
    go_wp2_with (at_builtin; refine wpList_append_own _ rfl _ _ 23 rfl W5.heap.size 36 i0 (.agg #[.int .i64 0, .int .i64 0, .int .i64 0, .int .i64 0]) 4 32 under23 hi hz0 hz1 hz2 rfl (by decide) _ _ _ rfl (World.ownsRow_nil W5 W5.heap.size 36 4) ⟨bt, offt, none⟩ t.length ct (nflat t) rfl ?c0 HNW.out (nflat_one t) ?c3 ?c4 (Nat.le_refl _) ?_)
    case c0 => exact nflat_len t
    case c3 => unfold maxLen; omega
    case c4 => omega
    intro v6 W6 ho6 hg6 _
    obtain ⟨gu, c6, rfl⟩ := own_some ho6 (by omega)
    have hB6 := grown_below (World.ownsRow_nil W5 W5.heap.size 36 4) hg6 (Nat.le_refl _)
    have hbt : bt < W5.heap.size := hTr0.out
    have HP6 := Lib.hid (HP.out.keep hB6)
    have HB6 := Lib.hid hB6
    have HO6 := Lib.hid ho6
    have hgu := own_lt ho6 gu rfl
    have hk : ∃ k : Nat, at_ % (t.length : Int) = (k : Nat) ∧ k < t.length := ⟨(at_ % (t.length : Int)).toNat, by have := Int.emod_nonneg at_ (show (t.length : Int) ≠ 0 by omega); omega, by have := Int.emod_lt_of_pos at_ (show (0 : Int) < (t.length : Int) by omega); have := Int.emod_nonneg at_ (show (t.length : Int) ≠ 0 by omega); omega⟩
    obtain ⟨k, hk1, hk2⟩ := hk
    have HK1 := Lib.hid (fun X : World => (round_any at_ (t.length : Int) X (by omega) (by omega)).mono (R' := fun e w' => e = .returned (.int .i64 (k : Nat)) ∧ w' = X) fun _ _ h => ⟨by rw [h.1, hk1], h.2.symm⟩)
    obtain ⟨r, hr⟩ : ∃ r, r = how % 4 := ⟨_, rfl⟩
    have HK2 := Lib.hid (fun X : World => (round_any how 4 X (by omega) (by omega)).mono (R' := fun e w' => e = .returned (.int .i64 r) ∧ w' = X) fun _ _ h => ⟨by rw [h.1, hr], h.2.symm⟩)
    have hr4 : r = 0 ∨ r = 1 ∨ r = 2 ∨ r = 3 := by omega
    clear hg6 hB6 ho6 hk1 hr hi hz0 hz1 hz2 HNW HT
    go_wp2_with fail
    refine (HK1.out _).mono ?_
    rintro e W6 ⟨rfl, rfl⟩
    go_wp2_with fail
    refine (HK2.out _).mono ?_
    rintro e W6 ⟨rfl, rfl⟩
    obtain ⟨nd, hnd⟩ : ∃ nd, t[k]? = some nd := ⟨_, List.getElem?_eq_getElem hk2⟩
    obtain ⟨np, na, nl, nh⟩ := nd
    have z0 : W6.cell? ⟨gu, k * 4, none⟩ = some (.int .i64 np) := own_at HO6.out _ _ (nflat_at hnd (j := 0) rfl)
    have z1 : W6.cell? ⟨gu, k * 4 + 1, none⟩ = some (.int .i64 na) := own_at HO6.out _ _ (nflat_at hnd (j := 1) rfl)
    have z2 : W6.cell? ⟨gu, k * 4 + 2, none⟩ = some (.int .i64 nl) := own_at HO6.out _ _ (nflat_at hnd (j := 2) rfl)
    have z3 : W6.cell? ⟨gu, k * 4 + 3, none⟩ = some (.int .i64 nh) := own_at HO6.out _ _ (nflat_at hnd (j := 3) rfl)
    have f0 := own_frozen HO6.out (by omega) (k * 4)
    have f1 := own_frozen HO6.out (by omega) (k * 4 + 1)
    have f2 := own_frozen HO6.out (by omega) (k * 4 + 2)
    have f3 := own_frozen HO6.out (by omega) (k * 4 + 3)
    have lg := hgu.1
    have HGU := Lib.hid hgu.2
    clear hgu hnd HK1 HK2
    rcases hr4 with rfl | rfl | rfl | rfl
    · go_wp2_with fail
      refine (round_any x ((t.length : Int) + 2) W6 (by omega) (by omega)).mono ?_
      rintro e W6 ⟨rfl, rfl⟩
      have hz1' := Int.emod_nonneg x (show (t.length : Int) + 2 ≠ 0 by omega)
      have hz2' := Int.emod_lt_of_pos x (show (0 : Int) < (t.length : Int) + 2 by omega)
      generalize x % ((t.length : Int) + 2) = z at hz1' hz2' ⊢
      have hw : IntKind.i64.wrap (z - 1) = z - 1 := IntWalk.i64_in _ (by omega)
      have ho := own_set1 HO6.out (k * 4 + 0) (by omega) (.int .i64 (z - 1))
      rw [nflat_mod 0 (fun n => { n with pt := z - 1 }) (.int .i64 (z - 1)) (by omega) (fun n => rfl) hk2] at ho
      have HO7 := Lib.hid ho
      clear ho
      go_upto_region 17 with fail
      have hlen : (t.modify k fun n => { n with pt := z - 1 }).length = t.length := by first | exact List.length_modify .. | exact setLH_len ..
      have hsl := own_nodes2 (W := W6.setCell ⟨gu, k * 4, none⟩ (.int .i64 (z - 1))) (by rw [List.length_modify]; exact HO7.out)
      rw [hlen] at hsl
      obtain ⟨ou, cu, hu, hS⟩ := hsl
      injection hu with hu1 hu2 hu3
      subst hu1 hu3
      have HS := Lib.hid hS
      have HB7 := Lib.hid (HB6.out.setCell (p := ⟨gu, k * 4, none⟩) HGU.out (.int .i64 (z - 1)))
      have HL := Lib.hid hlen
      clear hS hlen hu2
      generalize (t.modify k fun n => { n with pt := z - 1 }) = t' at HS HL
      generalize W6.setCell ⟨gu, k * 4, none⟩ (.int .i64 (z - 1)) = W7 at HS HB7 ⊢
      go_wp2_with fail
      refine (Try.awake _).mono ?_
      rintro e W8 ⟨rfl, hb⟩
      have HB8 := Lib.hid (below_call HB7.out hb)
      have HS8 := Lib.hid (HS.out.keep hb)
      clear hb
      have hv1 := valid13 op (some ⟨gu, 0, none⟩) cp c6 pts t' W8 (HP.out.keep HB8.out) HS8.out (by rw [HL.out]; omega) (by omega)
      rw [HL.out] at hv1
      have HV1 := Lib.hid hv1
      clear hv1
      go_wp2_with fail
      with_reducible refine HV1.out.mono ?_
      rintro e W9 ⟨b1, rfl, i1, hb⟩
      have HB9 := Lib.hid (below_call HB8.out hb)
      have hv2 := validTree14 op (some ⟨gu, 0, none⟩) cp c6 pts t' W9 (HP.out.keep HB9.out) (HS8.out.keep hb) (by rw [HL.out]; omega) (by omega)
      rw [HL.out] at hv2
      have HV2 := Lib.hid hv2
      clear hv2 hb
      go_wp2_with fail
      with_reducible refine HV2.out.mono ?_
      rintro e W10 ⟨b2, rfl, i2, hb⟩
      have HB10 := Lib.hid (below_call HB9.out hb)
      have e1 := iff_beq i1 i2
      clear i1 i2 hb
      go_wp2_with fail
      go_ret
      exact ⟨rfl, below_call HB4.out HB10.out⟩
    · obtain ⟨hp1024, hdim⟩ := vp_dim HV.out
      obtain ⟨p0, hp0⟩ : ∃ c, pts[0]? = some c := ⟨_, List.getElem?_eq_getElem (by have := HTL.out; omega)⟩
      have hpd := hdim p0 (List.mem_of_getElem? hp0)
      obtain ⟨bp, offp, oc, cc, rfl, q0, lbp, -⟩ := (HP.out.keep HB6.out).get hp0
      rw [hpd.1, Nat.add_zero] at q0
      have hpl0 : 0 < pts.length := by have := HTL.out; omega
      have hdp := hpd.2.2
      clear hdim hpd hp0 hp1024
      generalize hdd : dimP pts = d at q0 hdp
      have HDD := Lib.hid hdd
      clear hdd
      go_wp2_with fail
      refine (round_any x ((d : Int) + 2) W6 (by omega) (by omega)).mono ?_
      rintro e W6 ⟨rfl, rfl⟩
      have hz1' := Int.emod_nonneg x (show (d : Int) + 2 ≠ 0 by omega)
      have hz2' := Int.emod_lt_of_pos x (show (0 : Int) < (d : Int) + 2 by omega)
      generalize x % ((d : Int) + 2) = z at hz1' hz2' ⊢
      have hw : IntKind.i64.wrap (z - 1) = z - 1 := IntWalk.i64_in _ (by omega)
      have ho := own_set1 HO6.out (k * 4 + 1) (by omega) (.int .i64 (z - 1))
      rw [nflat_mod 1 (fun n => { n with ax := z - 1 }) (.int .i64 (z - 1)) (by omega) (fun n => rfl) hk2] at ho
      have HO7 := Lib.hid ho
      clear ho
      go_upto_region 17 with fail
      clear q0
      have hlen : (t.modify k fun n => { n with ax := z - 1 }).length = t.length := by first | exact List.length_modify .. | exact setLH_len ..
      have hsl := own_nodes2 (W := W6.setCell ⟨gu, k * 4 + 1, none⟩ (.int .i64 (z - 1))) (by rw [List.length_modify]; exact HO7.out)
      rw [hlen] at hsl
      obtain ⟨ou, cu, hu, hS⟩ := hsl
      injection hu with hu1 hu2 hu3
      subst hu1 hu3
      have HS := Lib.hid hS
      have HB7 := Lib.hid (HB6.out.setCell (p := ⟨gu, k * 4 + 1, none⟩) HGU.out (.int .i64 (z - 1)))
      have HL := Lib.hid hlen
      clear hS hlen hu2
      generalize (t.modify k fun n => { n with ax := z - 1 }) = t' at HS HL
      generalize W6.setCell ⟨gu, k * 4 + 1, none⟩ (.int .i64 (z - 1)) = W7 at HS HB7 ⊢
      go_wp2_with fail
      refine (Try.awake _).mono ?_
      rintro e W8 ⟨rfl, hb⟩
      have HB8 := Lib.hid (below_call HB7.out hb)
      have HS8 := Lib.hid (HS.out.keep hb)
      clear hb
      have hv1 := valid13 (some ⟨bp, offp, none⟩) (some ⟨gu, 0, none⟩) cp c6 pts t' W8 (HP.out.keep HB8.out) HS8.out (by rw [HL.out]; omega) (by omega)
      rw [HL.out] at hv1
      have HV1 := Lib.hid hv1
      clear hv1
      go_wp2_with fail
      with_reducible refine HV1.out.mono ?_
      rintro e W9 ⟨b1, rfl, i1, hb⟩
      have HB9 := Lib.hid (below_call HB8.out hb)
      have hv2 := validTree14 (some ⟨bp, offp, none⟩) (some ⟨gu, 0, none⟩) cp c6 pts t' W9 (HP.out.keep HB9.out) (HS8.out.keep hb) (by rw [HL.out]; omega) (by omega)
      rw [HL.out] at hv2
      have HV2 := Lib.hid hv2
      clear hv2 hb
      go_wp2_with fail
      with_reducible refine HV2.out.mono ?_
      rintro e W10 ⟨b2, rfl, i2, hb⟩
      have HB10 := Lib.hid (below_call HB9.out hb)
      have e1 := iff_beq i1 i2
      clear i1 i2 hb
      go_wp2_with fail
      go_ret
      exact ⟨rfl, below_call HB4.out HB10.out⟩
    · go_wp2_with fail
      refine (round_any x ((t.length : Int) + 2) W6 (by omega) (by omega)).mono ?_
      rintro e W6 ⟨rfl, rfl⟩
      have hz1' := Int.emod_nonneg x (show (t.length : Int) + 2 ≠ 0 by omega)
      have hz2' := Int.emod_lt_of_pos x (show (0 : Int) < (t.length : Int) + 2 by omega)
      generalize x % ((t.length : Int) + 2) = z at hz1' hz2' ⊢
      have hw : IntKind.i64.wrap (z - 1) = z - 1 := IntWalk.i64_in _ (by omega)
      have ho := own_set1 HO6.out (k * 4 + 2) (by omega) (.int .i64 (z - 1))
      rw [nflat_mod 2 (fun n => { n with lo := z - 1 }) (.int .i64 (z - 1)) (by omega) (fun n => rfl) hk2] at ho
      have HO7 := Lib.hid ho
      clear ho
      go_upto_region 17 with fail
      have hlen : (t.modify k fun n => { n with lo := z - 1 }).length = t.length := by first | exact List.length_modify .. | exact setLH_len ..
      have hsl := own_nodes2 (W := W6.setCell ⟨gu, k * 4 + 2, none⟩ (.int .i64 (z - 1))) (by rw [List.length_modify]; exact HO7.out)
      rw [hlen] at hsl
      obtain ⟨ou, cu, hu, hS⟩ := hsl
      injection hu with hu1 hu2 hu3
      subst hu1 hu3
      have HS := Lib.hid hS
      have HB7 := Lib.hid (HB6.out.setCell (p := ⟨gu, k * 4 + 2, none⟩) HGU.out (.int .i64 (z - 1)))
      have HL := Lib.hid hlen
      clear hS hlen hu2
      generalize (t.modify k fun n => { n with lo := z - 1 }) = t' at HS HL
      generalize W6.setCell ⟨gu, k * 4 + 2, none⟩ (.int .i64 (z - 1)) = W7 at HS HB7 ⊢
      go_wp2_with fail
      refine (Try.awake _).mono ?_
      rintro e W8 ⟨rfl, hb⟩
      have HB8 := Lib.hid (below_call HB7.out hb)
      have HS8 := Lib.hid (HS.out.keep hb)
      clear hb
      have hv1 := valid13 op (some ⟨gu, 0, none⟩) cp c6 pts t' W8 (HP.out.keep HB8.out) HS8.out (by rw [HL.out]; omega) (by omega)
      rw [HL.out] at hv1
      have HV1 := Lib.hid hv1
      clear hv1
      go_wp2_with fail
      with_reducible refine HV1.out.mono ?_
      rintro e W9 ⟨b1, rfl, i1, hb⟩
      have HB9 := Lib.hid (below_call HB8.out hb)
      have hv2 := validTree14 op (some ⟨gu, 0, none⟩) cp c6 pts t' W9 (HP.out.keep HB9.out) (HS8.out.keep hb) (by rw [HL.out]; omega) (by omega)
      rw [HL.out] at hv2
      have HV2 := Lib.hid hv2
      clear hv2 hb
      go_wp2_with fail
      with_reducible refine HV2.out.mono ?_
      rintro e W10 ⟨b2, rfl, i2, hb⟩
      have HB10 := Lib.hid (below_call HB9.out hb)
      have e1 := iff_beq i1 i2
      clear i1 i2 hb
      go_wp2_with fail
      go_ret
      exact ⟨rfl, below_call HB4.out HB10.out⟩
    · have ho := own_set1 (own_set1 HO6.out (k * 4 + 2) (by omega) (.int .i64 nh)) (k * 4 + 3) (by omega) (.int .i64 nl)
      rw [nflat_lh hk2] at ho
      have HO7 := Lib.hid ho
      have HB7 := Lib.hid ((HB6.out.setCell (p := ⟨gu, k * 4 + 2, none⟩) HGU.out (.int .i64 nh)).setCell (p := ⟨gu, k * 4 + 3, none⟩) HGU.out (.int .i64 nl))
      clear ho
      go_upto_region 10 with fail
      go_region
      have HO8 := Lib.hid (own_keep HO7.out ((Below.refl _ _).drew))
      have HB8x := Lib.hid HB7.out.drew
      clear HO7 HB7 z0 z1 z2 z3 f0 f1 f2 f3 lg
      generalize ((W6.setCell ⟨gu, k * 4 + 2, none⟩ (.int .i64 nh)).setCell ⟨gu, k * 4 + 3, none⟩ (.int .i64 nl)).drew = X at HO8 HB8x ⊢
      go_wp2_with fail
      go_upto_region 17 with fail
      have hlen : (setLH t k nh nl).length = t.length := by first | exact List.length_modify .. | exact setLH_len ..
      have hsl := own_nodes2 (W := X) (by rw [setLH_len]; exact HO8.out)
      rw [hlen] at hsl
      obtain ⟨ou, cu, hu, hS⟩ := hsl
      injection hu with hu1 hu2 hu3
      subst hu1 hu3
      have HS := Lib.hid hS
      have HB7 := Lib.hid HB8x.out
      have HL := Lib.hid hlen
      clear hS hlen hu2
      generalize (setLH t k nh nl) = t' at HS HL
      generalize X = W7 at HS HB7 ⊢
      go_wp2_with fail
      refine (Try.awake _).mono ?_
      rintro e W8 ⟨rfl, hb⟩
      have HB8 := Lib.hid (below_call HB7.out hb)
      have HS8 := Lib.hid (HS.out.keep hb)
      clear hb
      have hv1 := valid13 op (some ⟨gu, 0, none⟩) cp c6 pts t' W8 (HP.out.keep HB8.out) HS8.out (by rw [HL.out]; omega) (by omega)
      rw [HL.out] at hv1
      have HV1 := Lib.hid hv1
      clear hv1
      go_wp2_with fail
      with_reducible refine HV1.out.mono ?_
      rintro e W9 ⟨b1, rfl, i1, hb⟩
      have HB9 := Lib.hid (below_call HB8.out hb)
      have hv2 := validTree14 op (some ⟨gu, 0, none⟩) cp c6 pts t' W9 (HP.out.keep HB9.out) (HS8.out.keep hb) (by rw [HL.out]; omega) (by omega)
      rw [HL.out] at hv2
      have HV2 := Lib.hid hv2
      clear hv2 hb
      go_wp2_with fail
      with_reducible refine HV2.out.mono ?_
      rintro e W10 ⟨b2, rfl, i2, hb⟩
      have HB10 := Lib.hid (below_call HB9.out hb)
      have e1 := iff_beq i1 i2
      clear i1 i2 hb
      go_wp2_with fail
      go_ret
      exact ⟨rfl, below_call HB4.out HB10.out⟩
end Go.Proofs.Ng
end

section
/-
  What the readings of the arguments say of memory.
-/
namespace Go.Proofs.Ng
open Go.RowKit
theorem list_of {A : Type} (P : Nat → A → Prop) : ∀ n : Nat, (∀ i, i < n → ∃ r, P i r) → ∃ rs : List A, rs.length = n ∧ ∀ (i : Nat) (r : A), rs[i]? = some r → P i r
  | 0, _ => ⟨[], rfl, fun i r h => by simp at h⟩
  | n + 1, h => by
    obtain ⟨rs, hl, hr⟩ := list_of P n fun i hi => h i (by omega)
    obtain ⟨r, hp⟩ := h n (by omega)
    refine ⟨rs ++ [r], by simp [hl], fun i r' hi => ?_⟩
    rcases Nat.lt_or_ge i rs.length with hlt | hge
    · rw [List.getElem?_append_left hlt] at hi
      exact hr i r' hi
    · rw [List.getElem?_append_right hge] at hi
      have : i = n := by
        rcases Nat.eq_or_lt_of_le hge with h | h
        · omega
        · rw [List.getElem?_eq_none (by simp; omega)] at hi; cases hi
      subst this
      have e : i - rs.length = 0 := by omega
      rw [e] at hi
      simp at hi
      subst hi
      exact hp

/-- A slice that is read lies in memory, row for row. -/
theorem open_rows {H : Type} {enc : TypeId × Value → H} {P : Program} {w : World} {base : Nat} {spare : Nat → Bool} {held : Bool} {A : Type} (f : A → List Value) {t e : TypeId} {n fuel : Nat} {v : Value} {x : DataW H × List MemPlace} (ht : P.underlying t = some (.slice e)) (hc : P.cellsOf e = n) (hn : 0 < n)
    (hrow : ∀ (m : Nat) (cs : List Value) (y : DataW H × List MemPlace), cs.length = n → DataW.trod enc P w base spare held m e cs = some y → ∃ r : A, cs = f r)
    (h : DataW.trod enc P w base spare held fuel t [v] = some x) : ∃ (oa : Option Addr) (cap : Nat) (rs : List A), v = .slice oa rs.length cap ∧ rs.length ≤ 9223372036854775807 ∧ Sl w oa n (rs.map f) ∧ (oa = none → rs = [] ∧ cap = 0) ∧ (x.1 = .nil ∧ rs = [] ∨ ∃ elems spare, x.1 = .slice elems spare ∧ elems.length = rs.length) := by
  rcases Go.Deep.open_slice ht h with ⟨h0, hx0⟩ | ⟨a, len, cap, m, k, D, Pl, h1, hb, hl, hm, hmm, hx0, hx⟩
  · injection h0 with h0 _
    subst h0
    exact ⟨none, 0, [], rfl, by simp, fun h => absurd rfl h, fun _ => ⟨rfl, rfl⟩, .inl ⟨by rw [hx0], rfl⟩⟩
  · injection h1 with h1 _
    subst h1
    have hlm : len ≤ m := by rw [hmm]; split <;> omega
    obtain ⟨rs, hrl, hr⟩ := list_of (fun i r => w.cells? base (a.add (i * n)) n = some (f r)) len (fun i hi => by
      obtain ⟨cs, c1, c2⟩ := hx i (by omega)
      rw [hc] at c1
      obtain ⟨r, rfl⟩ := hrow _ _ _ (World.cells?_some c1).2.1 c2
      exact ⟨r, c1⟩)
    subst hrl
    refine ⟨some a, cap, rs, rfl, by unfold maxLen at hm; omega, fun hne => ?_, fun h => by (cases h), .inr ⟨_, _, by rw [hx0], by simp⟩⟩
    have hne' : rs ≠ [] := fun h => hne (by simp [h])
    have cell : ∀ (i : Nat) (r : A), rs[i]? = some r → ∀ q u, (f r)[q]? = some u → w.cell? ((a.add (i * n)).add q) = some u := by
      intro i r hi q u hq
      obtain ⟨_, c2, c3⟩ := World.cells?_some (hr i r hi)
      have hqn : q < n := by
        rcases Nat.lt_or_ge q (f r).length with h' | h'
        · omega
        · rw [List.getElem?_eq_none h'] at hq; cases hq
      rw [c3 q hqn, hq]
    -- the slice's address has no spot
    have sp : a.spot = none := by
      cases rs with
      | nil => exact absurd rfl hne'
      | cons r0 rt =>
        obtain ⟨_, c2, c3⟩ := World.cells?_some (hr 0 r0 rfl)
        have c4 := c3 0 hn
        have : (f r0)[0]? = some ((f r0)[0]'(by omega)) := List.getElem?_eq_getElem _
        rw [this] at c4
        cases hs : a.spot with
        | none => rfl
        | some s =>
          exfalso
          have e0 : ((a.add (0 * n)).add 0) = a := by simp [Addr.add]
          rw [e0] at c4
          unfold World.cell? at c4
          rw [hs] at c4
          revert c4
          cases w.heap[a.block]? with
          | none => simp
          | some o => cases o <;> simp
    obtain ⟨b, off, sp'⟩ := a
    simp at sp
    subst sp
    refine ⟨b, off, rfl, ?_, fun i r hi q u hq => ?_⟩
    · cases rs with
      | nil => exact absurd rfl hne'
      | cons r0 rt =>
        obtain ⟨_, c2, c3⟩ := World.cells?_some (hr 0 r0 rfl)
        have c4 := c3 0 hn
        have : (f r0)[0]? = some ((f r0)[0]'(by omega)) := List.getElem?_eq_getElem _
        rw [this] at c4
        rcases Nat.lt_or_ge b w.heap.size with h' | h'
        · exact h'
        · exfalso
          have e0 : (((⟨b, off, none⟩ : Addr).add (0 * n)).add 0) = ⟨b, off, none⟩ := by simp [Addr.add]
          rw [e0] at c4
          simp [World.cell?, Array.getElem?_eq_none h'] at c4
    · rw [List.getElem?_map] at hi
      cases hri : rs[i]? with
      | none => rw [hri] at hi; cases hi
      | some r' =>
        rw [hri] at hi
        simp at hi
        subst hi
        rw [← cell i r' hri q u hq]
        congr 1
        simp only [Addr.add]
        split <;> split <;> simp_all <;> omega

theorem row_int {H : Type} {enc : TypeId × Value → H} {w : World} {base : Nat} {spare : Nat → Bool} {held : Bool} (e : TypeId) (hu : Try.prog.underlying e = some (.int .i64)) (m : Nat) (cs : List Value) (y : DataW H × List MemPlace) (_ : cs.length = 1) (h : DataW.trod enc Try.prog w base spare held m e cs = some y) : ∃ r : Int, cs = [.int .i64 r] := by
  obtain ⟨n, rfl, _⟩ := DataW.trod_int hu h
  exact ⟨n, rfl⟩
theorem clo3 : Try.prog.cellsOf 3 = 1 := by kernel_rfl
theorem open_nums {H : Type} {enc : TypeId × Value → H} {w : World} {base : Nat} {spare : Nat → Bool} {held : Bool} {t e : TypeId} {fuel : Nat} {v : Value} {x : DataW H × List MemPlace} (ht : Try.prog.underlying t = some (.slice e)) (hu : Try.prog.underlying e = some (.int .i64)) (hc : Try.prog.cellsOf e = 1)
    (h : DataW.trod enc Try.prog w base spare held fuel t [v] = some x) : ∃ (oa : Option Addr) (cap : Nat) (rs : List Int), v = .slice oa rs.length cap ∧ rs.length ≤ 9223372036854775807 ∧ Sl w oa 1 (pvals rs) ∧ (oa = none → rs = [] ∧ cap = 0) ∧ (x.1 = .nil ∧ rs = [] ∨ ∃ elems spare, x.1 = .slice elems spare ∧ elems.length = rs.length) :=
  open_rows (fun p : Int => [.int .i64 p]) ht hc (by omega) (row_int e hu) h
theorem laidOut : laidOutB Try.prog = true := by kernel_rfl
open Go.ChangeShapes Go.WideShapes Go.ChangeAt
set_option linter.unusedVariables false
/-- The post, of a world of which it is known that nothing that stood before has changed. -/
theorem post_below {H : Type} {enc : TypeId × Value → H} {P : Program} {f : Func} {s : ChangeSpec} {apart fresh handsOn again : Bool} {W W' : World} {args : Array Value} {v : Value} {ds gs : List (DataW H)} {before pa pv : List MemPlace}
    (hW : DataW.Whole enc P f.params.toList s.vars apart W args.toList ds gs before)
    (hres : ∀ (b : Nat) (sp : Nat → Bool) (hd : Bool), DataW.TrodAll enc P W' b sp hd f.resultTypes.toList (v.resultList f.resultTypes.size) (s.fn H (ds ++ gs)).results [])
    (hargs : ∀ sp : Nat → Bool, (∀ p ∈ before, sp p.block = true) → DataW.TrodAll enc P W' 0 sp true f.params.toList args.toList (s.fn H (ds ++ gs)).args pa)
    (hvars : ∀ sp : Nat → Bool, (∀ p ∈ before, sp p.block = true) → DataW.TrodVars enc P W' sp s.vars (s.fn H (ds ++ gs)).vars pv)
    (hps : before = pa ++ pv) (hb : Below W.heap.size W W')
    (hok : ∀ (j : Nat) (t : TypeId) (r : Value), f.resultTypes[j]? = some t → (v.resultList f.resultTypes.size)[j]? = some r → Value.okWide P W' .any 0 t r) :
    s.post enc P f apart fresh handsOn again W args v W' := by
  have hlt : ∀ p ∈ before, p.block < W.heap.size := fun p hp => hW.lt p hp
  have hold : ∀ p ∈ before, (fun b => decide (b < W.heap.size)) p.block = true := fun p hp => by simpa using hlt p hp
  refine ⟨ds, gs, before, [], pa, pv, hW, hres _ _ _, hargs _ hold, hvars _ hold, World.keptBut_mono (fun p hp => ⟨hp, ?_⟩) (hb.frame (· ∈ before)), fun _ => ?_⟩
  · rw [hps, List.mem_append] at hp
    exact Or.inr hp
  · obtain ⟨_, _, _, _, _, hz, hn⟩ := hW
    refine ⟨hok, _, _, ([] ++ pa) ++ pv, ⟨[] ++ pa, pv, trodAll_append (hargs _ (fun _ _ => rfl)) (hres _ _ _), hvars _ (fun _ _ => rfl), rfl, ?_, ?_⟩, ?_⟩
    · intro b off hp
      have hin : MemPlace.cell b off ∈ before := by rw [hps]; simpa using hp
      rw [hb.frozen (hlt _ hin)]
      exact hz b off hin
    · intro ha
      have := hn ha
      rw [hps] at this
      simpa using this
    · intro p hp _
      rw [hps]
      simpa using hp


/-- What was read reads as it did. -/
theorem stays {H : Type} {enc : TypeId × Value → H} {P : Program} (hl : laidOutB P = true) {W W' : World} {sp' : Nat → Bool} : ∀ (ts : List TypeId) (vs : List Value) (ds : List (DataW H)) (ps : List MemPlace), (∀ t ∈ ts, P.readableRec t = true ∧ t < P.types.size) →
    DataW.TrodAll enc P W 0 (fun _ => true) true ts vs ds ps → (∀ p ∈ ps, W.sameAt W' p) → (∀ p ∈ ps, sp' p.block = true) → DataW.TrodAll enc P W' 0 sp' true ts vs ds ps
  | [], [], [], ps, _, h, _, _ => h
  | t :: ts, v :: vs, d :: ds, ps, ht, h, h1, h2 => by
    obtain ⟨p, q, a, b, rfl⟩ := h
    exact ⟨p, q, WideElems.Trod_stays hl (ht t (by simp)).1 (ht t (by simp)).2 a (fun x hx => h1 x (by simp [hx])) (fun x hx => h2 x (by simp [hx])), stays hl ts vs ds q (fun t h => ht t (by simp [h])) b (fun x hx => h1 x (by simp [hx])) (fun x hx => h2 x (by simp [hx])), rfl⟩
  | [], _ :: _, _, _, _, h, _, _ => by simp [DataW.TrodAll] at h
  | [], [], _ :: _, _, _, h, _, _ => by simp [DataW.TrodAll] at h
  | _ :: _, [], _, _, _, h, _, _ => by simp [DataW.TrodAll] at h
  | _ :: _, _ :: _, [], _, _, h, _, _ => by simp [DataW.TrodAll] at h

theorem own24 : ownKnob Try.prog.godebug = none := by kernel_rfl
theorem clo2 : Try.prog.cellsOf 2 = 1 := by kernel_rfl
theorem clo31 : Try.prog.cellsOf 31 = 1 := by kernel_rfl
theorem clo36 : Try.prog.cellsOf 36 = 4 := by kernel_rfl
theorem read3 : Try.prog.readableRec 3 = true ∧ 3 < Try.prog.types.size := ⟨by kernel_rfl, of_decide_eq_true (by kernel_rfl)⟩
theorem read22 : Try.prog.readableRec 22 = true ∧ 22 < Try.prog.types.size := ⟨by kernel_rfl, of_decide_eq_true (by kernel_rfl)⟩
theorem read23 : Try.prog.readableRec 23 = true ∧ 23 < Try.prog.types.size := ⟨by kernel_rfl, of_decide_eq_true (by kernel_rfl)⟩
theorem read24 : Try.prog.readableRec 24 = true ∧ 24 < Try.prog.types.size := ⟨by kernel_rfl, of_decide_eq_true (by kernel_rfl)⟩
/-- A slice of points, as it is read. -/
theorem open_pts {H : Type} {enc : TypeId × Value → H} {w : World} {base : Nat} {spare : Nat → Bool} {held : Bool} {fuel : Nat} {v : Value} {x : DataW H × List MemPlace}
    (h : DataW.trod enc Try.prog w base spare held fuel 22 [v] = some x) : ∃ (oa : Option Addr) (cap : Nat) (pts : List (List Int)), v = .slice oa pts.length cap ∧ Pts w oa pts := by
  obtain ⟨oa, cap, rs, rfl, _, hs, _⟩ := open_rows (A := { p : Value × List Int // PtAt w p.1 p.2 }) (fun r => [r.1.1]) Try.underlying22 clo31 (by omega) (fun m cs y hc hy => by
    match cs, hc with
    | [u], _ =>
      obtain ⟨ox, cx, xs, rfl, _, hX, _⟩ := open_nums Try.underlying31 Try.underlying2 clo2 hy
      exact ⟨⟨(.slice ox xs.length cx, xs), ox, cx, rfl, hX⟩, rfl⟩) h
  refine ⟨oa, cap, rs.map fun r => r.1.2, by simp, ⟨rs.map fun r => r.1.1, by simp, by rw [List.map_map]; exact hs, fun k u xs hu hx => ?_⟩⟩
  rw [List.getElem?_map, Option.map_eq_some_iff] at hu hx
  obtain ⟨r, hr, rfl⟩ := hu
  obtain ⟨r', hr', rfl⟩ := hx
  rw [hr] at hr'
  injection hr' with hr'
  subst hr'
  exact r.2
theorem get_some' {A : Type} {xs : List A} {n i : Nat} (h : xs.length = n) (hi : i < n) : ∃ y, xs[i]? = some y := ⟨_, List.getElem?_eq_getElem (by omega)⟩
set_option maxRecDepth 100000 in
theorem row_node {H : Type} {enc : TypeId × Value → H} {w : World} {base : Nat} {spare : Nat → Bool} {held : Bool} (m : Nat) (cs : List Value) (y : DataW H × List MemPlace) (_ : cs.length = 4) (h : DataW.trod enc Try.prog w base spare held m 36 cs = some y) : ∃ r : Nd, cs = r.vals := by
  obtain ⟨xs, n, _, _, hc, hl, hf⟩ := DataW.trod_struct Try.underlying36 h
  rw [clo36] at hc
  match cs, hc with
  | [a, b, c, d], _ =>
    have hl' : xs.length = 4 := hl
    obtain ⟨y0, g0⟩ := get_some' hl' (i := 0) (by omega)
    have h0 : DataW.trod enc Try.prog w base spare held n 3 (List.take (Try.prog.cellsOf 3) (List.drop 0 ([a, b, c, d] : List Value))) = xs[0]? := hf 0 _ rfl
    simp only [g0] at h0
    obtain ⟨y1, g1⟩ := get_some' hl' (i := 1) (by omega)
    have h1 : DataW.trod enc Try.prog w base spare held n 3 (List.take (Try.prog.cellsOf 3) (List.drop 1 ([a, b, c, d] : List Value))) = xs[1]? := hf 1 _ rfl
    simp only [g1] at h1
    obtain ⟨y2, g2⟩ := get_some' hl' (i := 2) (by omega)
    have h2 : DataW.trod enc Try.prog w base spare held n 3 (List.take (Try.prog.cellsOf 3) (List.drop 2 ([a, b, c, d] : List Value))) = xs[2]? := hf 2 _ rfl
    simp only [g2] at h2
    obtain ⟨y3, g3⟩ := get_some' hl' (i := 3) (by omega)
    have h3 : DataW.trod enc Try.prog w base spare held n 3 (List.take (Try.prog.cellsOf 3) (List.drop 3 ([a, b, c, d] : List Value))) = xs[3]? := hf 3 _ rfl
    simp only [g3] at h3
    rw [clo3] at h0 h1 h2 h3
    obtain ⟨x0, e0⟩ := row_int 3 Try.underlying3 _ _ _ rfl h0
    obtain ⟨x1, e1⟩ := row_int 3 Try.underlying3 _ _ _ rfl h1
    obtain ⟨x2, e2⟩ := row_int 3 Try.underlying3 _ _ _ rfl h2
    obtain ⟨x3, e3⟩ := row_int 3 Try.underlying3 _ _ _ rfl h3
    simp at e0 e1 e2 e3
    subst e0 e1 e2 e3
    exact ⟨⟨x0, x1, x2, x3⟩, rfl⟩
theorem open_nodes {H : Type} {enc : TypeId × Value → H} {w : World} {base : Nat} {spare : Nat → Bool} {held : Bool} {fuel : Nat} {v : Value} {x : DataW H × List MemPlace}
    (h : DataW.trod enc Try.prog w base spare held fuel 23 [v] = some x) : ∃ (oa : Option Addr) (cap : Nat) (t : List Nd), v = .slice oa t.length cap ∧ Sl w oa 4 (t.map Nd.vals) := by
  obtain ⟨oa, cap, rs, rfl, _, hs, _⟩ := open_rows Nd.vals Try.underlying23 clo36 (by omega) row_node h
  exact ⟨oa, cap, rs, rfl, hs⟩
end Go.Proofs.Ng
end

