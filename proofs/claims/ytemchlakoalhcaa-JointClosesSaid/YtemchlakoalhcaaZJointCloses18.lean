/-
  Texts put together: Dn Do.
-/
import Derived.Test.YtemchlakoalhcaaZJointCloses17
import Derived.Test.YtemchlakoalhcaaZJointCloses11
import Derived.Deep.Slices
import Derived.OpenShut
import Derived.ChangeArms
import Derived.ProofKit
import Derived.ChangeSame
import Derived.Carry
import Derived.Below
import Derived.Lib.SmallJoins
set_option linter.unusedVariables false
section
/-
  Walks: JointCloses.
-/
namespace Go.Proofs.Jn
open Go.RowKit Go.Shelf

theorem moves_len {T : Tm} {ps : List Nat} : ∀ r ∈ (movesE T ps).2, r.length = ps.length := by
  unfold movesE
  rw [exp_en]
  simp only [List.nil_append]
  suffices h : ∀ (d k : Nat) (t : S4), ∀ r ∈ enL (T.ms.map nextOf) (clOf T.cs) (atOf ps) ps.length d k t, r.length = ps.length from h _ _ _
  intro d
  induction d with
  | zero => intro k t r hr; simp only [enL, List.mem_singleton] at hr; rw [hr, rowOf_len]
  | succ d ih =>
    intro k t r hr
    simp only [enL, List.mem_flatMap] at hr
    obtain ⟨v, _, hm⟩ := hr
    split at hm
    · exact ih _ _ r hm
    · cases hm
theorem keepT {V X X' : World} {n7 : Nat} {a b : Value} (l7 : n7 < V.heap.size) (h : X.cell? ⟨n7, 0, none⟩ = some a ∧ X.cell? ⟨n7, 1, none⟩ = some b ∧ Below V.heap.size V X) (hb : Below X.heap.size X X') : X'.cell? ⟨n7, 0, none⟩ = some a ∧ X'.cell? ⟨n7, 1, none⟩ = some b ∧ Below V.heap.size V X' := by
  obtain ⟨h1, h2, h3⟩ := h
  have m7 := Nat.lt_of_lt_of_le l7 h3.size
  exact ⟨(hb.cell (p := ⟨n7, 0, none⟩) m7).trans h1, (hb.cell (p := ⟨n7, 1, none⟩) m7).trans h2, below_call h3 hb⟩
theorem atOf_get {ps : List Nat} {k : Nat} (h : k < ps.length) : ps[k]? = some (atOf ps k) := by simp [atOf, h]
theorem wantIn_succ (T : Tm) (ps qs : List Nat) (k i : Nat) : wantIn T ps qs k (i + 1) = (wantIn T ps qs k i && !clashB T.cs ⟨k, atOf ps k, atOf qs k⟩ ⟨i, atOf ps i, atOf qs i⟩) := by
  unfold wantIn; rw [List.range_succ, List.all_append]; simp
theorem wantTo_succ (T : Tm) (ps qs : List Nat) (k : Nat) : wantTo T ps qs (k + 1) = (wantTo T ps qs k && legB T ⟨k, atOf ps k, atOf qs k⟩ && wantIn T ps qs k k) := by
  unfold wantTo; rw [List.range_succ, List.all_append]; simp [Bool.and_assoc]
theorem keepU {V X X' : World} {n7 n9 ba bb o p : Nat} {a b c d e f g : Value} (l7 : n7 < V.heap.size) (l9 : n9 < V.heap.size) (la : ba < V.heap.size) (lb : bb < V.heap.size)
    (h : X.cell? ⟨n7, 0, none⟩ = some a ∧ X.cell? ⟨n7, 1, none⟩ = some b ∧ X.cell? ⟨n9, 0, none⟩ = some c ∧ X.cell? ⟨n9, 1, none⟩ = some d ∧ X.cell? ⟨n9, 2, none⟩ = some e ∧ X.cell? ⟨ba, o, none⟩ = some f ∧ X.cell? ⟨bb, p, none⟩ = some g ∧ Below V.heap.size V X) (hb : Below X.heap.size X X') :
    X'.cell? ⟨n7, 0, none⟩ = some a ∧ X'.cell? ⟨n7, 1, none⟩ = some b ∧ X'.cell? ⟨n9, 0, none⟩ = some c ∧ X'.cell? ⟨n9, 1, none⟩ = some d ∧ X'.cell? ⟨n9, 2, none⟩ = some e ∧ X'.cell? ⟨ba, o, none⟩ = some f ∧ X'.cell? ⟨bb, p, none⟩ = some g ∧ Below V.heap.size V X' := by
  obtain ⟨h1, h2, h3, h4, h5, h6, h7, h8⟩ := h
  have m7 := Nat.lt_of_lt_of_le l7 h8.size
  have m9 := Nat.lt_of_lt_of_le l9 h8.size
  have ma := Nat.lt_of_lt_of_le la h8.size
  have mb := Nat.lt_of_lt_of_le lb h8.size
  exact ⟨(hb.cell (p := ⟨n7, 0, none⟩) m7).trans h1, (hb.cell (p := ⟨n7, 1, none⟩) m7).trans h2, (hb.cell (p := ⟨n9, 0, none⟩) m9).trans h3, (hb.cell (p := ⟨n9, 1, none⟩) m9).trans h4, (hb.cell (p := ⟨n9, 2, none⟩) m9).trans h5, (hb.cell (p := ⟨ba, o, none⟩) ma).trans h6, (hb.cell (p := ⟨bb, p, none⟩) mb).trans h7, below_call h8 hb⟩
set_option maxRecDepth 100000 in
set_option maxHeartbeats 4000000 in
theorem closes_any (o1 o2 o3 : Option Addr) (c1 c2 c3 : Nat) (xs ys zs : List Int) (w : World) (h1 : Sl w o1 1 (pvals xs)) (h2 : Sl w o2 1 (pvals ys)) (h3 : Sl w o3 1 (pvals zs)) (lx : xs.length ≤ 9223372036854775807) (ly : ys.length ≤ 9223372036854775807) (lz : zs.length ≤ 9223372036854775807) :
    Calls Try.prog 8 #[.slice o1 xs.length c1, .slice o2 ys.length c2, .slice o3 zs.length c3] w fun e w' => e = .returned (.bool true) ∧ Below w.heap.size w w' := by
  have HTM := Lib.hid (team_any o1 c1 xs w h1 lx)
  go_enter Try.func8, Try.ntmps8
  go_wp2_with fail
  refine HTM.out.mono ?_
  rintro e W1 ⟨T, om, oc, cm, cc, base, rfl, hO, hmk, hT, -, -, hb⟩
  unfold Tm.val
  replace h2 := h2.keep hb
  replace h3 := h3.keep hb
  have HB1 := Lib.hid hb
  have HO := Lib.hid hO
  have HMK := Lib.hid hmk
  clear hb h1 hO hmk HTM
  go_upto_region 2 with fail
  have hbx_ := boxes1 W1 [.slice om T.ms.length cm, .slice oc T.cs.length cc] 26
  replace hT := hT.keep hbx_.2
  replace h2 := h2.keep hbx_.2
  replace h3 := h3.keep hbx_.2
  have HB := Lib.hid (below_call HB1.out (hbx_.2))
  generalize W1.alloc (.cells #[.slice om T.ms.length cm, .slice oc T.cs.length cc] 26) = W2 at hbx_ hT h2 h3 HB ⊢
  obtain ⟨r7, hbel_⟩ := hbx_
  obtain ⟨n7, hn_⟩ : ∃ n, n = W1.heap.size := ⟨_, rfl⟩
  rw [← hn_] at r7 ⊢
  clear hn_ hbel_
  have hS0 : W2.cell? ⟨n7, 0, none⟩ = some (.slice om T.ms.length cm) ∧ W2.cell? ⟨n7, 1, none⟩ = some (.slice oc T.cs.length cc) ∧ Below W2.heap.size W2 W2 := ⟨r7.c 0 _ rfl, r7.c 1 _ rfl, Below.refl _ _⟩
  have l7 := r7.lt
  have HT := Lib.hid hT
  have H2 := Lib.hid h2
  have H3 := Lib.hid h3
  have HR7 := Lib.hid r7
  clear hT h2 h3 r7
  have hva : ∀ X, Below W2.heap.size W2 X → Calls Try.prog 10 #[.agg #[.slice om T.ms.length cm, .slice oc T.cs.length cc], .slice o2 ys.length c2] X (VertP T X) := fun X hX => verts_any om oc o2 cm cc c2 T ys X HO.out (HT.out.keep hX) (H2.out.keep hX) ly
  have hvb : ∀ X, Below W2.heap.size W2 X → Calls Try.prog 10 #[.agg #[.slice om T.ms.length cm, .slice oc T.cs.length cc], .slice o3 zs.length c3] X (VertP T X) := fun X hX => verts_any om oc o3 cm cc c3 T zs X HO.out (HT.out.keep hX) (H3.out.keep hX) lz
  have HVA := Lib.hid hva
  have HVB := Lib.hid hvb
  clear hva hvb
  go_cut [8, 9] (fun v8 v9 X => ∃ ps oa ca qs ob cb, v8 = .slice oa (List.length ps) ca ∧ v9 = .slice ob (List.length qs) cb ∧ InR T ps ∧ InR T qs ∧ Sl X oa 1 (nvals ps) ∧ Sl X ob 1 (nvals qs) ∧ Below W2.heap.size W2 X)
  case first =>
    go_region_held3 (fun X => X.cell? ⟨n7, 0, none⟩ = some (.slice om T.ms.length cm) ∧ X.cell? ⟨n7, 1, none⟩ = some (.slice oc T.cs.length cc) ∧ Below W2.heap.size W2 X)
      (first
        | assumption
        | exact hS0
        | exact keepT l7 (by assumption) (by assumption)
        | exact keepT l7 (by assumption) (Below.refl _ _).drew)
      (first
        | (go_at_call 10
           with_reducible refine (HVA.out _ (by assumption : _ ∧ _ ∧ Below W2.heap.size W2 _).2.2).mono ?_
           rintro e Xa ⟨ps, oa, ca, rfl, hla, hra, hsa, hba, -⟩
           have HLA := Lib.hid hla
           clear hla)
        | (go_at_call 10
           with_reducible refine (HVB.out _ (by assumption : _ ∧ _ ∧ Below W2.heap.size W2 _).2.2).mono ?_
           rintro e Xb ⟨qs, ob, cb, rfl, hlb, hrb, hsb, hbb, -⟩
           have HLB := Lib.hid hlb
           clear hlb))
    all_goals
      have hfin := (by assumption : _ ∧ _ ∧ Below W2.heap.size W2 _).2.2
      have HRA := Lib.hid hra
      have HRB := Lib.hid hrb
      have HSA := Lib.hid hsa
      have HSB := Lib.hid hsb
      have HBA := Lib.hid hba
      have HBB := Lib.hid hbb
      clear hra hrb hsa hsb hba hbb hS0
      go_wp2_with fail
      go_meet
      first
        | exact ⟨ps, oa, ca, qs, ob, cb, rfl, rfl, ⟨HLA.out, HRA.out⟩, ⟨HLB.out, HRB.out⟩, HSA.out.keep HBB.out, HSB.out, by assumption⟩
        | exact ⟨ps, oa, ca, qs, ob, cb, rfl, rfl, ⟨HLA.out, HRA.out⟩, ⟨HLB.out, HRB.out⟩, HSA.out, HSB.out.keep HBA.out, by assumption⟩
  case rest =>
    clear hS0
    obtain ⟨ps, oa, ca, qs, ob, cb, rfl, rfl, hp, hq, hsa, hsb, hb⟩ := hcut
    obtain ⟨W3, rfl⟩ : ∃ X, X = wc := ⟨_, rfl⟩
    have hmv := moves_any om oc oa cm cc ca T ps W3 HO.out (fun m hm => by have := (HMK.out m hm).n6; omega) hp (HT.out.keep hb) hsa
    unfold Tm.val at hmv
    have HMV := Lib.hid hmv
    have r7 := HR7.out.keep hb
    have a0 : W3.cell? ⟨n7, 0, none⟩ = some (.slice om T.ms.length cm) := r7.c 0 _ rfl
    have a1 : W3.cell? ⟨n7, 1, none⟩ = some (.slice oc T.cs.length cc) := r7.c 1 _ rfl
    have l7b := r7.lt
    have HP := Lib.hid hp
    have HQ := Lib.hid hq
    have HSA := Lib.hid hsa
    have HSB := Lib.hid hsb
    have HB3 := Lib.hid hb
    clear hmv hp hq hsa hsb hb
    go_wp2_with fail
    refine HMV.out.mono ?_
    rintro e W4 ⟨ol, cl, rfl, hLL, hb, hbd⟩
    have HRL := Lib.hid (moves_len (T := T) (ps := ps))
    have HLAW := Lib.hid (closes_law HO.out HP.out HQ.out)
    generalize (movesE T ps).2 = R at hLL HRL HLAW hbd ⊢
    have HLL := Lib.hid hLL
    have HB4 := Lib.hid (below_call HB3.out hb)
    have HSA4 := Lib.hid (HSA.out.keep hb)
    have HSB4 := Lib.hid (HSB.out.keep hb)
    clear hb hLL r7 a0 a1 l7b HSA HSB HMV
    go_wp2_with fail
    go_loopw [12, 11] (fun i f X => ∃ j : Nat, i = .int .i64 (j : Nat) ∧ j ≤ R.length ∧ f = .bool ((R.take j).any fun r => decide (r = qs)) ∧ Below W4.heap.size W4 X) (fun i _ _ => R.length - (intOf i).toNat)
    case atStart => exact ⟨0, rfl, by omega, by simp, Below.refl _ _⟩
    case round =>
      obtain ⟨j, rfl, hj, rfl, hW⟩ := hrel
      by_cases hlt : j < R.length
      · obtain ⟨r, hr⟩ : ∃ r, R[j]? = some r := ⟨_, List.getElem?_eq_getElem hlt⟩
        obtain ⟨vs, hSl, hvl, hrow⟩ := HLL.out
        obtain ⟨v, hv⟩ : ∃ v, vs[j]? = some v := ⟨_, List.getElem?_eq_getElem (by rw [hvl]; exact hlt)⟩
        obtain ⟨o, c, rfl, hSr⟩ := hrow j v r hv hr
        obtain ⟨bl, offl, hol, hLr⟩ := (hSl.keep hW) (map_ne (k := j) (by rw [hvl]; exact hlt))
        subst hol
        have hrl : r.length = qs.length := by rw [HRL.out r (List.mem_of_getElem? hr), HP.out.1, HQ.out.1]
        have x0 : wr.cell? ⟨bl, offl + j, none⟩ = some (.slice o qs.length c) := by have := hLr.c j _ (map_get hv) 0 _ rfl; rw [← hrl]; simpa using this
        have hsa : Calls Try.prog 22 #[.slice o qs.length c, .slice ob qs.length cb] wr (BoolP (decide (r = qs)) wr) := by
          have h4 := HO.out.n2
          have h5 := HQ.out.1
          have := same_any o ob c cb r qs wr hrl.symm (by omega) (hSr.keep hW) (HSB4.out.keep hW)
          rw [hrl] at this
          exact this
        have lbl := hLr.lt
        have HSA := Lib.hid hsa
        have hany : ((R.take (j + 1)).any fun r => decide (r = qs)) = (((R.take j).any fun r => decide (r = qs)) || decide (r = qs)) := by rw [List.take_add_one, hr, List.any_append]; simp
        have HANY := Lib.hid hany
        have HW := Lib.hid hW
        clear hSl hvl hrow hv hr hSr hLr hrl hsa hany hW
        cases hF : ((R.take j).any fun r => decide (r = qs)) with
        | true =>
          have hA := HANY.out
          rw [hF, Bool.true_or] at hA
          have HA := Lib.hid hA
          clear hA hF
          go_wp2_with fail
          go_roundw
          case rel => exact ⟨j + 1, by simp, by omega, by rw [HA.out], HW.out⟩
          case measure => simp [intOf]; omega
        | false =>
          have hA := HANY.out
          rw [hF, Bool.false_or] at hA
          have HA := Lib.hid hA
          clear hA hF
          go_wp2_with fail
          refine HSA.out.mono ?_
          rintro e X ⟨rfl, hb⟩
          have HWX := Lib.hid (below_call HW.out hb)
          clear x0 lbl hb
          go_wp2_with fail
          go_roundw
          case rel => exact ⟨j + 1, by simp, by omega, by rw [HA.out], HWX.out⟩
          case measure => simp [intOf]; omega
      · have hjR : j = R.length := by omega
        rw [hjR, List.take_length, HLAW.out]
        have HB5 := Lib.hid hW
        obtain ⟨W5, rfl⟩ : ∃ X, X = wr := ⟨_, rfl⟩
        clear hW hjR hlt hj
        go_wp2_with fail
        go_loopw [14, 13] (fun i f X => ∃ k : Nat, i = .int .i64 (k : Nat) ∧ k ≤ ps.length ∧ f = .bool (wantTo T ps qs k) ∧ Below W4.heap.size W4 X) (fun i _ _ => ps.length - (intOf i).toNat)
        case atStart => exact ⟨0, rfl, by omega, by simp [wantTo], HB5.out⟩
        case round =>
          obtain ⟨k, rfl, hk, rfl, hW⟩ := hrel
          by_cases hlt : k < ps.length
          · obtain ⟨Wb, rfl⟩ : ∃ X, X = wr := ⟨_, rfl⟩
            have hps4 : ps.length ≤ 4 := by rw [HP.out.1]; exact HO.out.n2
            obtain ⟨m, hm⟩ : ∃ m, T.ms[k]? = some m := ⟨_, List.getElem?_eq_getElem (by rw [← HP.out.1]; exact hlt)⟩
            have hqk : k < qs.length := by rw [HQ.out.1, ← HP.out.1]; exact hlt
            obtain ⟨ba, offa, hoa, hAr⟩ := (HSA4.out.keep hW) (nvals_ne hlt)
            obtain ⟨bb, offb, hob, hBr⟩ := (HSB4.out.keep hW) (nvals_ne hqk)
            subst hoa hob
            have y0 : Wb.cell? ⟨ba, offa + k, none⟩ = some (.int .i64 (atOf ps k : Nat)) := by have := hAr.c k _ (nvals_get (atOf_get hlt)) 0 _ rfl; simpa using this
            have z0 : Wb.cell? ⟨bb, offb + k, none⟩ = some (.int .i64 (atOf qs k : Nat)) := by have := hBr.c k _ (nvals_get (atOf_get hqk)) 0 _ rfl; simpa using this
            have la := hAr.lt
            have lb := hBr.lt
            have hBb := below_call HB4.out hW
            have hlg : ∀ X, Below Wb.heap.size Wb X → Calls Try.prog 23 #[.agg #[.slice om T.ms.length cm, .slice oc T.cs.length cc], .agg #[.int .i64 (k : Nat), .int .i64 (atOf ps k : Nat), .int .i64 (atOf qs k : Nat)]] X (BoolP (legB T ⟨k, atOf ps k, atOf qs k⟩) X) := fun X hX => by
              have hmo := HO.out.mo m (List.mem_of_getElem? hm)
              have h2 := HO.out.n2
              have h := refLegal_any om oc cm cc T m ⟨k, atOf ps k, atOf qs k⟩ X (by omega) hm (atOf_lt HP.out hm) (atOf_lt HQ.out hm) hmo.n2 hmo.len (HT.out.keep (below_call hBb hX))
              have e : legB T ⟨k, atOf ps k, atOf qs k⟩ = (edgeB m.es (atOf ps k) (atOf qs k) || decide (atOf ps k = atOf qs k)) := by
                simp [legB, hm, atOf_lt HP.out hm, atOf_lt HQ.out hm, Bool.or_comm]
              rw [e]
              exact h
            have hcl : ∀ q X, Below Wb.heap.size Wb X → Calls Try.prog 24 #[.agg #[.slice om T.ms.length cm, .slice oc T.cs.length cc], .agg #[.int .i64 (k : Nat), .int .i64 (atOf ps k : Nat), .int .i64 (atOf qs k : Nat)], .agg #[.int .i64 (q : Nat), .int .i64 (atOf ps q : Nat), .int .i64 (atOf qs q : Nat)]] X (BoolP (clashB T.cs ⟨k, atOf ps k, atOf qs k⟩ ⟨q, atOf ps q, atOf qs q⟩) X) := fun q X hX =>
              clash_any om oc cm cc T ⟨k, atOf ps k, atOf qs k⟩ ⟨q, atOf ps q, atOf qs q⟩ X HO.out.cn (HT.out.keep (below_call hBb hX))
            have hqi : (k : Int) < (qs.length : Int) := by omega
            have HLG := Lib.hid hlg
            have HCL := Lib.hid hcl
            have HR7b := Lib.hid (HR7.out.keep hBb)
            have HAR := Lib.hid hAr
            have HBR := Lib.hid hBr
            have HW := Lib.hid hW
            have HQK := Lib.hid hqk
            clear hlg hcl hAr hBr hBb hm hW hqk HB5
            go_upto_region 13 with fail
            go_cut [15] (fun s15 X => ∃ n15 : Nat, s15 = .pointer (some ⟨n15, 0, none⟩) ∧ Row X n15 [.int .i64 (k : Nat), .int .i64 (atOf ps k : Nat), .int .i64 (atOf qs k : Nat)] ∧ Below Wb.heap.size Wb X)
            case first =>
              go_region_held3 (fun X => X.cell? ⟨ba, offa + k, none⟩ = some (.int .i64 (atOf ps k : Nat)) ∧ X.cell? ⟨bb, offb + k, none⟩ = some (.int .i64 (atOf qs k : Nat)))
                (first
                  | exact ⟨y0, z0⟩
                  | simp [y0, z0, la, lb, World.cell?_alloc_lt])
                (fail)
              all_goals go_wp2_with fail
              all_goals go_meet
              all_goals exact ⟨_, rfl, (Row.new Wb [.int .i64 (k : Nat), .int .i64 (atOf ps k : Nat), .int .i64 (atOf qs k : Nat)] 65).keep (Below.refl _ _).drew, ((Below.refl _ _).alloc (Nat.le_refl _) _).drew⟩
            case rest =>
              clear y0 z0
              obtain ⟨n15, rfl, r15, hb15⟩ := hcut
              obtain ⟨Wc, rfl⟩ : ∃ X, X = wc := ⟨_, rfl⟩
              have r7c := HR7b.out.keep hb15
              have a0 : Wc.cell? ⟨n7, 0, none⟩ = some (.slice om T.ms.length cm) := r7c.c 0 _ rfl
              have a1 : Wc.cell? ⟨n7, 1, none⟩ = some (.slice oc T.cs.length cc) := r7c.c 1 _ rfl
              have b0 : Wc.cell? ⟨n15, 0, none⟩ = some (.int .i64 (k : Nat)) := r15.c 0 _ rfl
              have b1 : Wc.cell? ⟨n15, 1, none⟩ = some (.int .i64 (atOf ps k : Nat)) := r15.c 1 _ rfl
              have b2 : Wc.cell? ⟨n15, 2, none⟩ = some (.int .i64 (atOf qs k : Nat)) := r15.c 2 _ rfl
              have l7c := r7c.lt
              have l15 := r15.lt
              have HB15 := Lib.hid hb15
              have HR15 := Lib.hid r15
              clear hb15 r15 r7c
              go_upto_region 14 with fail
              go_cut [13] (fun f X => f = .bool (wantTo T ps qs k && legB T ⟨k, atOf ps k, atOf qs k⟩) ∧ Below Wc.heap.size Wc X)
              case first =>
                cases hwt : wantTo T ps qs k with
                | true =>
                  have HWT := Lib.hid hwt
                  clear hwt
                  go_wp2_with fail
                  refine (HLG.out Wc HB15.out).mono ?_
                  rintro e X ⟨rfl, hb⟩
                  have HBX := Lib.hid hb
                  clear a0 a1 b0 b1 b2 hb
                  go_wp2_with fail
                  go_meet
                  exact ⟨by simp [HWT.out], HBX.out⟩
                | false =>
                  have HWT := Lib.hid hwt
                  clear hwt
                  go_wp2_with fail
                  go_meet
                  exact ⟨by simp [HWT.out], Below.refl _ _⟩
              case rest =>
                clear a0 a1 b0 b1 b2
                obtain ⟨rfl, hbd⟩ := hcut
                have hws := wantTo_succ T ps qs k
                generalize (wantTo T ps qs k && legB T ⟨k, atOf ps k, atOf qs k⟩) = G at hws ⊢
                have HWS := Lib.hid hws
                have HBD := Lib.hid (below_call HB15.out hbd)
                have HRd := Lib.hid (HR15.out.keep hbd)
                obtain ⟨Wd, rfl⟩ : ∃ X, X = wc := ⟨_, rfl⟩
                clear hws hbd l15 l7c
                go_wp2_with fail
                go_loopw [16, 13] (fun i f X => ∃ q : Nat, i = .int .i64 (q : Nat) ∧ q ≤ k ∧ f = .bool (G && wantIn T ps qs k q) ∧ Below Wd.heap.size Wd X) (fun i _ _ => k - (intOf i).toNat)
                case atStart => exact ⟨0, rfl, by omega, by simp [wantIn], Below.refl _ _⟩
                case round =>
                  obtain ⟨q, rfl, hq, rfl, hV⟩ := hrel
                  by_cases hqk : q < k
                  · obtain ⟨We, rfl⟩ : ∃ X, X = wr := ⟨_, rfl⟩
                    have hBV := below_call HBD.out hV
                    have hqp : q < ps.length := by omega
                    have hqq : q < qs.length := by have := HQK.out; omega
                    have hA2 := HAR.out.keep hBV
                    have hB2 := HBR.out.keep hBV
                    have y0 : We.cell? ⟨ba, offa + q, none⟩ = some (.int .i64 (atOf ps q : Nat)) := by have := hA2.c q _ (nvals_get (atOf_get hqp)) 0 _ rfl; simpa using this
                    have z0 : We.cell? ⟨bb, offb + q, none⟩ = some (.int .i64 (atOf qs q : Nat)) := by have := hB2.c q _ (nvals_get (atOf_get hqq)) 0 _ rfl; simpa using this
                    have la2 := hA2.lt
                    have lb2 := hB2.lt
                    have r7e := HR7b.out.keep hBV
                    have r15e := HRd.out.keep hV
                    have l7e := r7e.lt
                    have l15e := r15e.lt
                    have hS0 : We.cell? ⟨n7, 0, none⟩ = some (.slice om T.ms.length cm) ∧ We.cell? ⟨n7, 1, none⟩ = some (.slice oc T.cs.length cc) ∧ We.cell? ⟨n15, 0, none⟩ = some (.int .i64 (k : Nat)) ∧ We.cell? ⟨n15, 1, none⟩ = some (.int .i64 (atOf ps k : Nat)) ∧ We.cell? ⟨n15, 2, none⟩ = some (.int .i64 (atOf qs k : Nat)) ∧ We.cell? ⟨ba, offa + q, none⟩ = some (.int .i64 (atOf ps q : Nat)) ∧ We.cell? ⟨bb, offb + q, none⟩ = some (.int .i64 (atOf qs q : Nat)) ∧ Below We.heap.size We We := ⟨r7e.c 0 _ rfl, r7e.c 1 _ rfl, r15e.c 0 _ rfl, r15e.c 1 _ rfl, r15e.c 2 _ rfl, y0, z0, Below.refl _ _⟩
                    have hws := wantIn_succ T ps qs k q
                    have HWI := Lib.hid hws
                    have HBV := Lib.hid hBV
                    have HV := Lib.hid hV
                    clear hBV hA2 hB2 r7e r15e hws hV y0 z0
                    cases hf : (G && wantIn T ps qs k q) with
                    | false =>
                      have HF := Lib.hid hf
                      clear hf
                      go_upto_region 18 with fail
                      go_quiet (fail)
                      have HV2 := Lib.hid (below_call HV.out (below_drew We nq))
                      clear hS0
                      generalize We.drewN nq = V at HV2 ⊢
                      go_wp2
                      go_roundw
                      case rel => exact ⟨q + 1, by simp, by omega, by rw [HWI.out, ← Bool.and_assoc, HF.out]; rfl, HV2.out⟩
                      case measure => simp [intOf]; omega
                    | true =>
                      have HF := Lib.hid hf
                      clear hf
                      go_upto_region 18 with fail
                      go_region_held3 (fun X => X.cell? ⟨n7, 0, none⟩ = some (.slice om T.ms.length cm) ∧ X.cell? ⟨n7, 1, none⟩ = some (.slice oc T.cs.length cc) ∧ X.cell? ⟨n15, 0, none⟩ = some (.int .i64 (k : Nat)) ∧ X.cell? ⟨n15, 1, none⟩ = some (.int .i64 (atOf ps k : Nat)) ∧ X.cell? ⟨n15, 2, none⟩ = some (.int .i64 (atOf qs k : Nat)) ∧ X.cell? ⟨ba, offa + q, none⟩ = some (.int .i64 (atOf ps q : Nat)) ∧ X.cell? ⟨bb, offb + q, none⟩ = some (.int .i64 (atOf qs q : Nat)) ∧ Below We.heap.size We X)
                        (first
                          | assumption
                          | exact hS0
                          | exact keepU l7e l15e la2 lb2 (by assumption) (by assumption)
                          | exact keepU l7e l15e la2 lb2 (by assumption) (Below.refl _ _).drew)
                        (first
                          | (go_at_call 24
                             refine (HCL.out q _ (below_call HBV.out (by assumption : _ ∧ _ ∧ _ ∧ _ ∧ _ ∧ _ ∧ _ ∧ Below We.heap.size We _).2.2.2.2.2.2.2)).mono ?_
                             rintro e X ⟨rfl, hb⟩))
                      all_goals
                        have HX := Lib.hid (below_call HV.out (by assumption : _ ∧ _ ∧ _ ∧ _ ∧ _ ∧ _ ∧ _ ∧ Below We.heap.size We X).2.2.2.2.2.2.2)
                        clear hS0 hb
                        go_wp2
                        go_roundw
                        case rel => exact ⟨q + 1, by simp, by omega, by rw [HWI.out, ← Bool.and_assoc, HF.out]; simp, HX.out⟩
                        case measure => simp [intOf]; omega
                  · have hqe : q = k := by omega
                    have hws := HWS.out
                    rw [hqe, ← hws]
                    have HFIN := Lib.hid (below_call HW.out (below_call HBD.out hV))
                    clear hV hws hqe
                    go_wp2
                    go_roundw
                    case rel => exact ⟨k + 1, by simp, by omega, rfl, HFIN.out⟩
                    case measure => simp [intOf]; omega
          · have hkp : k = ps.length := by omega
            have HWK := Lib.hid (hkp ▸ rfl : wantTo T ps qs k = wantTo T ps qs ps.length)
            rw [hkp]
            generalize wantTo T ps qs ps.length = wt
            have HB6 := Lib.hid (below_call HB.out (below_call HB4.out hW))
            clear hW HB5 hlt
            go_wp2_with (go_at_call 13; refine (Try.awake _).mono ?_; rintro e X ⟨rfl, hb⟩)
            go_ret
            exact ⟨by simp, below_call HB6.out hb⟩
end Go.Proofs.Jn
end

section
/-
  What the readings of the arguments say of memory.
-/
namespace Go.Proofs.Jn
open Go.RowKit
theorem list_of {A : Type} (P : Nat → A → Prop) : ∀ n : Nat, (∀ i, i < n → ∃ r, P i r) → ∃ rs : List A, rs.length = n ∧ ∀ (i : Nat) (r : A), rs[i]? = some r → P i r
  | 0, _ => ⟨[], rfl, fun i r h => by simp at h⟩
  | n + 1, h => by
    obtain ⟨rs, hl, hr⟩ := list_of P n fun i hi => h i (by omega)
    obtain ⟨r, hp⟩ := h n (by omega)
    refine ⟨rs ++ [r], by simp [hl], fun i r' hi => ?_⟩
    rcases Nat.lt_or_ge i rs.length with hlt | hge
    · rw [List.getElem?_append_left hlt] at hi
      exact hr i r' hi
    · rw [List.getElem?_append_right hge] at hi
      have : i = n := by
        rcases Nat.eq_or_lt_of_le hge with h | h
        · omega
        · rw [List.getElem?_eq_none (by simp; omega)] at hi; cases hi
      subst this
      have e : i - rs.length = 0 := by omega
      rw [e] at hi
      simp at hi
      subst hi
      exact hp

/-- A slice that is read lies in memory, row for row. -/
theorem open_rows {H : Type} {enc : TypeId × Value → H} {P : Program} {w : World} {base : Nat} {spare : Nat → Bool} {held : Bool} {A : Type} (f : A → List Value) {t e : TypeId} {n fuel : Nat} {v : Value} {x : DataW H × List MemPlace} (ht : P.underlying t = some (.slice e)) (hc : P.cellsOf e = n) (hn : 0 < n)
    (hrow : ∀ (m : Nat) (cs : List Value) (y : DataW H × List MemPlace), DataW.trod enc P w base spare held m e cs = some y → ∃ r : A, cs = f r)
    (h : DataW.trod enc P w base spare held fuel t [v] = some x) : ∃ (oa : Option Addr) (cap : Nat) (rs : List A), v = .slice oa rs.length cap ∧ rs.length ≤ 9223372036854775807 ∧ Sl w oa n (rs.map f) := by
  rcases Go.Deep.open_slice ht h with ⟨h0, _⟩ | ⟨a, len, cap, m, k, D, Pl, h1, hb, hl, hm, hmm, _, hx⟩
  · injection h0 with h0 _
    subst h0
    exact ⟨none, 0, [], rfl, by simp, fun h => absurd rfl h⟩
  · injection h1 with h1 _
    subst h1
    have hlm : len ≤ m := by rw [hmm]; split <;> omega
    obtain ⟨rs, hrl, hr⟩ := list_of (fun i r => w.cells? base (a.add (i * n)) n = some (f r)) len (fun i hi => by
      obtain ⟨cs, c1, c2⟩ := hx i (by omega)
      rw [hc] at c1
      obtain ⟨r, rfl⟩ := hrow _ _ _ c2
      exact ⟨r, c1⟩)
    subst hrl
    refine ⟨some a, cap, rs, rfl, by unfold maxLen at hm; omega, fun hne => ?_⟩
    have hne' : rs ≠ [] := fun h => hne (by simp [h])
    have cell : ∀ (i : Nat) (r : A), rs[i]? = some r → ∀ q u, (f r)[q]? = some u → w.cell? ((a.add (i * n)).add q) = some u := by
      intro i r hi q u hq
      obtain ⟨_, c2, c3⟩ := World.cells?_some (hr i r hi)
      have hqn : q < n := by
        rcases Nat.lt_or_ge q (f r).length with h' | h'
        · omega
        · rw [List.getElem?_eq_none h'] at hq; cases hq
      rw [c3 q hqn, hq]
    -- the slice's address has no spot
    have sp : a.spot = none := by
      cases rs with
      | nil => exact absurd rfl hne'
      | cons r0 rt =>
        obtain ⟨_, c2, c3⟩ := World.cells?_some (hr 0 r0 rfl)
        have c4 := c3 0 hn
        have : (f r0)[0]? = some ((f r0)[0]'(by omega)) := List.getElem?_eq_getElem _
        rw [this] at c4
        cases hs : a.spot with
        | none => rfl
        | some s =>
          exfalso
          have e0 : ((a.add (0 * n)).add 0) = a := by simp [Addr.add]
          rw [e0] at c4
          unfold World.cell? at c4
          rw [hs] at c4
          revert c4
          cases w.heap[a.block]? with
          | none => simp
          | some o => cases o <;> simp
    obtain ⟨b, off, sp'⟩ := a
    simp at sp
    subst sp
    refine ⟨b, off, rfl, ?_, fun i r hi q u hq => ?_⟩
    · cases rs with
      | nil => exact absurd rfl hne'
      | cons r0 rt =>
        obtain ⟨_, c2, c3⟩ := World.cells?_some (hr 0 r0 rfl)
        have c4 := c3 0 hn
        have : (f r0)[0]? = some ((f r0)[0]'(by omega)) := List.getElem?_eq_getElem _
        rw [this] at c4
        rcases Nat.lt_or_ge b w.heap.size with h' | h'
        · exact h'
        · exfalso
          have e0 : (((⟨b, off, none⟩ : Addr).add (0 * n)).add 0) = ⟨b, off, none⟩ := by simp [Addr.add]
          rw [e0] at c4
          simp [World.cell?, Array.getElem?_eq_none h'] at c4
    · rw [List.getElem?_map] at hi
      cases hri : rs[i]? with
      | none => rw [hri] at hi; cases hi
      | some r' =>
        rw [hri] at hi
        simp at hi
        subst hi
        rw [← cell i r' hri q u hq]
        congr 1
        simp only [Addr.add]
        split <;> split <;> simp_all <;> omega

theorem row_int {H : Type} {enc : TypeId × Value → H} {w : World} {base : Nat} {spare : Nat → Bool} {held : Bool} (e : TypeId) (hu : Try.prog.underlying e = some (.int .i64)) (m : Nat) (cs : List Value) (y : DataW H × List MemPlace) (h : DataW.trod enc Try.prog w base spare held m e cs = some y) : ∃ r : Int, cs = [.int .i64 r] := by
  obtain ⟨n, rfl, _⟩ := DataW.trod_int hu h
  exact ⟨n, rfl⟩
theorem clo3 : Try.prog.cellsOf 3 = 1 := by kernel_rfl
theorem open_nums {H : Type} {enc : TypeId × Value → H} {w : World} {base : Nat} {spare : Nat → Bool} {held : Bool} {t e : TypeId} {fuel : Nat} {v : Value} {x : DataW H × List MemPlace} (ht : Try.prog.underlying t = some (.slice e)) (hu : Try.prog.underlying e = some (.int .i64)) (hc : Try.prog.cellsOf e = 1)
    (h : DataW.trod enc Try.prog w base spare held fuel t [v] = some x) : ∃ (oa : Option Addr) (cap : Nat) (rs : List Int), v = .slice oa rs.length cap ∧ rs.length ≤ 9223372036854775807 ∧ Sl w oa 1 (pvals rs) :=
  open_rows (fun p : Int => [.int .i64 p]) ht hc (by omega) (row_int e hu) h
theorem laidOut : laidOutB Try.prog = true := by kernel_rfl
open Go.ChangeShapes Go.WideShapes Go.ChangeAt
set_option linter.unusedVariables false
/-- The post, of a world of which it is known that nothing that stood before has changed. -/
theorem post_below {H : Type} {enc : TypeId × Value → H} {P : Program} {f : Func} {s : ChangeSpec} {apart fresh handsOn again : Bool} {W W' : World} {args : Array Value} {v : Value} {ds gs : List (DataW H)} {before pa pv : List MemPlace}
    (hW : DataW.Whole enc P f.params.toList s.vars apart W args.toList ds gs before)
    (hres : ∀ (b : Nat) (sp : Nat → Bool) (hd : Bool), DataW.TrodAll enc P W' b sp hd f.resultTypes.toList (v.resultList f.resultTypes.size) (s.fn H (ds ++ gs)).results [])
    (hargs : ∀ sp : Nat → Bool, (∀ p ∈ before, sp p.block = true) → DataW.TrodAll enc P W' 0 sp true f.params.toList args.toList (s.fn H (ds ++ gs)).args pa)
    (hvars : ∀ sp : Nat → Bool, (∀ p ∈ before, sp p.block = true) → DataW.TrodVars enc P W' sp s.vars (s.fn H (ds ++ gs)).vars pv)
    (hps : before = pa ++ pv) (hb : Below W.heap.size W W')
    (hok : ∀ (j : Nat) (t : TypeId) (r : Value), f.resultTypes[j]? = some t → (v.resultList f.resultTypes.size)[j]? = some r → Value.okWide P W' .any 0 t r) :
    s.post enc P f apart fresh handsOn again W args v W' := by
  have hlt : ∀ p ∈ before, p.block < W.heap.size := fun p hp => hW.lt p hp
  have hold : ∀ p ∈ before, (fun b => decide (b < W.heap.size)) p.block = true := fun p hp => by simpa using hlt p hp
  refine ⟨ds, gs, before, [], pa, pv, hW, hres _ _ _, hargs _ hold, hvars _ hold, World.keptBut_mono (fun p hp => ⟨hp, ?_⟩) (hb.frame (· ∈ before)), fun _ => ?_⟩
  · rw [hps, List.mem_append] at hp
    exact Or.inr hp
  · obtain ⟨_, _, _, _, _, hz, hn⟩ := hW
    refine ⟨hok, _, _, ([] ++ pa) ++ pv, ⟨[] ++ pa, pv, trodAll_append (hargs _ (fun _ _ => rfl)) (hres _ _ _), hvars _ (fun _ _ => rfl), rfl, ?_, ?_⟩, ?_⟩
    · intro b off hp
      have hin : MemPlace.cell b off ∈ before := by rw [hps]; simpa using hp
      rw [hb.frozen (hlt _ hin)]
      exact hz b off hin
    · intro ha
      have := hn ha
      rw [hps] at this
      simpa using this
    · intro p hp _
      rw [hps]
      simpa using hp


/-- What was read reads as it did. -/
theorem stays {H : Type} {enc : TypeId × Value → H} {P : Program} (hl : laidOutB P = true) {W W' : World} {sp' : Nat → Bool} : ∀ (ts : List TypeId) (vs : List Value) (ds : List (DataW H)) (ps : List MemPlace), (∀ t ∈ ts, P.readableRec t = true ∧ t < P.types.size) →
    DataW.TrodAll enc P W 0 (fun _ => true) true ts vs ds ps → (∀ p ∈ ps, W.sameAt W' p) → (∀ p ∈ ps, sp' p.block = true) → DataW.TrodAll enc P W' 0 sp' true ts vs ds ps
  | [], [], [], ps, _, h, _, _ => h
  | t :: ts, v :: vs, d :: ds, ps, ht, h, h1, h2 => by
    obtain ⟨p, q, a, b, rfl⟩ := h
    exact ⟨p, q, WideElems.Trod_stays hl (ht t (by simp)).1 (ht t (by simp)).2 a (fun x hx => h1 x (by simp [hx])) (fun x hx => h2 x (by simp [hx])), stays hl ts vs ds q (fun t h => ht t (by simp [h])) b (fun x hx => h1 x (by simp [hx])) (fun x hx => h2 x (by simp [hx])), rfl⟩
  | [], _ :: _, _, _, _, h, _, _ => by simp [DataW.TrodAll] at h
  | [], [], _ :: _, _, _, h, _, _ => by simp [DataW.TrodAll] at h
  | _ :: _, [], _, _, _, h, _, _ => by simp [DataW.TrodAll] at h
  | _ :: _, _ :: _, [], _, _, h, _, _ => by simp [DataW.TrodAll] at h

theorem own37 : ownKnob Try.prog.godebug = none := by kernel_rfl
theorem read22 : Try.prog.readableRec 22 = true ∧ 22 < Try.prog.types.size := ⟨by kernel_rfl, of_decide_eq_true (by kernel_rfl)⟩
theorem read3 : Try.prog.readableRec 3 = true ∧ 3 < Try.prog.types.size := ⟨by kernel_rfl, of_decide_eq_true (by kernel_rfl)⟩
end Go.Proofs.Jn
end

