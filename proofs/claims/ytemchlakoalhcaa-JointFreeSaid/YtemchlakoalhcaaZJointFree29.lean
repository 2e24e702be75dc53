/-
  Texts put together: Ij Do.
-/
import Derived.Test.YtemchlakoalhcaaZJointFree28
import Derived.Test.YtemchlakoalhcaaZJointFree25
import Derived.Test.YtemchlakoalhcaaZJointFree11
import Derived.Deep.Slices
import Derived.OpenShut
import Derived.ChangeArms
import Derived.ProofKit
import Derived.ChangeSame
import Derived.Carry
import Derived.Below
import Derived.Lib.SmallJoins
set_option linter.unusedVariables false
section
/-
  Walks: JointFree.
-/
namespace Go.Proofs.Jn
open Go.RowKit Go.Shelf

/-- The most so far. -/
structure MostP (T : Tm) (ps qs : List Nat) (k mo : Nat) : Prop where
  one : 1 ≤ mo
  all : ∀ (j : Nat) (m : Mp), j < k → T.ms[j]? = some m → ∃ d, distM m (atOf ps j) (atOf qs j) = some d ∧ d ≤ mo
  most : mo = 1 ∨ ∃ (j : Nat) (m : Mp), T.ms[j]? = some m ∧ distM m (atOf ps j) (atOf qs j) = some mo
  le : mo ≤ 3
theorem MostP.zero (T : Tm) (ps qs : List Nat) : MostP T ps qs 0 1 := ⟨by omega, fun j m h => absurd h (Nat.not_lt_zero _), .inl rfl, by omega⟩
theorem MostP.next {T : Tm} {ps qs : List Nat} {k mo d : Nat} {m : Mp} (h : MostP T ps qs k mo) (hm : T.ms[k]? = some m) (hd : distM m (atOf ps k) (atOf qs k) = some d) (h3 : d ≤ 3) : MostP T ps qs (k + 1) (max mo d) := by
  refine ⟨by have := h.one; omega, fun j m' hj hm' => ?_, ?_, by have := h.le; omega⟩
  · rcases Nat.lt_or_ge j k with h1 | h1
    · obtain ⟨d', h2, h3⟩ := h.all j m' h1 hm'
      exact ⟨d', h2, by omega⟩
    · have e : j = k := by omega
      subst e
      rw [hm] at hm'
      injection hm' with hm'
      subst hm'
      exact ⟨d, hd, by omega⟩
  · rcases Nat.le_total d mo with h1 | h1
    · rw [Nat.max_eq_left h1]; exact h.most
    · rw [Nat.max_eq_right h1]; exact .inr ⟨k, m, hm, hd⟩
theorem dist_le {m : Mp} (hM : MadeM m) {x y d : Nat} (hx : x < m.n) (hy : y < m.n) (h : distM m x y = some d) : d ≤ 3 := by
  cases d with
  | zero => omega
  | succ q => have := ((good_of (made_good hM) hy).step x q hx h).1; omega
theorem solve_cost (om oa ob : Option Addr) (cm ca cb k : Nat) (T : Tm) (ps qs : List Nat) (X : World) (hO : TeamOk T) (hmk : ∀ m ∈ T.ms, MadeM m) (hp : InR T ps) (hq : InR T qs) (hT : TeamAt X om none (costT T k)) (hA : Sl X oa 1 (nvals ps)) (hB : Sl X ob 1 (nvals qs)) :
    Calls Try.prog 12 #[.agg #[.slice om T.ms.length cm, .slice none 0 0], .slice oa T.ms.length ca, .slice ob qs.length cb, .int .i64 9] X (SolR (costT T k) ps qs 9 X) := by
  have h := solve_any om none oa ob cm 0 ca cb (costT T k) ps qs 9 X (costT_ok hO k) (costT_inr hp k) (costT_inr hq k) (fun m hm => ⟨(costT_made hmk k m hm).n4.2, (costT_made hmk k m hm).n6⟩) hT hA hB (by omega) (by omega)
  unfold Tm.val at h
  rw [costT_len, hp.1] at h
  exact h
theorem ed_low {T : Tm} {w W W' : World} (h : Below w.heap.size w W) (k : Tch (EdB T) W W') (hg : ∀ b, EdB T b → w.heap.size ≤ b) : Below w.heap.size w W' :=
  ⟨k.os.trans h.os, k.tape.trans h.tape, k.output.trans h.output, Nat.le_trans h.size k.size, fun b hb => (k.block b (Nat.lt_of_lt_of_le hb h.size) (fun e => by have := hg b e; omega)).trans (h.block b hb)⟩
theorem ShortP.one {m : Mp} {x y : Nat} {w W : World} {e : Ending} (h : ShortP m x y w e W) : ∃ (og : Option Addr) (n c : Nat) (co : Int) (ok : Bool), e = .returned (.tuple #[.agg #[.slice og n c, .int .i64 co], .bool ok]) ∧ Below w.heap.size w W ∧ ((ok = false ∧ distM m x y = none) ∨ (ok = true ∧ ∃ d, distM m x y = some d ∧ n = d + 1)) := by
  obtain ⟨hb, ⟨h1, h2⟩ | ⟨d, ov, cv, h1, h2⟩⟩ := h
  · exact ⟨none, 0, 0, 0, false, h1, hb, .inl ⟨rfl, h2⟩⟩
  · exact ⟨ov, d + 1, cv, d, true, h1, hb, .inr ⟨rfl, d, h2, rfl⟩⟩
set_option maxRecDepth 100000 in
set_option maxHeartbeats 4000000 in
theorem jfree_any (o1 o2 o3 : Option Addr) (c1 c2 c3 : Nat) (xs ys zs : List Int) (w : World) (h1 : Sl w o1 1 (pvals xs)) (h2 : Sl w o2 1 (pvals ys)) (h3 : Sl w o3 1 (pvals zs)) (lx : xs.length ≤ 9223372036854775807) (ly : ys.length ≤ 9223372036854775807) (lz : zs.length ≤ 9223372036854775807) :
    Calls Try.prog 6 #[.slice o1 xs.length c1, .slice o2 ys.length c2, .slice o3 zs.length c3] w fun e w' => e = .returned (.bool true) ∧ Below w.heap.size w w' := by
  have HTM := Lib.hid (team_any o1 c1 xs w h1 lx)
  go_enter Try.func6, Try.ntmps6
  go_wp2_with fail
  refine HTM.out.mono ?_
  rintro e W1 ⟨T, om, oc, cm, cc, base, rfl, hO, hmk, hT, hD, hbs, hb⟩
  unfold Tm.val
  replace h2 := h2.keep hb
  replace h3 := h3.keep hb
  have HB1 := Lib.hid hb
  have HO := Lib.hid hO
  have HMK := Lib.hid hmk
  have HD := Lib.hid hD
  have HBS := Lib.hid hbs
  have hel : ∀ b, EdB T b → b < W1.heap.size ∧ base ≤ b := fun b ⟨m, hm, hb⟩ => own_lt (hD.own m hm) b hb
  have hom : ∀ b off s, om = some ⟨b, off, s⟩ → ¬ EdB T b := fun b off s h ⟨m, hm, hb⟩ => (hD.av m hm b hb).1 (by rw [h]; rfl)
  have hcw : CW T base W1 W1 0 0 := ⟨Tch.of_below (Below.refl _ _), fun j m hm => by rw [stage_zero, if_neg (by omega)]; exact hD.own m (List.mem_of_getElem? hm)⟩
  have HEL := Lib.hid hel
  have HOM := Lib.hid hom
  have HEB : Hid (∀ b, EdB T b → w.heap.size ≤ b) := Lib.hid fun b h => Nat.le_trans hbs (hel b h).2
  clear hb h1 hO hmk HTM hD hbs hel hom
  go_upto_region 2 with fail
  have hT1 := hT
  have h21 := h2
  have h31 := h3
  have hcw1 := hcw
  have hbx_ := blks1 W1 [.slice om T.ms.length cm, .slice oc T.cs.length cc] 26
  have HBel := Lib.hid (hbx_.2)
  have hod : W1.heap.size ≤ W1.heap.size := by omega
  generalize W1.alloc (.cells #[.slice om T.ms.length cm, .slice oc T.cs.length cc] 26) = W2 at hbx_ HBel ⊢
  obtain ⟨r7, hbel_⟩ := hbx_
  obtain ⟨n7, hn_⟩ : ∃ n, n = W1.heap.size := ⟨_, rfl⟩
  rw [← hn_] at r7 ⊢
  replace hod := Nat.le_of_eq hn_.symm
  clear hn_ hbel_
  have hbel7 := HBel.out
  clear hT h2 h3 hcw HBel
  have x0 := r7.c 0 _ rfl
  have x1 := r7.c 1 _ rfl
  have f1 := r7.f 1
  have l7 := r7.lt
  go_upto_region 3 with fail
  clear x0 x1 f1
  have r7b : Blk (W2.setCell ⟨n7, 1, none⟩ (.slice none 0 0)) n7 [.slice om T.ms.length cm, .slice none 0 0] := r7.put 1 _
  have hb3 : Below W1.heap.size W1 (W2.setCell ⟨n7, 1, none⟩ (.slice none 0 0)) := hbel7.setCell (p := ⟨n7, 1, none⟩) hod _
  have hb3w : Below w.heap.size w (W2.setCell ⟨n7, 1, none⟩ (.slice none 0 0)) := below_call HB1.out hb3
  generalize W2.setCell ⟨n7, 1, none⟩ (.slice none 0 0) = W3 at r7b hb3 hb3w ⊢
  have hT := hT1.keep hb3
  have h2 := h21.keep hb3
  have h3 := h31.keep hb3
  have hcw := hcw1.keep hb3
  have HB := Lib.hid hb3w
  have HT := Lib.hid hT
  have H2 := Lib.hid h2
  have H3 := Lib.hid h3
  have HCW := Lib.hid hcw
  have HR7 := Lib.hid r7b
  have HL3 : Hid (W1.heap.size ≤ W3.heap.size) := Lib.hid hb3.size
  have HN7 : Hid (W1.heap.size ≤ n7) := Lib.hid hod
  have l7 := r7b.lt
  have hTz : TeamAt W3 om none ⟨T.ms, []⟩ := ⟨hT.ms, fun h => absurd rfl h, hT.es⟩
  have hOz : TeamOk ⟨T.ms, []⟩ := ⟨HO.out.n1, HO.out.n2, HO.out.mo, by simp, by simp⟩
  have hva : ∀ X, Below W3.heap.size W3 X → Calls Try.prog 10 #[.agg #[.slice om T.ms.length cm, .slice none 0 0], .slice o2 ys.length c2] X (VertP ⟨T.ms, []⟩ X) := fun X hX => verts_any om none o2 cm 0 c2 ⟨T.ms, []⟩ ys X hOz (hTz.keep hX) (H2.out.keep hX) ly
  have hvb : ∀ X, Below W3.heap.size W3 X → Calls Try.prog 10 #[.agg #[.slice om T.ms.length cm, .slice none 0 0], .slice o3 zs.length c3] X (VertP ⟨T.ms, []⟩ X) := fun X hX => verts_any om none o3 cm 0 c3 ⟨T.ms, []⟩ zs X hOz (hTz.keep hX) (H3.out.keep hX) lz
  have HVA := Lib.hid hva
  have HVB := Lib.hid hvb
  have hS0 : W3.cell? ⟨n7, 0, none⟩ = some (.slice om T.ms.length cm) ∧ W3.cell? ⟨n7, 1, none⟩ = some (.slice none 0 0) ∧ Below W3.heap.size W3 W3 := ⟨r7b.c 0 _ rfl, r7b.c 1 _ rfl, Below.refl _ _⟩
  clear hva hvb hT h2 h3 hcw r7b hTz hOz hb3 hb3w r7 hT1 h21 h31 hcw1 hbel7
  go_cut [8, 9] (fun v8 v9 X => ∃ ps oa ca qs ob cb, v8 = .slice oa (List.length ps) ca ∧ v9 = .slice ob (List.length qs) cb ∧ InR T ps ∧ InR T qs ∧ Sl X oa 1 (nvals ps) ∧ Sl X ob 1 (nvals qs) ∧ (∀ a, oa = some a → W3.heap.size ≤ a.block) ∧ (∀ a, ob = some a → W3.heap.size ≤ a.block) ∧ Below W3.heap.size W3 X)
  case first =>
    go_region_held3 (fun X => X.cell? ⟨n7, 0, none⟩ = some (.slice om T.ms.length cm) ∧ X.cell? ⟨n7, 1, none⟩ = some (.slice none 0 0) ∧ Below W3.heap.size W3 X)
      (first
        | assumption
        | exact hS0
        | exact keepT9 l7 (by assumption) (by assumption)
        | exact keepT9 l7 (by assumption) (Below.refl _ _).drew)
      (first
        | (go_at_call 10
           with_reducible refine (HVA.out _ (by assumption : _ ∧ _ ∧ Below W3.heap.size W3 _).2.2).mono ?_
           rintro e Xa ⟨ps, oa, ca, rfl, hla, hra, hsa, hba, hfa⟩
           have HLA := Lib.hid hla
           have hfa2 : ∀ a, oa = some a → W3.heap.size ≤ a.block := fun a h => Nat.le_trans (by assumption : _ ∧ _ ∧ Below W3.heap.size W3 _).2.2.size (hfa a h)
           have HFA := Lib.hid hfa2
           clear hfa2
           clear hla hfa)
        | (go_at_call 10
           with_reducible refine (HVB.out _ (by assumption : _ ∧ _ ∧ Below W3.heap.size W3 _).2.2).mono ?_
           rintro e Xb ⟨qs, ob, cb, rfl, hlb, hrb, hsb, hbb, hfb⟩
           have HLB := Lib.hid hlb
           have hfb2 : ∀ a, ob = some a → W3.heap.size ≤ a.block := fun a h => Nat.le_trans (by assumption : _ ∧ _ ∧ Below W3.heap.size W3 _).2.2.size (hfb a h)
           have HFB := Lib.hid hfb2
           clear hfb2
           clear hlb hfb))
    all_goals
      have hfin := (by assumption : _ ∧ _ ∧ Below W3.heap.size W3 _).2.2
      have HRA := Lib.hid hra
      have HRB := Lib.hid hrb
      have HSA := Lib.hid hsa
      have HSB := Lib.hid hsb
      have HBA := Lib.hid hba
      have HBB := Lib.hid hbb
      clear hra hrb hsa hsb hba hbb hS0
      go_wp2_with fail
      go_meet
      first
        | exact ⟨ps, oa, ca, qs, ob, cb, rfl, rfl, ⟨HLA.out, HRA.out⟩, ⟨HLB.out, HRB.out⟩, HSA.out.keep HBB.out, HSB.out, HFA.out, HFB.out, by assumption⟩
        | exact ⟨ps, oa, ca, qs, ob, cb, rfl, rfl, ⟨HLA.out, HRA.out⟩, ⟨HLB.out, HRB.out⟩, HSA.out, HSB.out.keep HBA.out, HFA.out, HFB.out, by assumption⟩
  case rest =>
    clear hS0
    obtain ⟨ps, oa, ca, qs, ob, cb, rfl, rfl, hp, hq, hsa, hsb, hfa, hfb, hb⟩ := hcut
    obtain ⟨W4, rfl⟩ : ∃ X, X = wc := ⟨_, rfl⟩
    have HP := Lib.hid hp
    have HQ := Lib.hid hq
    have HSA := Lib.hid hsa
    have HSB := Lib.hid hsb
    have hna : ∀ b off s, oa = some ⟨b, off, s⟩ → ¬ EdB T b := fun b off s h he => by have h1 := hfa _ h; have h2 := (HEL.out b he).1; have h3 := HL3.out; simp only at h1; omega
    have hnb : ∀ b off s, ob = some ⟨b, off, s⟩ → ¬ EdB T b := fun b off s h he => by have h1 := hfb _ h; have h2 := (HEL.out b he).1; have h3 := HL3.out; simp only at h1; omega
    have hn7 : ¬ EdB T n7 := fun he => by have := (HEL.out n7 he).1; have := HN7.out; omega
    have HNA := Lib.hid hna
    have HNB := Lib.hid hnb
    have HN := Lib.hid hn7
    have hcw4 : CW T base W4 W4 0 0 := ⟨Tch.of_below (Below.refl _ _), fun j m hm => own_keep (HCW.out.own j m hm) hb⟩
    have HR4 := Lib.hid (HR7.out.keep hb)
    have HT4 := Lib.hid (HT.out.keep hb)
    have HB4 := Lib.hid (below_call HB.out hb)
    have HB43 : Hid (W3.heap.size ≤ W4.heap.size) := Lib.hid hb.size
    clear hp hq hsa hsb hfa hfb hna hnb hn7 hb HVA HVB HCW H2 H3 HR7 HT HB
    have hpl : ps.length = T.ms.length := HP.out.1
    have HPL := Lib.hid hpl
    rw [hpl]
    clear hpl
    go_wp2_with fail
    go_loopw [10, 11] (fun v i W => ∃ k mo : Nat, i = .int .i64 (k : Nat) ∧ k ≤ T.ms.length ∧ v = .int .i64 (mo : Nat) ∧ MostP T ps qs k mo ∧ CW T base W4 W k 0) (fun _ i _ => T.ms.length - (intOf i).toNat)
    case atStart => exact ⟨0, 1, rfl, Nat.zero_le _, rfl, MostP.zero T ps qs, hcw4⟩
    case round =>
      clear hcw4
      obtain ⟨k, mo, rfl, hk, rfl, hmo, hcw⟩ := hrel
      obtain ⟨Wa, rfl⟩ : ∃ X, X = wr := ⟨_, rfl⟩
      have HMO := Lib.hid hmo
      have HCW := Lib.hid hcw
      have HCW0 := Lib.hid hcw
      have r7 := hcw.tch.blk HR4.out HN.out
      have a0 : Wa.cell? ⟨n7, 0, none⟩ = some (.slice om T.ms.length cm) := r7.c 0 _ rfl
      have a1 : Wa.cell? ⟨n7, 1, none⟩ = some (.slice none 0 0) := r7.c 1 _ rfl
      have l7 := r7.lt
      have hTa := HT4.out.ms.tch hcw.tch HOM.out
      clear r7 hmo hcw
      have hn2 := HO.out.n2
      by_cases hlt : k < T.ms.length
      · obtain ⟨m, hm⟩ : ∃ m, T.ms[k]? = some m := ⟨_, List.getElem?_eq_getElem hlt⟩
        obtain ⟨bm, offm, hoe, hMr⟩ := hTa (map_ne hlt)
        rw [hoe] at a0
        have x0 : Wa.cell? ⟨bm, offm + k * 2, none⟩ = some (.slice m.op m.n m.cp) := hMr.c k _ (map_get hm) 0 _ rfl
        have x1 : Wa.cell? ⟨bm, offm + k * 2 + 1, none⟩ = some (.slice m.oe m.es.length m.ce) := hMr.c k _ (map_get hm) 1 _ rfl
        have lbm := hMr.lt
        have HM := Lib.hid hm
        have HOE := Lib.hid hoe
        clear hMr hm hTa
        go_upto_region 9 with fail
        clear x0 x1 lbm a0 a1 l7 hoe
        have hbx_ := blks1 Wa [.slice m.op m.n m.cp, .slice m.oe m.es.length m.ce] 43
        replace HCW := Lib.hid (HCW.out.keep hbx_.2)
        have hod : Wa.heap.size ≤ Wa.heap.size := by omega
        generalize Wa.alloc (.cells #[.slice m.op m.n m.cp, .slice m.oe m.es.length m.ce] 43) = Wb at hbx_ HCW ⊢
        obtain ⟨r12, hbel_⟩ := hbx_
        obtain ⟨n12, hn_⟩ : ∃ n, n = Wa.heap.size := ⟨_, rfl⟩
        rw [← hn_] at r12 ⊢
        replace hod := Nat.le_of_eq hn_.symm
        clear hn_
        have hn12 : ¬ EdB T n12 := fun he => by have h1 := (HEL.out n12 he).1; have h2 := HL3.out; have h3 := HB43.out; have h4 := HCW0.out.tch.size; omega
        have HN12 := Lib.hid hn12
        have HR12 := Lib.hid r12
        clear hod r12 hn12
        go_wp2_with fail
        go_loopw [13] (fun v W => ∃ i : Nat, v = .int .i64 (i : Nat) ∧ i ≤ m.es.length ∧ CW T base W4 W k i ∧ Blk W n12 [.slice m.op m.n m.cp, .slice m.oe m.es.length m.ce]) (fun v _ => m.es.length - (intOf v).toNat)
        case atStart => exact ⟨0, rfl, Nat.zero_le _, HCW.out, HR12.out⟩
        case round =>
          clear HCW HR12
          obtain ⟨i, rfl, hi, hcw, r12⟩ := hrel
          obtain ⟨Wc, rfl⟩ : ∃ X, X = wr := ⟨_, rfl⟩
          have HCW := Lib.hid hcw
          have HR12 := Lib.hid r12
          have a0 : Wc.cell? ⟨n12, 0, none⟩ = some (.slice m.op m.n m.cp) := r12.c 0 _ rfl
          have a1 : Wc.cell? ⟨n12, 1, none⟩ = some (.slice m.oe m.es.length m.ce) := r12.c 1 _ rfl
          have l12 := r12.lt
          clear hcw r12
          have hn6 := (HMK.out m (List.mem_of_getElem? HM.out)).n6
          by_cases hlt2 : i < m.es.length
          · obtain ⟨e, he⟩ : ∃ e, m.es[i]? = some e := ⟨_, List.getElem?_eq_getElem hlt2⟩
            have hown := HCW.out.own k m HM.out
            obtain ⟨g, c, hg⟩ := own_some hown (by omega)
            have hoe : m.oe = some ⟨g, 0, none⟩ := by
              unfold Mp.ev at hg
              injection hg
            have hce : m.ev = .slice (some ⟨g, 0, none⟩) m.es.length m.ce := by unfold Mp.ev; rw [hoe]
            have hsl : Sl Wc m.oe 12 ((stageE k i k m.es).map Ed.vals) := own_sl (ed_len _) (by rw [List.length_map, stage_len]; exact hown)
            obtain ⟨b, off, h5, hEr⟩ := hsl (map_ne (k := i) (by rw [stage_len]; exact hlt2))
            rw [hoe] at h5 a1
            injection h5 with h5
            injection h5 with h5 h6 _
            subst h5 h6
            have y2 : Wc.cell? ⟨g, i * 12 + 2, none⟩ = some (.int .i64 e.c) := by
              have := hEr.c i _ (map_get (stage_step (k := k) he).1) 2 _ rfl
              rwa [Nat.zero_add] at this
            have f2 : Wc.frozen? ⟨g, i * 12 + 2, none⟩ = false := own_frozen (by rw [hce] at hown; exact hown) (by omega) _
            have lg := hEr.lt
            have HCN := Lib.hid (HCW.out.put HD.out.apt HM.out he hce)
            have HRN := Lib.hid (HR12.out.oth (fun e' : n12 = g => HN12.out ⟨m, List.mem_of_getElem? HM.out, by rw [hce, e']; rfl⟩) (i * 12 + 2) (.int .i64 1))
            have i1 : (i : Int) < (m.es.length : Int) := by omega
            clear he hown hg hoe hce hsl hEr
            go_wp2_with fail
            go_roundw
            case rel => exact ⟨i + 1, by simp, by omega, HCN.out, HRN.out⟩
            case measure => simp [intOf]; omega
          · have hie : i = m.es.length := by omega
            have HCD := Lib.hid (HCW.out.done HM.out hie)
            clear hie HCW HCW0
            have hsa := HSA.out.tch HCD.out.tch HNA.out
            have hsb := HSB.out.tch HCD.out.tch HNB.out
            have hkp : k < ps.length := by rw [HPL.out]; exact hlt
            have hkq : k < qs.length := by rw [HQ.out.1]; exact hlt
            obtain ⟨ba, offa, rfl, hAr⟩ := hsa (nvals_ne hkp)
            obtain ⟨bb, offb, rfl, hBr⟩ := hsb (nvals_ne hkq)
            have hpa := atOf_get hkp
            have hqa := atOf_get hkq
            have hpn := atOf_lt HP.out HM.out
            have hqn := atOf_lt HQ.out HM.out
            have HDT := Lib.hid (fun d => dist_le (d := d) (HMK.out m (List.mem_of_getElem? HM.out)) hpn hqn)
            have HMN := Lib.hid (fun d => HMO.out.next (d := d) HM.out)
            generalize hp : atOf ps k = p at hpa hpn HDT HMN
            generalize hq : atOf qs k = q at hqa hqn HDT HMN
            have HPQ : Hid (atOf ps k = p ∧ atOf qs k = q) := Lib.hid ⟨hp, hq⟩
            have x0 : Wc.cell? ⟨ba, offa + k, none⟩ = some (.int .i64 (p : Nat)) := by have := hAr.c k _ (nvals_get hpa) 0 _ rfl; simpa using this
            have y0 : Wc.cell? ⟨bb, offb + k, none⟩ = some (.int .i64 (q : Nat)) := by have := hBr.c k _ (nvals_get hqa) 0 _ rfl; simpa using this
            have la := hAr.lt
            have lb := hBr.lt
            have hql : (k : Int) < (qs.length : Int) := by omega
            have hsh : ∀ X, Below Wc.heap.size Wc X → Calls Try.prog 18 #[.agg #[.slice m.op m.n m.cp, .slice m.oe m.es.length m.ce], .int .i64 (p : Nat), .int .i64 (q : Nat), .int .i64 0] X (ShortP m p q X) := fun X hX => by
              have h1 := shortest_any (costM m) p q X (costM_made (HMK.out m (List.mem_of_getElem? HM.out))) (costM_one m) hpn hqn ((HCD.out.edges HM.out).keep hX)
              have h2 : (costM m).es.length = m.es.length := by simp [costM]
              rw [h2] at h1
              unfold ShortP at h1 ⊢
              rw [costM_dist] at h1
              exact h1
            have HSH := Lib.hid hsh
            have hmk : ∀ Y, Below Wc.heap.size Wc Y → Y.cell? ⟨n12, 0, none⟩ = some (.slice m.op m.n m.cp) ∧ Y.cell? ⟨n12, 1, none⟩ = some (.slice m.oe m.es.length m.ce) ∧ Y.cell? ⟨ba, offa + k, none⟩ = some (.int .i64 (p : Nat)) ∧ Y.cell? ⟨bb, offb + k, none⟩ = some (.int .i64 (q : Nat)) ∧ Below Wc.heap.size Wc Y := fun Y hY => ⟨(hY.cell (p := ⟨n12, 0, none⟩) l12).trans a0, (hY.cell (p := ⟨n12, 1, none⟩) l12).trans a1, (hY.cell (p := ⟨ba, offa + k, none⟩) la).trans x0, (hY.cell (p := ⟨bb, offb + k, none⟩) lb).trans y0, hY⟩
            have hS := hmk Wc (Below.refl _ _)
            have HMK2 := Lib.hid hmk
            clear hsa hsb hkp hkq hAr hBr hpa hqa hp hq hsh hmk a0 a1 x0 y0
            go_upto_region 13 with fail
            go_cut [14, 15] (fun v14 v15 X => ∃ (n14 : Nat) (og : Option Addr) (n c : Nat) (co : Int) (ok : Bool), v14 = .pointer (some ⟨n14, 0, none⟩) ∧ v15 = .bool ok ∧ Blk X n14 [.slice og n c, .int .i64 co] ∧ Below Wc.heap.size Wc X ∧ ((ok = false ∧ distM m p q = none) ∨ (ok = true ∧ ∃ d, distM m p q = some d ∧ n = d + 1)))
            case first =>
              go_region_held3 (fun X => X.cell? ⟨n12, 0, none⟩ = some (.slice m.op m.n m.cp) ∧ X.cell? ⟨n12, 1, none⟩ = some (.slice m.oe m.es.length m.ce) ∧ X.cell? ⟨ba, offa + k, none⟩ = some (.int .i64 (p : Nat)) ∧ X.cell? ⟨bb, offb + k, none⟩ = some (.int .i64 (q : Nat)) ∧ Below Wc.heap.size Wc X)
                (first
                  | assumption
                  | exact hS
                  | exact HMK2.out _ (by assumption : _ ∧ _ ∧ _ ∧ _ ∧ Below Wc.heap.size Wc _).2.2.2.2.drew
                  | exact HMK2.out _ ((by assumption : _ ∧ _ ∧ _ ∧ _ ∧ Below Wc.heap.size Wc _).2.2.2.2.alloc (by assumption : _ ∧ _ ∧ _ ∧ _ ∧ Below Wc.heap.size Wc _).2.2.2.2.size _).drew
                  | exact HMK2.out _ ((by assumption : _ ∧ _ ∧ _ ∧ _ ∧ Below Wc.heap.size Wc _).2.2.2.2.alloc (by assumption : _ ∧ _ ∧ _ ∧ _ ∧ Below Wc.heap.size Wc _).2.2.2.2.size _)
                  | exact HMK2.out _ (((by assumption : _ ∧ _ ∧ _ ∧ _ ∧ Below Wc.heap.size Wc _).2.2.2.2.setCell (p := ⟨_, 0, none⟩) (Nat.le_refl _) _).setCell (p := ⟨_, 1, none⟩) (Nat.le_refl _) _)
                  | exact HMK2.out _ (((by assumption : _ ∧ _ ∧ _ ∧ _ ∧ Below Wc.heap.size Wc _).2.2.2.2.setCell (p := ⟨_, 0, none⟩) (Nat.le_refl _) _).setCell (p := ⟨_, 1, none⟩) (Nat.le_refl _) _).drew)
                (first
                  | (go_at_call 18
                     with_reducible refine (HSH.out _ (by assumption : _ ∧ _ ∧ _ ∧ _ ∧ Below Wc.heap.size Wc _).2.2.2.2).mono ?_
                     rintro e Xa hans0
                     obtain ⟨og, n, c, co, ok, rfl, hba, hans⟩ := ShortP.one hans0
                     have hSa := HMK2.out _ (below_call (by assumption : _ ∧ _ ∧ _ ∧ _ ∧ Below Wc.heap.size Wc _).2.2.2.2 hba)
                     have hbk : Blk Xa Wc.heap.size [.slice none 0 0, .int .i64 0] := (Blk.new Wc [.slice none 0 0, .int .i64 0] 56).keep ((Below.refl _ _).drew.trans hba)
                     have k0 := hbk.c 0 _ rfl
                     have k1 := hbk.c 1 _ rfl
                     have g0 := hbk.f 0
                     have g1 := hbk.f 1
                     have l14 := hbk.lt
                     have HBK := Lib.hid hbk
                     have HANS := Lib.hid hans
                     clear hans0 hans hbk hba)
                  | (go_at_call 18
                     with_reducible refine (HSH.out _ (by assumption : _ ∧ _ ∧ _ ∧ _ ∧ Below Wc.heap.size Wc _).2.2.2.2).mono ?_
                     rintro e Xa hans0
                     obtain ⟨og, n, c, co, ok, rfl, hba, hans⟩ := ShortP.one hans0
                     have hSa := HMK2.out _ (below_call (by assumption : _ ∧ _ ∧ _ ∧ _ ∧ Below Wc.heap.size Wc _).2.2.2.2 hba)
                     have HANS := Lib.hid hans
                     clear hans0 hans hba))
              all_goals
                have HSA2 := Lib.hid hSa
                clear hSa hS
                go_wp2_with fail
                go_meet
                first
                  | exact ⟨Xa.heap.size, og, n, c, co, ok, rfl, rfl, Blk.new Xa [.slice og n c, .int .i64 co] 56, HSA2.out.2.2.2.2.alloc HSA2.out.2.2.2.2.size _, HANS.out⟩
                  | exact ⟨Wc.heap.size, og, n, c, co, ok, rfl, rfl, (HBK.out.put 0 _).put 1 _, (HSA2.out.2.2.2.2.setCell (p := ⟨Wc.heap.size, 0, none⟩) (Nat.le_refl _) _).setCell (p := ⟨Wc.heap.size, 1, none⟩) (Nat.le_refl _) _, HANS.out⟩
            case rest =>
              clear hS
              obtain ⟨n14, og, n, c, co, ok, rfl, rfl, r14, hb, hans⟩ := hcut
              obtain ⟨Wd, rfl⟩ : ∃ X, X = wc := ⟨_, rfl⟩
              have hcwd := HCD.out.keep hb
              have HCWD := Lib.hid hcwd
              have HR14 := Lib.hid r14
              clear HSH HMK2 hcwd r14 hb la lb l12 hql
              rcases hans with ⟨rfl, hd⟩ | ⟨rfl, d, hd, rfl⟩
              · have HNO : Hid (∀ n, ¬ LReach (costT T (k + 1)) ps n qs) := Lib.hid (fun n h => by
                  obtain ⟨d, h1, -⟩ := (free_reach HO.out HMK.out HP.out HQ.out (k + 1) n).1 h k m HM.out
                  rw [HPQ.out.1, HPQ.out.2, hd] at h1
                  cases h1)
                have r7 := HCWD.out.tch.blk HR4.out HN.out
                have a0 : Wd.cell? ⟨n7, 0, none⟩ = some (.slice om T.ms.length cm) := r7.c 0 _ rfl
                have a1 : Wd.cell? ⟨n7, 1, none⟩ = some (.slice none 0 0) := r7.c 1 _ rfl
                have l7 := r7.lt
                have hsol := solve_cost om (some ⟨ba, offa, none⟩) (some ⟨bb, offb, none⟩) cm ca cb (k + 1) T ps qs Wd HO.out HMK.out HP.out HQ.out (HCWD.out.team HT4.out HOM.out) (HSA.out.tch HCWD.out.tch HNA.out) (HSB.out.tch HCWD.out.tch HNB.out)
                have HSOL := Lib.hid hsol
                clear hd r7 hsol
                go_wp2_with fail
                with_reducible refine HSOL.out.mono ?_
                rintro e We ⟨hb, ⟨rfl, -⟩ | ⟨gp, rows, rfl, hrl, hLL, n', P, hn1', hn2', rfl, hP, hmin⟩⟩
                · have HWE := Lib.hid (below_call (ed_low HB4.out HCWD.out.tch HEB.out) hb)
                  clear hb a0 a1 l7 HSOL
                  go_wp2_with fail
                  with_reducible refine (Try.awake _).mono ?_
                  rintro e X ⟨rfl, hb⟩
                  have HX := Lib.hid hb
                  clear hb
                  go_wp2_with fail
                  go_ret
                  exact ⟨rfl, below_call HWE.out HX.out⟩
                · exact absurd (plan_reach hP) (HNO.out n')
              · have hd3 := HDT.out d hd
                have hnx := HMN.out d hd hd3
                have HNX := Lib.hid hnx
                have r14 := HR14.out
                have a0 : Wd.cell? ⟨n14, 0, none⟩ = some (.slice og (d + 1) c) := r14.c 0 _ rfl
                have l14 := r14.lt
                have hw1 : IntKind.i64.wrap ((d : Int) + 1 - 1) = (d : Int) := by rw [IntWalk.i64_in _ (by omega)]; omega
                have hw2 : IntKind.i64.wrap (d : Int) = (d : Int) := IntWalk.i64_in _ (by omega)
                clear r14 hnx hd
                go_wp2_with fail
                go_roundw
                case rel => exact ⟨k + 1, max mo d, by simp, by omega, by congr 1; omega, HNX.out, HCWD.out⟩
                case measure => simp [intOf]; omega
      · obtain rfl : k = T.ms.length := by omega
        have hreach : LReach (costT T T.ms.length) ps mo qs := (free_reach HO.out HMK.out HP.out HQ.out T.ms.length mo).2 fun j m hm => HMO.out.all j m (List.getElem?_eq_some_iff.1 hm).1 hm
        have HRE := Lib.hid hreach
        have hsol := solve_cost om oa ob cm ca cb T.ms.length T ps qs Wa HO.out HMK.out HP.out HQ.out (HCW.out.team HT4.out HOM.out) (HSA.out.tch HCW.out.tch HNA.out) (HSB.out.tch HCW.out.tch HNB.out)
        have HSOL := Lib.hid hsol
        clear hreach hsol hTa
        go_wp2_with fail
        with_reducible refine HSOL.out.mono ?_
        rintro e W5 ⟨hb, ⟨rfl, hno⟩ | ⟨gp, rows, rfl, hrl, hLL, n', P, hn1', hn2', rfl, hP, hmin⟩⟩
        · exact absurd HRE.out (hno mo HMO.out.one (by have := HMO.out.le; omega))
        · have hle : n' ≤ mo := by
            rcases Nat.lt_or_ge mo n' with h | h
            · exact absurd HRE.out (hmin mo HMO.out.one h)
            · exact h
          have hge : mo ≤ n' := by
            rcases HMO.out.most with h | ⟨j, m, hm, hd⟩
            · omega
            · obtain ⟨d, h1, h2⟩ := (free_reach HO.out HMK.out HP.out HQ.out T.ms.length n').1 (plan_reach hP) j m hm
              rw [hd] at h1
              injection h1 with h1
              omega
          obtain rfl : n' = mo := by omega
          rw [costT_len] at hrl hLL
          obtain ⟨row, hrow0⟩ : ∃ row, (rowsP T.ms.length n' P)[0]? = some row := ⟨_, List.getElem?_eq_getElem (by rw [hrl]; exact HO.out.n1)⟩
          have hrl1 := rowsP_len row (List.mem_of_getElem? hrow0)
          obtain ⟨vs, hSl, hvl, hvr⟩ := hLL
          obtain ⟨v0, hv0⟩ : ∃ v, vs[0]? = some v := ⟨_, List.getElem?_eq_getElem (by rw [hvl, hrl]; exact HO.out.n1)⟩
          obtain ⟨o0, c0, rfl, -⟩ := hvr 0 v0 row hv0 hrow0
          obtain ⟨bg, offg, hgp, hGr⟩ := hSl (map_ne (k := 0) (by rw [hvl, hrl]; exact HO.out.n1))
          injection hgp with hgp
          injection hgp with hg1 hg2 _
          subst hg1 hg2
          have x0 : W5.cell? ⟨gp, 0, none⟩ = some (.slice o0 (n' + 1) c0) := by
            have := hGr.c 0 _ (map_get hv0) 0 _ rfl
            rw [hrl1] at this
            simpa using this
          have lx := hGr.lt
          have HW5 := Lib.hid (below_call (ed_low HB4.out HCW.out.tch HEB.out) hb)
          have HX0 := Lib.hid x0
          have HLX := Lib.hid lx
          have hlen := costT_len T T.ms.length
          have HLN := Lib.hid hlen
          rw [hlen]
          have hN1 : 0 < T.ms.length := HO.out.n1
          have hN2 : ¬ T.ms.length = 0 := by omega
          have hN0 : (0 : Int) < (T.ms.length : Int) := by omega
          have hmo3 := HMO.out.le
          clear hb hle hge hrow0 hrl1 hvl hvr hv0 hSl hGr hrl hP hmin x0 lx a0 a1 l7 HSOL hlen
          go_wp2_with fail
          with_reducible refine (Try.awake _).mono ?_
          rintro e W6 ⟨rfl, hb⟩
          have x0 := (hb.cell (p := ⟨gp, 0, none⟩) HLX.out).trans HX0.out
          have lx := Nat.lt_of_lt_of_le HLX.out hb.size
          have HW6 := Lib.hid (below_call HW5.out hb)
          clear hb
          go_wp2_with fail
          go_ret
          exact ⟨rfl, HW6.out⟩
end Go.Proofs.Jn
end

section
/-
  What the readings of the arguments say of memory.
-/
namespace Go.Proofs.Jn
open Go.RowKit
theorem list_of {A : Type} (P : Nat → A → Prop) : ∀ n : Nat, (∀ i, i < n → ∃ r, P i r) → ∃ rs : List A, rs.length = n ∧ ∀ (i : Nat) (r : A), rs[i]? = some r → P i r
  | 0, _ => ⟨[], rfl, fun i r h => by simp at h⟩
  | n + 1, h => by
    obtain ⟨rs, hl, hr⟩ := list_of P n fun i hi => h i (by omega)
    obtain ⟨r, hp⟩ := h n (by omega)
    refine ⟨rs ++ [r], by simp [hl], fun i r' hi => ?_⟩
    rcases Nat.lt_or_ge i rs.length with hlt | hge
    · rw [List.getElem?_append_left hlt] at hi
      exact hr i r' hi
    · rw [List.getElem?_append_right hge] at hi
      have : i = n := by
        rcases Nat.eq_or_lt_of_le hge with h | h
        · omega
        · rw [List.getElem?_eq_none (by simp; omega)] at hi; cases hi
      subst this
      have e : i - rs.length = 0 := by omega
      rw [e] at hi
      simp at hi
      subst hi
      exact hp

/-- A slice that is read lies in memory, row for row. -/
theorem open_rows {H : Type} {enc : TypeId × Value → H} {P : Program} {w : World} {base : Nat} {spare : Nat → Bool} {held : Bool} {A : Type} (f : A → List Value) {t e : TypeId} {n fuel : Nat} {v : Value} {x : DataW H × List MemPlace} (ht : P.underlying t = some (.slice e)) (hc : P.cellsOf e = n) (hn : 0 < n)
    (hrow : ∀ (m : Nat) (cs : List Value) (y : DataW H × List MemPlace), DataW.trod enc P w base spare held m e cs = some y → ∃ r : A, cs = f r)
    (h : DataW.trod enc P w base spare held fuel t [v] = some x) : ∃ (oa : Option Addr) (cap : Nat) (rs : List A), v = .slice oa rs.length cap ∧ rs.length ≤ 9223372036854775807 ∧ Sl w oa n (rs.map f) := by
  rcases Go.Deep.open_slice ht h with ⟨h0, _⟩ | ⟨a, len, cap, m, k, D, Pl, h1, hb, hl, hm, hmm, _, hx⟩
  · injection h0 with h0 _
    subst h0
    exact ⟨none, 0, [], rfl, by simp, fun h => absurd rfl h⟩
  · injection h1 with h1 _
    subst h1
    have hlm : len ≤ m := by rw [hmm]; split <;> omega
    obtain ⟨rs, hrl, hr⟩ := list_of (fun i r => w.cells? base (a.add (i * n)) n = some (f r)) len (fun i hi => by
      obtain ⟨cs, c1, c2⟩ := hx i (by omega)
      rw [hc] at c1
      obtain ⟨r, rfl⟩ := hrow _ _ _ c2
      exact ⟨r, c1⟩)
    subst hrl
    refine ⟨some a, cap, rs, rfl, by unfold maxLen at hm; omega, fun hne => ?_⟩
    have hne' : rs ≠ [] := fun h => hne (by simp [h])
    have cell : ∀ (i : Nat) (r : A), rs[i]? = some r → ∀ q u, (f r)[q]? = some u → w.cell? ((a.add (i * n)).add q) = some u := by
      intro i r hi q u hq
      obtain ⟨_, c2, c3⟩ := World.cells?_some (hr i r hi)
      have hqn : q < n := by
        rcases Nat.lt_or_ge q (f r).length with h' | h'
        · omega
        · rw [List.getElem?_eq_none h'] at hq; cases hq
      rw [c3 q hqn, hq]
    -- the slice's address has no spot
    have sp : a.spot = none := by
      cases rs with
      | nil => exact absurd rfl hne'
      | cons r0 rt =>
        obtain ⟨_, c2, c3⟩ := World.cells?_some (hr 0 r0 rfl)
        have c4 := c3 0 hn
        have : (f r0)[0]? = some ((f r0)[0]'(by omega)) := List.getElem?_eq_getElem _
        rw [this] at c4
        cases hs : a.spot with
        | none => rfl
        | some s =>
          exfalso
          have e0 : ((a.add (0 * n)).add 0) = a := by simp [Addr.add]
          rw [e0] at c4
          unfold World.cell? at c4
          rw [hs] at c4
          revert c4
          cases w.heap[a.block]? with
          | none => simp
          | some o => cases o <;> simp
    obtain ⟨b, off, sp'⟩ := a
    simp at sp
    subst sp
    refine ⟨b, off, rfl, ?_, fun i r hi q u hq => ?_⟩
    · cases rs with
      | nil => exact absurd rfl hne'
      | cons r0 rt =>
        obtain ⟨_, c2, c3⟩ := World.cells?_some (hr 0 r0 rfl)
        have c4 := c3 0 hn
        have : (f r0)[0]? = some ((f r0)[0]'(by omega)) := List.getElem?_eq_getElem _
        rw [this] at c4
        rcases Nat.lt_or_ge b w.heap.size with h' | h'
        · exact h'
        · exfalso
          have e0 : (((⟨b, off, none⟩ : Addr).add (0 * n)).add 0) = ⟨b, off, none⟩ := by simp [Addr.add]
          rw [e0] at c4
          simp [World.cell?, Array.getElem?_eq_none h'] at c4
    · rw [List.getElem?_map] at hi
      cases hri : rs[i]? with
      | none => rw [hri] at hi; cases hi
      | some r' =>
        rw [hri] at hi
        simp at hi
        subst hi
        rw [← cell i r' hri q u hq]
        congr 1
        simp only [Addr.add]
        split <;> split <;> simp_all <;> omega

theorem row_int {H : Type} {enc : TypeId × Value → H} {w : World} {base : Nat} {spare : Nat → Bool} {held : Bool} (e : TypeId) (hu : Try.prog.underlying e = some (.int .i64)) (m : Nat) (cs : List Value) (y : DataW H × List MemPlace) (h : DataW.trod enc Try.prog w base spare held m e cs = some y) : ∃ r : Int, cs = [.int .i64 r] := by
  obtain ⟨n, rfl, _⟩ := DataW.trod_int hu h
  exact ⟨n, rfl⟩
theorem clo3 : Try.prog.cellsOf 3 = 1 := by kernel_rfl
theorem open_nums {H : Type} {enc : TypeId × Value → H} {w : World} {base : Nat} {spare : Nat → Bool} {held : Bool} {t e : TypeId} {fuel : Nat} {v : Value} {x : DataW H × List MemPlace} (ht : Try.prog.underlying t = some (.slice e)) (hu : Try.prog.underlying e = some (.int .i64)) (hc : Try.prog.cellsOf e = 1)
    (h : DataW.trod enc Try.prog w base spare held fuel t [v] = some x) : ∃ (oa : Option Addr) (cap : Nat) (rs : List Int), v = .slice oa rs.length cap ∧ rs.length ≤ 9223372036854775807 ∧ Sl w oa 1 (pvals rs) :=
  open_rows (fun p : Int => [.int .i64 p]) ht hc (by omega) (row_int e hu) h
theorem laidOut : laidOutB Try.prog = true := by kernel_rfl
open Go.ChangeShapes Go.WideShapes Go.ChangeAt
set_option linter.unusedVariables false
/-- The post, of a world of which it is known that nothing that stood before has changed. -/
theorem post_below {H : Type} {enc : TypeId × Value → H} {P : Program} {f : Func} {s : ChangeSpec} {apart fresh handsOn again : Bool} {W W' : World} {args : Array Value} {v : Value} {ds gs : List (DataW H)} {before pa pv : List MemPlace}
    (hW : DataW.Whole enc P f.params.toList s.vars apart W args.toList ds gs before)
    (hres : ∀ (b : Nat) (sp : Nat → Bool) (hd : Bool), DataW.TrodAll enc P W' b sp hd f.resultTypes.toList (v.resultList f.resultTypes.size) (s.fn H (ds ++ gs)).results [])
    (hargs : ∀ sp : Nat → Bool, (∀ p ∈ before, sp p.block = true) → DataW.TrodAll enc P W' 0 sp true f.params.toList args.toList (s.fn H (ds ++ gs)).args pa)
    (hvars : ∀ sp : Nat → Bool, (∀ p ∈ before, sp p.block = true) → DataW.TrodVars enc P W' sp s.vars (s.fn H (ds ++ gs)).vars pv)
    (hps : before = pa ++ pv) (hb : Below W.heap.size W W')
    (hok : ∀ (j : Nat) (t : TypeId) (r : Value), f.resultTypes[j]? = some t → (v.resultList f.resultTypes.size)[j]? = some r → Value.okWide P W' .any 0 t r) :
    s.post enc P f apart fresh handsOn again W args v W' := by
  have hlt : ∀ p ∈ before, p.block < W.heap.size := fun p hp => hW.lt p hp
  have hold : ∀ p ∈ before, (fun b => decide (b < W.heap.size)) p.block = true := fun p hp => by simpa using hlt p hp
  refine ⟨ds, gs, before, [], pa, pv, hW, hres _ _ _, hargs _ hold, hvars _ hold, World.keptBut_mono (fun p hp => ⟨hp, ?_⟩) (hb.frame (· ∈ before)), fun _ => ?_⟩
  · rw [hps, List.mem_append] at hp
    exact Or.inr hp
  · obtain ⟨_, _, _, _, _, hz, hn⟩ := hW
    refine ⟨hok, _, _, ([] ++ pa) ++ pv, ⟨[] ++ pa, pv, trodAll_append (hargs _ (fun _ _ => rfl)) (hres _ _ _), hvars _ (fun _ _ => rfl), rfl, ?_, ?_⟩, ?_⟩
    · intro b off hp
      have hin : MemPlace.cell b off ∈ before := by rw [hps]; simpa using hp
      rw [hb.frozen (hlt _ hin)]
      exact hz b off hin
    · intro ha
      have := hn ha
      rw [hps] at this
      simpa using this
    · intro p hp _
      rw [hps]
      simpa using hp


/-- What was read reads as it did. -/
theorem stays {H : Type} {enc : TypeId × Value → H} {P : Program} (hl : laidOutB P = true) {W W' : World} {sp' : Nat → Bool} : ∀ (ts : List TypeId) (vs : List Value) (ds : List (DataW H)) (ps : List MemPlace), (∀ t ∈ ts, P.readableRec t = true ∧ t < P.types.size) →
    DataW.TrodAll enc P W 0 (fun _ => true) true ts vs ds ps → (∀ p ∈ ps, W.sameAt W' p) → (∀ p ∈ ps, sp' p.block = true) → DataW.TrodAll enc P W' 0 sp' true ts vs ds ps
  | [], [], [], ps, _, h, _, _ => h
  | t :: ts, v :: vs, d :: ds, ps, ht, h, h1, h2 => by
    obtain ⟨p, q, a, b, rfl⟩ := h
    exact ⟨p, q, WideElems.Trod_stays hl (ht t (by simp)).1 (ht t (by simp)).2 a (fun x hx => h1 x (by simp [hx])) (fun x hx => h2 x (by simp [hx])), stays hl ts vs ds q (fun t h => ht t (by simp [h])) b (fun x hx => h1 x (by simp [hx])) (fun x hx => h2 x (by simp [hx])), rfl⟩
  | [], _ :: _, _, _, _, h, _, _ => by simp [DataW.TrodAll] at h
  | [], [], _ :: _, _, _, h, _, _ => by simp [DataW.TrodAll] at h
  | _ :: _, [], _, _, _, h, _, _ => by simp [DataW.TrodAll] at h
  | _ :: _, _ :: _, [], _, _, h, _, _ => by simp [DataW.TrodAll] at h

theorem own37 : ownKnob Try.prog.godebug = none := by kernel_rfl
theorem read22 : Try.prog.readableRec 22 = true ∧ 22 < Try.prog.types.size := ⟨by kernel_rfl, of_decide_eq_true (by kernel_rfl)⟩
theorem read3 : Try.prog.readableRec 3 = true ∧ 3 < Try.prog.types.size := ⟨by kernel_rfl, of_decide_eq_true (by kernel_rfl)⟩
end Go.Proofs.Jn
end

