/-
  Texts put together: Dn Do Dp Dq Dr Ds Dt Du.
-/
import Derived.Test.YteeeogdfnpdpcaaGreatZNeighborFinds19
import Derived.Test.YteeeogdfnpdpcaaGreatZNeighborFinds20
set_option linter.unusedVariables false
section
/-
  Walks: what fits.
-/
namespace Go.Proofs.Ng
open Go.RowKit

def FitsP (js : List JV) (ms : List MV) (pts : List (List Int)) (t : List Nd) (q : List Int) : Prop :=
  okR js ms ∧ q.length = js.length ∧ smallB q = true ∧ KdOk pts t ∧ (pts = [] ∨ dimP pts = js.length)
set_option maxRecDepth 100000 in
set_option maxHeartbeats 2000000 in
theorem fits38 (oj om op ot oq : Option Addr) (cj cm cp ct cq : Nat) (js : List JV) (ms : List MV) (pts : List (List Int)) (t : List Nd) (q : List Int) (w : World)
    (hj : js.length ≤ 100) (hl : ms.length ≤ 9223372036854775807) (hJ : Sl w oj 12 (js.map JV.vals)) (hM : Sl w om 5 (ms.map MV.vals)) (hP : Pts w op pts) (hT : Sl w ot 4 (t.map Nd.vals)) (hQ : Sl w oq 1 (pvals q)) (htl : t.length ≤ 100000) (hpl : pts.length ≤ 100000) (hql : q.length ≤ 100000) :
    Calls Tryz.prog 34 #[.agg #[.slice oj js.length cj, .slice om ms.length cm], .slice op pts.length cp, .slice ot t.length ct, .slice oq q.length cq] w (VerP (FitsP js ms pts t q) w) := by
  have HC := Lib.hid (fun (X : World) (hX : Below w.heap.size w X) => check_any oj om cj cm js ms X hj hl (hJ.keep hX) (hM.keep hX))
  have HS := Lib.hid (fun (X : World) (hX : Below w.heap.size w X) => small55 oq cq q X (hQ.keep hX) (by omega))
  have HV := Lib.hid (fun (X : World) (hX : Below w.heap.size w X) => valid13 op ot cp ct pts t X (hP.keep hX) (hT.keep hX) htl hpl)
  have HP := Lib.hid hP
  clear hJ hM hP hT hQ hl htl
  go_enter Tryz.func34, Tryz.ntmps34
  go_upto_region 1 with fail
  have hbx_ := blks1 w [.slice oj js.length cj, .slice om ms.length cm] 25
  have HB := Lib.hid (hbx_.2)
  generalize w.alloc (.cells #[.slice oj js.length cj, .slice om ms.length cm] 25) = W1 at hbx_ HB ⊢
  obtain ⟨r4, hbel_⟩ := hbx_
  obtain ⟨b4, hn_⟩ : ∃ n, n = w.heap.size := ⟨_, rfl⟩
  rw [← hn_] at r4 ⊢
  clear hn_ hbel_
  have HR := Lib.hid r4
  have HCC := Lib.hid (HC.out W1 HB.out)
  have a0 : W1.cell? ⟨b4, 0, none⟩ = some (.slice oj js.length cj) := r4.c 0 _ rfl
  have a1 : W1.cell? ⟨b4, 1, none⟩ = some (.slice om ms.length cm) := r4.c 1 _ rfl
  have l4 := r4.lt
  clear r4
  go_wp2_with fail
  clear a0 a1 l4
  with_reducible refine HCC.out.mono ?_
  rintro e W2 ⟨c, rfl, hc, hb⟩
  have HB2 := Lib.hid (below_call HB.out hb)
  have HR2 := Lib.hid (HR.out.keep hb)
  clear hb HC HCC HR
  by_cases hc0 : c = 0
  · have hok := hc.1 hc0
    have hcn : (c != 0) = false := by simp [hc0]
    by_cases hq : q.length = js.length
    · have hqn : ((q.length : Int) != (js.length : Int)) = false := by simp [hq]
      have HSS := Lib.hid (HS.out W2 HB2.out)
      have HOK := Lib.hid hok
      have HQ := Lib.hid hq
      clear hok hq hc
      have a0 : W2.cell? ⟨b4, 0, none⟩ = some (.slice oj js.length cj) := HR2.out.c 0 _ rfl
      have a1 : W2.cell? ⟨b4, 1, none⟩ = some (.slice om ms.length cm) := HR2.out.c 1 _ rfl
      have l4 := HR2.out.lt
      go_wp2_with fail
      clear a0 a1 l4
      with_reducible refine HSS.out.mono ?_
      rintro e W3 ⟨rfl, rfl⟩
      cases hsm : smallB q with
      | false =>
        have HNO : Hid (¬ FitsP js ms pts t q) := Lib.hid (fun h => by have := h.2.2.1; rw [hsm] at this; cases this)
        clear hsm
        go_wp2_with fail
        go_ret
        exact verP_no HNO.out HB2.out
      | true =>
        have HVV := Lib.hid (HV.out W3 HB2.out)
        have HSM := Lib.hid hsm
        clear hsm
        go_wp2_with fail
        with_reducible refine HVV.out.mono ?_
        rintro e W4 ⟨bv, rfl, hbv, hb⟩
        have HB4 := Lib.hid (below_call HB2.out hb)
        have HR4 := Lib.hid (HR2.out.keep hb)
        clear hb HR2 HB2
        cases bv with
        | false =>
          have HNO : Hid (¬ FitsP js ms pts t q) := Lib.hid (fun h => by have := hbv.2 h.2.2.2.1; cases this)
          clear hbv
          go_wp2_with fail
          go_ret
          exact verP_no HNO.out HB4.out
        | true =>
          have hkd := hbv.1 rfl
          clear hbv
          by_cases hpe : pts = []
          · have hz : ((pts.length : Int) == 0) = true := by rw [hpe]; rfl
            have HOKK : Hid (FitsP js ms pts t q) := Lib.hid ⟨HOK.out, HQ.out, HSM.out, hkd, .inl hpe⟩
            clear hpe hkd
            go_wp2_with fail
            go_quiet (fail)
            have HB5 := Lib.hid (below_call HB4.out (below_drew W4 nq))
            go_wp2_with fail
            go_ret
            exact verP_yes HOKK.out HB5.out
          · have hz : ((pts.length : Int) == 0) = false := by simpa using hpe
            have hpos : 0 < pts.length := List.length_pos_iff.2 hpe
            obtain ⟨x, hx⟩ : ∃ x, pts[0]? = some x := ⟨_, List.getElem?_eq_getElem hpos⟩
            have hdx : dimP pts = x.length := by unfold dimP; rw [hx]; rfl
            obtain ⟨bp, offp, ox, cx, rfl, z0, lp, -⟩ := (HP.out.keep HB4.out).get hx
            have hpi : (0 : Int) < (pts.length : Int) := by omega
            have a0 : W4.cell? ⟨b4, 0, none⟩ = some (.slice oj js.length cj) := HR4.out.c 0 _ rfl
            have a1 : W4.cell? ⟨b4, 1, none⟩ = some (.slice om ms.length cm) := HR4.out.c 1 _ rfl
            have l4 := HR4.out.lt
            have HKD := Lib.hid hkd
            have HPE := Lib.hid hpe
            have HDX := Lib.hid hdx
            clear hkd hpe hdx hx
            rw [Nat.add_zero] at z0
            by_cases hq2 : x.length = js.length
            · have hz2 : ((x.length : Int) == (js.length : Int)) = true := by simp [hq2]
              have HOKK : Hid (FitsP js ms pts t q) := Lib.hid ⟨HOK.out, HQ.out, HSM.out, HKD.out, .inr (HDX.out.trans hq2)⟩
              clear hq2
              go_wp2_with fail
              go_quiet (fail)
              have HB5 := Lib.hid (below_call HB4.out (below_drew W4 nq))
              go_wp2_with fail
              go_ret
              exact verP_yes HOKK.out HB5.out
            · have hz2 : ((x.length : Int) == (js.length : Int)) = false := by simp; omega
              have HNO : Hid (¬ FitsP js ms pts t q) := Lib.hid (fun h => by
                rcases h.2.2.2.2 with h | h
                · exact HPE.out h
                · exact hq2 (HDX.out ▸ h))
              clear hq2
              go_wp2_with fail
              go_quiet (fail)
              have HB5 := Lib.hid (below_call HB4.out (below_drew W4 nq))
              go_wp2_with fail
              go_ret
              exact verP_no HNO.out HB5.out
    · have hqn : ((q.length : Int) != (js.length : Int)) = true := by simp; omega
      have HNO : Hid (¬ FitsP js ms pts t q) := Lib.hid (fun h => hq h.2.1)
      clear hok hc
      have a0 : W2.cell? ⟨b4, 0, none⟩ = some (.slice oj js.length cj) := HR2.out.c 0 _ rfl
      have a1 : W2.cell? ⟨b4, 1, none⟩ = some (.slice om ms.length cm) := HR2.out.c 1 _ rfl
      have l4 := HR2.out.lt
      go_wp2_with fail
      go_ret
      exact verP_no HNO.out HB2.out
  · have hcn : (c != 0) = true := by simp [hc0]
    have HNO : Hid (¬ FitsP js ms pts t q) := Lib.hid (fun h => hc0 (hc.2 h.1))
    clear hc hc0
    go_wp2_with fail
    go_ret
    exact verP_no HNO.out HB2.out
end Go.Proofs.Ng
end

section
/-
  The plain law of Nearest: the first k by distance, then by index.
-/
namespace Go.Proofs.Ng
open Go.RowKit

theorem nodup_sub : ∀ (l m : List Nat), l.Nodup → (∀ x ∈ l, x ∈ m) → l.length ≤ m.length
  | [], _, _, _ => Nat.zero_le _
  | a :: l, m, hn, hs => by
    rw [List.nodup_cons] at hn
    have ha := hs a (by simp)
    have h := nodup_sub l (m.erase a) hn.2 (fun x hx => (List.mem_erase_of_ne (fun (e : x = a) => hn.1 (e ▸ hx))).2 (hs x (by simp [hx])))
    rw [List.length_erase_of_mem ha] at h
    have := List.length_pos_of_mem ha
    simp only [List.length_cons]
    omega
/-- Every point lies in the tree. -/
theorem KdS.all {d : Nat} {t : List Nd} (h : KdS d t) {p : Nat} (hp : p < t.length) : PtIn t 0 p := by
  have dn : ∀ j, j < t.length → Dn t 0 j := by
    intro j
    induction j using Nat.strongRecOn with
    | ind j ih =>
      intro hj
      by_cases h0 : j = 0
      · subst h0; exact .self
      · obtain ⟨i, hl⟩ := h.one j (by omega) hj
        have := h.up.lk hl
        exact (ih i this.1 (by omega)).step hl
  have hnd : (t.map fun x => x.pt.toNat).Nodup := by
    rw [List.Nodup, List.pairwise_iff_getElem]
    intro i j hi hj hij e
    simp only [List.length_map] at hi hj
    simp only [List.getElem_map] at e
    have o1 := h.ok i t[i] (List.getElem?_eq_getElem hi)
    have o2 := h.ok j t[j] (List.getElem?_eq_getElem hj)
    have := h.pts i j t[i] t[j] (List.getElem?_eq_getElem hi) (List.getElem?_eq_getElem hj) (by have := o1.p0; have := o2.p0; omega)
    omega
  by_cases hm : p ∈ t.map fun x => x.pt.toNat
  · obtain ⟨y, hy, hyp⟩ := List.mem_map.1 hm
    obtain ⟨j, hj, hjy⟩ := List.getElem_of_mem hy
    have hjs : t[j]? = some y := by rw [List.getElem?_eq_getElem hj, hjy]
    exact ⟨j, y, Int.le_refl _, dn j hj, hjs, by have := (h.ok j _ hjs).p0; omega⟩
  · have := nodup_le t.length (p :: t.map fun x => x.pt.toNat) (List.nodup_cons.2 ⟨hm, hnd⟩) (fun x hx => by
      rw [List.mem_cons] at hx
      rcases hx with rfl | hx
      · exact hp
      · obtain ⟨y, hy, rfl⟩ := List.mem_map.1 hx
        obtain ⟨j, hj, hjy⟩ := List.getElem_of_mem hy
        have hjs : t[j]? = some y := by rw [List.getElem?_eq_getElem hj, hjy]
        have := h.ok j _ hjs
        have := this.p0
        have := (h.ok j _ hjs).p1
        omega)
    simp only [List.length_cons, List.length_map] at this
    omega
/-- h holds the k nearest of n points. -/
structure NearS (k n : Nat) (dP : Nat → Int) (h : List Nat) : Prop where
  len : h.length = min k n
  lt : ∀ a ∈ h, a < n
  nd : h.Nodup
  far : ∀ p, p < n → p ∉ h → ∀ a ∈ h, farD dP p a = true
theorem near_set {k n : Nat} {dP : Nat → Int} {t : List Nd} {ext h : List Nat} (hnd : ext.Nodup) (hlt : ∀ p ∈ ext, p < n) (hb : Best k dP ext h) (hin : ∀ p, p < n → PtIn t 0 p) (hw : WalkR k dP t 0 [] ext) : NearS k n dP h := by
  obtain ⟨rest, h1, h2, h3⟩ := hb
  have hle := nodup_le n ext hnd hlt
  have hnd2 : (h ++ rest).Nodup := h1.nodup_iff.2 hnd
  have hnh : h.Nodup := (List.nodup_append.1 hnd2).1
  have hmem : ∀ a ∈ h, a ∈ ext := fun a ha => h1.mem_iff.1 (by simp [ha])
  have hall : ∀ p, p < n → p ∈ ext ∨ Skip k dP ext p := fun p hp => by simpa using hw.all p (hin p hp)
  refine ⟨?_, fun a ha => hlt a (hmem a ha), hnh, fun p hp hph a ha => ?_⟩
  · by_cases hk : k ≤ ext.length
    · omega
    · have : ∀ x ∈ List.range n, x ∈ ext := fun x hx => by
        rcases hall x (List.mem_range.1 hx) with h4 | ⟨l0, r, most, e, ⟨h0, r0, hp0, hl0, -⟩, -⟩
        · exact h4
        · have e1 := hp0.length_eq
          have e2 : ext.length = l0.length + r.length := by rw [e, List.length_append]
          rw [List.length_append] at e1
          omega
      have := nodup_sub (List.range n) ext List.nodup_range this
      rw [List.length_range] at this
      omega
  · rcases hall p hp with h4 | ⟨l0, r, most, e, ⟨h0, r0, hp0, hl0, hle0⟩, hm⟩
    · have := h1.mem_iff.2 h4
      rw [List.mem_append] at this
      rcases this with h5 | h5
      · exact absurd h5 hph
      · exact h3 a ha p h5
    · have ham : dP a ≤ most := by
        refine Int.not_lt.1 fun hlt2 => ?_
        have hsub : ∀ x ∈ a :: h0, x ∈ h := fun x hx => by
          rw [List.mem_cons] at hx
          rcases hx with rfl | hx
          · exact ha
          · have hx0 : x ∈ l0 := hp0.mem_iff.1 (by simp [hx])
            have hxe : x ∈ ext := by rw [e]; simp [hx0]
            have := h1.mem_iff.2 hxe
            rw [List.mem_append] at this
            rcases this with h5 | h5
            · exact h5
            · have h6 := h3 a ha x h5
              have h7 := hle0 x hx
              unfold farD at h6
              simp only [decide_eq_true_eq] at h6
              omega
        have hn0 : h0.Nodup := by
          have : l0.Nodup := by rw [e] at hnd; exact (List.nodup_append.1 hnd).1
          exact (List.nodup_append.1 (hp0.nodup_iff.2 this)).1
        have := nodup_sub (a :: h0) h (List.nodup_cons.2 ⟨fun hx => by have := hle0 a hx; omega, hn0⟩) hsub
        simp only [List.length_cons] at this
        omega
      unfold farD
      simp only [decide_eq_true_eq]
      omega
/-- The list that Nearest answers. -/
structure NearL (k n : Nat) (dP : Nat → Int) (R : List Nat) : Prop where
  set : NearS k n dP R
  srt : R.Pairwise fun a b => farD dP b a = true
/-- While it pops. -/
structure PopI (dP : Nat → Int) (h0 out h : List Nat) : Prop where
  perm : (out ++ h).Perm h0
  srt : out.Pairwise fun a b => farD dP b a = true
  far : ∀ a ∈ h, ∀ b ∈ out, farD dP b a = true
theorem PopI.start (dP : Nat → Int) (h : List Nat) : PopI dP h [] h := ⟨.refl _, .nil, by simp⟩
theorem PopI.step {dP : Nat → Int} {h0 out h h2 : List Nat} {r : Nat} (hp : PopI dP h0 out h) (hn : h0.Nodup) (hr : (r :: h2).Perm h) (hfar : ∀ a ∈ h, farD dP a r = false) : PopI dP h0 (r :: out) h2 := by
  have hnd : (out ++ h).Nodup := hp.perm.nodup_iff.2 hn
  have hnh : h.Nodup := (List.nodup_append.1 hnd).2.1
  have hn2 := List.nodup_cons.1 (hr.nodup_iff.2 hnh)
  have hrh : r ∈ h := hr.mem_iff.1 (by simp)
  refine ⟨?_, List.pairwise_cons.2 ⟨fun b hb => hp.far r hrh b hb, hp.srt⟩, fun a ha b hb => ?_⟩
  · refine List.Perm.trans ?_ ((hr.append_left out).trans hp.perm)
    rw [List.cons_append]
    exact List.perm_middle.symm
  · have hah : a ∈ h := hr.mem_iff.1 (by simp [ha])
    rw [List.mem_cons] at hb
    rcases hb with rfl | hb
    · exact farD_tot (hfar a hah) (fun e => hn2.1 (e ▸ ha))
    · exact hp.far a hah b hb
theorem PopI.done {k n : Nat} {dP : Nat → Int} {h0 out : List Nat} (hp : PopI dP h0 out []) (hs : NearS k n dP h0) : NearL k n dP out := by
  have hpm : out.Perm h0 := by have := hp.perm; rwa [List.append_nil] at this
  refine ⟨⟨hpm.length_eq.trans hs.len, fun a ha => hs.lt a (hpm.mem_iff.1 ha), hpm.nodup_iff.2 hs.nd, fun p hp hn a ha => hs.far p hp (fun h => hn (hpm.mem_iff.2 h)) a (hpm.mem_iff.1 ha)⟩, hp.srt⟩
end Go.Proofs.Ng
end

section
/-
  Numbers that do not overflow; walks: Nearest.
-/
namespace Go.Proofs.Ng
open Go.RowKit

theorem okR_tame {js : List JV} {ms : List MV} {q : List Int} (h : okR js ms) (hq : smallB q = true) : Tame js q := by
  obtain ⟨⟨-, h1⟩, h2, -, -⟩ := h
  refine ⟨fun k j hj => ?_, fun k x hx => ?_, h1⟩
  · have h3 := h2 k j hj
    unfold checkJ at h3
    by_cases e1 : (!nameB j.name || decide (findF js j.name ≠ (k : Int))) = true
    · rw [if_pos e1] at h3; exact absurd h3 (by decide)
    rw [if_neg e1] at h3
    by_cases e2 : j.kind < 0 ∨ 6 < j.kind
    · rw [if_pos e2] at h3; exact absurd h3 (by decide)
    rw [if_neg e2] at h3
    by_cases e3 : j.parent < -1 ∨ (k : Int) ≤ j.parent
    · rw [if_pos e3] at h3; exact absurd h3 (by decide)
    rw [if_neg e3] at h3
    by_cases e4 : beyondB j.o0 j.o1 j.o2 = true
    · rw [if_pos e4] at h3; exact absurd h3 (by decide)
    rw [if_neg e4] at h3
    by_cases e5 : j.hi < j.lo ∨ j.lo < -limitF j.kind ∨ limitF j.kind < j.hi
    · rw [if_pos e5] at h3; exact absurd h3 (by decide)
    rw [if_neg e5] at h3
    by_cases e6 : (!from1B j.weight 1024 || !from1B j.speed 1048576 || !from1B j.accel 1048576 || !from1B j.torque 1099511627776) = true
    · rw [if_pos e6] at h3; exact absurd h3 (by decide)
    · have e7 : from1B j.weight 1024 = true := by
        cases hw : from1B j.weight 1024
        · exact absurd (by simp [hw]) e6
        · rfl
      unfold from1B at e7
      simpa using e7
  · unfold smallB at hq
    have := List.all_eq_true.1 hq x (List.mem_of_getElem? hx)
    unfold okX at this
    simpa using this
theorem catch37 (p : Addr) (w : World) :
    CallsD Tryz.prog 39 #[.pointer (some p)] .returning w fun e u' w' => e = .returned (.tuple #[]) ∧ u' = .returning ∧ w' = w := by
  refine callsD_of_wpS Tryz.func39 rfl fun c₀ cs hu => ?_
  apply wpS_seq
  apply wpS_region
  simp [wpOpsS, go_sem, recoverD, hu, Tryz.ntmps39, Exit.thenS]
  refine wpS_cond (t := false) (by simp [Act.eval, Array.replicate]) ?_
  simp only [Bool.false_eq_true, if_false]
  refine wpS_of_wp (wp_skip ?_)
  cases c₀
  simp_all [bodyPostS, results, Tryz.results39]
theorem info2q : (Tryz.prog.info? 2).map (fun i => (i.zero, i.size, i.bytes)) = some (some (.int .i64 0), 1, 8) := by kernel_rfl
theorem under31q : Tryz.prog.underlying 28 = some (.slice 2) := by kernel_rfl
theorem run_make31 (n : Nat) (hn : n ≤ 100000) (u : World) : (Instr.makeSlice 28 (.int .i64 (n : Nat)) (.int .i64 (n : Nat))).run Tryz.prog u = .ok (.slice (some ⟨u.heap.size, 0, none⟩) n n) (u.alloc (.cells (pflat (List.replicate n 0)).toArray 2)) := by
  obtain ⟨i, hi, hz, hs, hb⟩ := info_parts info2q
  have := run_makeSlice (P := Tryz.prog) u 28 2 i (.int .i64 0) under31q hi hz .i64 .i64 n n (by omega) (Int.le_refl _) (by rw [hs]; simp; omega) (by rw [hb]; simp; omega) (by omega)
  rw [hs] at this
  simp only [Int.toNat_natCast, Nat.mul_one] at this
  have hc : madeCells (Value.int .i64 0).cells n = (pflat (List.replicate n 0)).toArray := made_zero n
  rw [this, hc]
end Go.Proofs.Ng
end

section
/-
  Walks: Nearest.
-/
namespace Go.Proofs.Ng
open Go.RowKit

theorem HpW.set {base hB g11 gD n b i : Nat} {ds : List Int} {h : List Nat} {v u : Value} {W : World} (k : HpW base hB g11 gD n ds h v W) (h1 : b ≠ hB) (h2 : b ≠ g11) (h3 : b ≠ gD) (ho : v.ownBlock ≠ some b) : HpW base hB g11 gD n ds h v (W.setCell ⟨b, i, none⟩ u) := by
  have hg := grown_set W b i u
  refine ⟨k.obj.keepG hg (Ne.symm h1), k.box.keepG hg (Ne.symm h2), k.dst.keepG hg (Ne.symm h3), k.dl, ?_, k.el, Nat.le_trans k.hb hg.size, k.o1, k.o2, k.o3, k.n1, k.n2, k.n3⟩
  exact own_blk k.own fun g hgo _ hb => Below.heap_setCell W ⟨b, i, none⟩ u g (show g ≠ b from fun e => ho (e ▸ hgo))
theorem below_frH {s hB : Nat} {v v' : Value} {w W W' : World} (hb : Below s w W) (hf : FrH hB v v' W W') (h1 : s ≤ hB) (h2 : ∀ b, v.ownBlock = some b → s ≤ b) (hs : s ≤ w.heap.size) : Below s w W' :=
  ⟨hf.os.trans hb.os, hf.tape.trans hb.tape, hf.output.trans hb.output, Nat.le_trans hb.size hf.size, fun j hj => (hf.block j (Nat.lt_of_lt_of_le hj (Nat.le_trans hs hb.size)) (by omega) (fun e => by have := h2 j e; omega)).trans (hb.block j hj)⟩
theorem zeros_set (m : Nat) (out : List Nat) (x : Nat) : (pflat (List.replicate (m + 1) 0 ++ out.map fun y => ((y : Nat) : Int))).set m (.int .i64 (x : Nat)) = pflat (List.replicate m 0 ++ (x :: out).map fun y => ((y : Nat) : Int)) := by
  rw [pfl_set]
  congr 1
  rw [List.replicate_succ', List.append_assoc, List.set_append]
  simp
/-- What Nearest answers. -/
def NearP (k n : Nat) (dP : Nat → Int) (w : World) (e : Ending) (W : World) : Prop :=
  ∃ (R : List Nat) (b : Nat), NearL k n dP R ∧ e = .returned (.slice (some ⟨b, 0, none⟩) R.length R.length) ∧ w.heap.size ≤ b ∧ Below w.heap.size w W ∧ Blk W b (pflat (R.map fun x => ((x : Nat) : Int)))
set_option maxRecDepth 100000 in
set_option maxHeartbeats 2000000 in
theorem nearest16 (oj om op ot oq : Option Addr) (cj cm cp ct cq : Nat) (js : List JV) (ms : List MV) (pts : List (List Int)) (t : List Nd) (q : List Int) (k : Nat) (w : World)
    (hj : js.length ≤ 100) (hl : ms.length ≤ 9223372036854775807) (hJ : Sl w oj 12 (js.map JV.vals)) (hM : Sl w om 5 (ms.map MV.vals)) (hP : Pts w op pts) (hT : Sl w ot 4 (t.map Nd.vals)) (hQ : Sl w oq 1 (pvals q)) (htl : t.length ≤ 100000) (hpl : pts.length ≤ 100000) (hql : q.length ≤ 100000)
    (hF : FitsP js ms pts t q) (hk1 : 1 ≤ k) (hk : k ≤ 9223372036854775807) :
    Calls Tryz.prog 14 #[.agg #[.slice oj js.length cj, .slice om ms.length cm], .slice op pts.length cp, .slice ot t.length ct, .slice oq q.length cq, .int .i64 (k : Nat)] w (NearP k pts.length (dP js q pts) w) := by
  have hmf : ∀ (fn : Fn) (first cap : Array Value) (w : World), (Instr.makeFunc fn first cap).run Tryz.prog w = .ok (.func fn first cap) w := fun _ _ _ _ => rfl
  have hsf : ∀ (a : Addr) (fn : Fn) (x y : Array Value) (u : World), (store a (.func fn x y)).run Tryz.prog u = stored Tryz.prog u a (.func fn x y) .plain := fun a fn x y u => run_store Tryz.prog u a (.func fn x y) .plain rfl
  have hFt := fun (X : World) (hX : Below w.heap.size w X) => fits38 oj om op ot oq cj cm cp ct cq js ms pts t q X hj hl (hJ.keep hX) (hM.keep hX) (hP.keep hX) (hT.keep hX) (hQ.keep hX) htl hpl hql
  have hD : DatOk ⟨oj, cj, js, op, cp, pts, ot, ct, t, oq, cq, q⟩ w := ⟨hJ, hP, hT, hQ, okR_tame hF.1 hF.2.2.1, hF.2.2.2.1, hF.2.1.symm, fun hne => by
    rcases hF.2.2.2.2 with h | h
    · have := hF.2.2.2.1.2.1
      exact absurd (List.length_eq_zero_iff.1 (by rw [this, h]; rfl)) hne
    · exact h⟩
  have HF := Lib.hid hF
  have HFT := Lib.hid hFt
  have HD := Lib.hid hD
  have hkd : decide ((k : Int) < 1) = false := decide_eq_false (by omega)
  clear hF hFt hD hJ hM hP hT hQ hl
  go_enter_defers Tryz.func14, Tryz.ntmps14
  go_upto_region 2 with fail
  have hbx_ := blks3 w [.slice oj js.length cj, .slice om ms.length cm] [.int .i64 (k : Nat)] [.slice none 0 0] 25 3 29
  have HB := Lib.hid (hbx_.2.2.2)
  have hod : w.heap.size ≤ w.heap.size ∧ w.heap.size < w.heap.size + 1 ∧ w.heap.size + 1 < w.heap.size + 1 + 1 := by omega
  generalize ((w.alloc (.cells #[.slice oj js.length cj, .slice om ms.length cm] 25)).alloc (.cells #[.int .i64 (k : Nat)] 3)).alloc (.cells #[.slice none 0 0] 29) = W1 at hbx_ HB ⊢
  obtain ⟨r5, r9, r10, hbel_⟩ := hbx_
  generalize w.heap.size + 1 + 1 = b10 at r10 hod ⊢
  generalize w.heap.size + 1 = b9 at r9 hod ⊢
  obtain ⟨b5, hn_⟩ : ∃ n, n = w.heap.size := ⟨_, rfl⟩
  rw [← hn_] at r5 ⊢
  replace hod := And.intro (Nat.le_of_eq hn_.symm) (hn_ ▸ hod.2)
  clear hn_ hbel_
  have HO1 : Hid (w.heap.size ≤ b5 ∧ w.heap.size ≤ b9 ∧ w.heap.size ≤ b10 ∧ b5 ≠ b9 ∧ b5 ≠ b10 ∧ b9 ≠ b10) := Lib.hid (by omega)
  clear hod
  have a0 : W1.cell? ⟨b5, 0, none⟩ = some (.slice oj js.length cj) := r5.c 0 _ rfl
  have a1 : W1.cell? ⟨b5, 1, none⟩ = some (.slice om ms.length cm) := r5.c 1 _ rfl
  have c0 : W1.cell? ⟨b9, 0, none⟩ = some (.int .i64 (k : Nat)) := r9.c 0 _ rfl
  have l5 := r5.lt
  have l9 := r9.lt
  have H38 := Lib.hid (HFT.out W1 HB.out)
  have HR5 := Lib.hid r5
  have HR9 := Lib.hid r9
  have HR10 := Lib.hid r10
  clear r5 r9 r10
  go_wp2_with fail
  with_reducible refine H38.out.mono ?_
  rintro e W2 ⟨bv, rfl, hbv, hb2⟩
  obtain rfl : bv = true := hbv.2 HF.out
  have HB2 := Lib.hid (below_call HB.out hb2)
  have HR52 := Lib.hid (HR5.out.keep hb2)
  have HR92 := Lib.hid (HR9.out.keep hb2)
  have HR102 := Lib.hid (HR10.out.keep hb2)
  clear hbv hb2 HR5 HR9 HR10 HB HFT H38 a0 a1 c0 l5 l9
  have hmk := run_make31 pts.length hpl
  go_upto_region 6 with fail
  clear hmk
  obtain ⟨W3, hW3⟩ : ∃ W3, W3 = ((((W2.alloc (.cells (pflat (List.replicate pts.length 0)).toArray 2)).alloc (.cells #[.slice (some ⟨W2.heap.size, 0, none⟩) pts.length pts.length] 28)).alloc (.cells #[.slice none 0 0, .func (.func 40) #[] #[.pointer (some ⟨W2.heap.size + 1, 0, none⟩)]] 70)).alloc (.cells #[.pointer (some ⟨W2.heap.size + 1 + 1, 0, none⟩)] 65)) := ⟨_, rfl⟩
  rw [← hW3]
  obtain ⟨q0, q3, q4, q5, q6⟩ := four W2 (pflat (List.replicate pts.length 0)) [.slice (some ⟨W2.heap.size, 0, none⟩) pts.length pts.length] [.slice none 0 0, .func (.func 40) #[] #[.pointer (some ⟨W2.heap.size + 1, 0, none⟩)]] [.pointer (some ⟨W2.heap.size + 1 + 1, 0, none⟩)] 2 28 70 65 W3 hW3
  clear hW3
  obtain ⟨gD, hgD⟩ : ∃ n, n = W2.heap.size := ⟨_, rfl⟩
  obtain ⟨g11, hg11⟩ : ∃ n, n = W2.heap.size + 1 := ⟨_, rfl⟩
  obtain ⟨hB, hhB⟩ : ∃ n, n = W2.heap.size + 1 + 1 := ⟨_, rfl⟩
  obtain ⟨b12, hb12⟩ : ∃ n, n = W2.heap.size + 1 + 1 + 1 := ⟨_, rfl⟩
  obtain ⟨base, hbase⟩ : ∃ n, n = W3.heap.size := ⟨_, rfl⟩
  have ho : w.heap.size ≤ W2.heap.size := HB2.out.size
  have hl9 := HR92.out.lt
  have hl5 := HR52.out.lt
  have hl10 := HR102.out.lt
  have hlt := q6.lt
  rw [← hb12] at q6 ⊢ hlt
  rw [← hhB] at q6 q5 ⊢
  rw [← hg11] at q4 q5 ⊢
  have hN : NW base hB g11 gD pts.length b12 b9 k (dP js q pts) [] (.slice none 0 0) W3 := by
    rw [← hgD] at q3 q4
    exact ⟨⟨List.replicate pts.length 0, [], ⟨q5, q4, q3, by simp, World.ownsRow_nil _ _ _ _, by simp, by omega, by omega, by omega, by omega, by omega, by omega, by omega⟩, fun c _ hc => absurd hc (Nat.not_lt_zero c), Best.nil _ _, by simp⟩, q6, HR92.out.keep q0, by omega, by omega, .nil, by simp⟩
  have hBel := below_call HB2.out q0
  have HPL : Hid (b10 < base ∧ b10 ≠ hB ∧ b10 ≠ gD ∧ b10 ≠ g11 ∧ b10 ≠ b12 ∧ w.heap.size ≤ hB ∧ w.heap.size ≤ gD ∧ w.heap.size ≤ base) := Lib.hid (by omega)
  have HV := Lib.hid (visit43 HD.out hk1 hk hN hBel ⟨HPL.out.2.2.2.2.2.1, HPL.out.2.2.2.2.2.2.1, HPL.out.2.2.2.2.2.2.2⟩)
  have HR53 := Lib.hid (HR52.out.keep q0)
  have HR103 := Lib.hid (HR102.out.keep q0)
  have r53 := HR53.out
  have a0 : W3.cell? ⟨b5, 0, none⟩ = some (.slice oj js.length cj) := r53.c 0 _ rfl
  have l5 := r53.lt
  clear hN hBel q0 q3 q4 q5 q6 hgD hg11 hhB hb12 hbase ho hl9 hl5 hl10 hlt HR52 HR102 HR92 r53
  unfold Dat.box boundF takeF at HV
  go_wp2_with fail
  with_reducible refine HV.out.mono ?_
  rintro e W4 ⟨rfl, ext, v1, hN, hfr, hB4, hww⟩
  obtain ⟨⟨ds, h, kW, his, hbe, hda⟩, c12, c9, l12, l9, hnd, hel⟩ := hN
  have hkd := HD.out.kd
  have hS : NearS k pts.length (dP js q pts) h := by
    refine near_set hnd hel hbe (fun p hp => hkd.2.2.1.all (by rw [hkd.2.1]; exact hp)) (t := t) ?_
    rcases hww with ⟨ht, he⟩ | hw
    · have ht : t = [] := ht
      subst ht
      subst he
      exact ⟨by simp, fun p ⟨j, y, _, _, hy, _⟩ => by simp at hy⟩
    · exact hw
  have hhl : h.length ≤ 1024 := by have := (vp_dim hkd.1).1; have := hS.len; have hkd1 : pts.length ≤ 1024 := (vp_dim hkd.1).1; omega
  have hdh : ∀ p ∈ h, dat ds p = dP js q pts p := fun p hp => by
    obtain ⟨rest, h1, _, _⟩ := hbe
    exact hda p (h1.mem_iff.1 (by simp [hp]))
  have hown10 : v1.ownBlock ≠ some b10 := fun e => by have := (own_lt kW.own b10 e).2; have := HPL.out.1; omega
  have r10 := HR103.out.keepN hfr HPL.out.2.1 HPL.out.2.2.1 (fun e => by cases e)
  have x12 : W4.cell? ⟨b12, 0, none⟩ = some (.pointer (some ⟨hB, 0, none⟩)) := c12.c 0 _ rfl
  have l12' := c12.lt
  have x10 : W4.cell? ⟨b10, 0, none⟩ = some (.slice none 0 0) := r10.c 0 _ rfl
  have f10 := r10.f 0
  have l10 := r10.lt
  have HLEN := Lib.hid (len45 kW)
  have HKW := Lib.hid kW
  have HIS := Lib.hid his
  have HS := Lib.hid hS
  have HDH := Lib.hid hdh
  have HC12 := Lib.hid c12
  have HL12 := Lib.hid l12
  have HR10 := Lib.hid r10
  have HB4 := Lib.hid hB4
  have HO10 := Lib.hid hown10
  clear kW his hbe hda c12 c9 l12 l9 hnd hel hkd hS hdh hww hfr r10 hB4 hown10 HV HR103 HR53
  have hmk := run_make24 h.length (by omega)
  have hwr : IntKind.i64.wrap ((h.length : Int) - 1) = (h.length : Int) - 1 := IntWalk.i64_in _ (by omega)
  go_wp2_with fail
  with_reducible refine HLEN.out.mono ?_
  rintro e W5 ⟨rfl, rfl⟩
  go_upto_region 9 with fail
  obtain ⟨gR, hgR⟩ : ∃ n, n = W5.heap.size := ⟨_, rfl⟩
  obtain ⟨WS, hWS⟩ : ∃ WS, WS = W5.setCell ⟨b10, 0, none⟩ (.slice (some ⟨W5.heap.size, 0, none⟩) h.length h.length) := ⟨_, rfl⟩
  obtain ⟨W6, hW6⟩ : ∃ W6, W6 = WS.alloc (.cells (pflat (List.replicate h.length 0)).toArray 3) := ⟨_, rfl⟩
  rw [← hWS, ← hW6]
  have hal : Below WS.heap.size WS W6 := by rw [hW6]; exact (Below.refl _ _).alloc (Nat.le_refl _) _
  have hsz : WS.heap.size = W5.heap.size := by rw [hWS]; simp [World.setCell]
  have hdf : b10 < base ∧ base ≤ W5.heap.size ∧ b12 < base ∧ w.heap.size ≤ b10 ∧ hB < base ∧ gD < base ∧ g11 < base := by
    have k := HKW.out
    exact ⟨HPL.out.1, k.hb, HL12.out.1, HO1.out.2.2.1, k.o1, k.o3, k.o2⟩
  have hg : W5.grownBy WS (some b10) := by rw [hWS]; exact grown_set W5 b10 0 _
  have kR : Blk W6 gR (pflat (List.replicate h.length 0 ++ ([] : List Nat).map fun y => ((y : Nat) : Int))) := by
    rw [hW6, hgR, List.map_nil, List.append_nil, ← hsz]
    exact Blk.new WS _ 3
  have k10 : Blk W6 b10 [.slice (some ⟨gR, 0, none⟩) h.length h.length] := by
    refine Blk.keep ?_ hal
    rw [hWS, hgR]
    exact HR10.out.put 0 _
  have k12 : Blk W6 b12 [.pointer (some ⟨hB, 0, none⟩)] := (HC12.out.keepG hg (fun e => HPL.out.2.2.2.2.1 e.symm)).keep hal
  have kH : HpW base hB g11 gD pts.length ds h v1 W6 := by
    refine HpW.keep ?_ hal
    rw [hWS]
    exact HKW.out.set HPL.out.2.1 HPL.out.2.2.2.1 HPL.out.2.2.1 HO10.out
  have kB : Below w.heap.size w W6 := by
    refine below_call ?_ hal
    rw [hWS]
    exact HB4.out.setCell (p := ⟨b10, 0, none⟩) hdf.2.2.2.1 _
  have kv : v1.ownBlock ≠ some gR := fun e => by have := (own_lt HKW.out.own gR e).1; omega
  have HDF : Hid (b10 < base ∧ base ≤ gR ∧ b12 < base ∧ w.heap.size ≤ b10 ∧ hB < base ∧ gD < base ∧ g11 < base) := Lib.hid (by rw [hgR]; exact hdf)
  clear hWS hW6 hal hsz hdf hg HB4 HKW HC12 HR10 HLEN x12 l12' x10 f10 l10 hmk hwr hgR
  go_loopw [13] (fun i X => ∃ (h' out : List Nat) (v' : Value), i = .int .i64 ((h'.length : Int) - 1) ∧ out.length + h'.length = h.length ∧ PopI (dP js q pts) h out h' ∧ HpW base hB g11 gD pts.length ds h' v' X ∧ IsH (far ds) h' h'.length ∧ Blk X b10 [.slice (some ⟨gR, 0, none⟩) h.length h.length] ∧ Blk X b12 [.pointer (some ⟨hB, 0, none⟩)] ∧ Blk X gR (pflat (List.replicate h'.length 0 ++ out.map fun y => ((y : Nat) : Int))) ∧ Below w.heap.size w X ∧ v'.ownBlock ≠ some gR) (fun i _ => (intOf i + 1).toNat)
  case atStart => exact ⟨h, [], v1, rfl, by simp, PopI.start _ _, kH, HIS.out, k10, k12, kR, kB, kv⟩
  case round =>
    clear kH k10 k12 kR kB kv
    obtain ⟨h', out, v', rfl, hlen, hpo, kH, hih, k10, k12, kR, kB, kv⟩ := hrel
    by_cases hz : h'.length = 0
    · have hc : decide (0 ≤ (h'.length : Int) - 1) = false := decide_eq_false (by omega)
      obtain rfl : h' = [] := List.length_eq_zero_iff.1 hz
      have HL := Lib.hid (hpo.done HS.out)
      have x10 : wr.cell? ⟨b10, 0, none⟩ = some (.slice (some ⟨gR, 0, none⟩) h.length h.length) := k10.c 0 _ rfl
      have f10 := k10.f 0
      have l10 := k10.lt
      have K10 := Lib.hid k10
      have KR := Lib.hid kR
      have KB := Lib.hid kB
      have HLN := Lib.hid hlen
      clear hpo kH hih k10 k12 kR kB kv hlen
      go_wp2_with fail
      have hla : (wr.setCell ⟨b10, 0, none⟩ (.slice (some ⟨gR, 0, none⟩) h.length h.length)).cell? ⟨b10, 0, none⟩ = some (.slice (some ⟨gR, 0, none⟩) h.length h.length) := World.cell?_setCell_same wr ⟨b10, 0, none⟩ _ x10
      have HF : Hid (NearP k pts.length (dP js q pts) w (.returned (.slice (some ⟨gR, 0, none⟩) h.length h.length)) (wr.setCell ⟨b10, 0, none⟩ (.slice (some ⟨gR, 0, none⟩) h.length h.length))) := Lib.hid (by
        have d := HDF.out
        have hle : out.length = h.length := by have := HLN.out; simpa using this
        have hr := KR.out.keepG (grown_set wr b10 0 (.slice (some ⟨gR, 0, none⟩) h.length h.length)) (show gR ≠ b10 by omega)
        rw [← hle] at hr ⊢
        exact ⟨out, gR, HL.out, rfl, by have := HPL.out; omega, KB.out.setCell (p := ⟨b10, 0, none⟩) d.2.2.2.1 _, by simpa using hr⟩)
      refine leaves_cons (f := 39) (args := #[.pointer (some ⟨b10, 0, none⟩)]) (by simp) (by simp [go_sem]) ?_
      refine (catch37 _ _).mono ?_
      rintro e u' w'' ⟨rfl, rfl, rfl⟩
      simp [Leaves, settle, results, Tryz.results14, go_sem, hla]
      exact HF.out
    · obtain ⟨m, hm⟩ : ∃ m, h'.length = m + 1 := ⟨h'.length - 1, by omega⟩
      have hmi : (h'.length : Int) - 1 = (m : Nat) := by omega
      have hc : decide (0 ≤ (m : Int)) = true := decide_eq_true (by omega)
      have hmh : (m : Int) < (h.length : Int) := by omega
      have hmn : m < h.length := by omega
      have hmt : IntKind.i64.wrap ((m : Int) - 1) = (m : Int) - 1 := IntWalk.i64_in _ (by omega)
      rw [hmi]
      have x10 : wr.cell? ⟨b10, 0, none⟩ = some (.slice (some ⟨gR, 0, none⟩) h.length h.length) := k10.c 0 _ rfl
      have l10 := k10.lt
      have x12 : wr.cell? ⟨b12, 0, none⟩ = some (.pointer (some ⟨hB, 0, none⟩)) := k12.c 0 _ rfl
      have l12 := k12.lt
      have xR : wr.cell? ⟨gR, m, none⟩ = some (.int .i64 0) := kR.c m _ (pfl_get (by rw [hm, List.replicate_succ', List.append_assoc, List.getElem?_append_right (by simp)]; simp))
      have lR := kR.lt
      obtain ⟨r0, hr0⟩ : ∃ r, r = hat h' 0 := ⟨_, rfl⟩
      have HPOP := Lib.hid (fun (X : World) (hX : Below wr.heap.size wr X) => pop48 (kH.keep hX) hm hih hpl (by omega))
      have hvb : ∀ b, b < base → v'.ownBlock ≠ some b := fun b hb e => by have := (own_lt kH.own b e).2; omega
      have HVB := Lib.hid hvb
      have hkeep : ∀ Y v2, FrH hB v' v2 wr Y → Blk Y b10 [.slice (some ⟨gR, 0, none⟩) h.length h.length] ∧ Blk Y b12 [.pointer (some ⟨hB, 0, none⟩)] ∧ Blk Y gR (pflat (List.replicate h'.length 0 ++ out.map fun y => ((y : Nat) : Int))) := fun Y v2 hf => by
        have f := FrN.ofH (gD := gD) hf
        have d := HDF.out
        have p := HPL.out
        have o12 := HL12.out
        exact ⟨k10.keepN f p.2.1 p.2.2.1 (hvb _ d.1), k12.keepN f o12.2.1 o12.2.2 (hvb _ d.2.2.1), kR.keepN f (by omega) (by omega) kv⟩
      have hmf2 : ∀ Y v2, FrH hB v' v2 wr Y → Y.cell? ⟨b10, 0, none⟩ = some (.slice (some ⟨gR, 0, none⟩) h.length h.length) ∧ Y.cell? ⟨b12, 0, none⟩ = some (.pointer (some ⟨hB, 0, none⟩)) := fun Y v2 hf => by
        obtain ⟨q1, q2, q3⟩ := hkeep Y v2 hf
        exact ⟨q1.c 0 _ rfl, q2.c 0 _ rfl⟩
      have hmg : ∀ Y v2, FrH hB v' v2 wr Y → Y.cell? ⟨gR, m, none⟩ = some (.int .i64 0) ∧ Y.frozen? ⟨gR, m, none⟩ = false ∧ gR < Y.heap.size := fun Y v2 hf => by
        obtain ⟨q1, q2, q3⟩ := hkeep Y v2 hf
        exact ⟨q3.c m _ (pfl_get (by rw [hm, List.replicate_succ', List.append_assoc, List.getElem?_append_right (by simp)]; simp)), q3.f m, q3.lt⟩
      have hms : ∀ Y v2 u, FrH hB v' v2 wr Y → (Y.setCell ⟨gR, m, none⟩ u).cell? ⟨b10, 0, none⟩ = some (.slice (some ⟨gR, 0, none⟩) h.length h.length) ∧ (Y.setCell ⟨gR, m, none⟩ u).cell? ⟨b12, 0, none⟩ = some (.pointer (some ⟨hB, 0, none⟩)) := fun Y v2 u hf => by
        obtain ⟨q1, q2, q3⟩ := hkeep Y v2 hf
        have d := HDF.out
        have hg := grown_set Y gR m u
        exact ⟨(q1.keepG hg (by omega)).c 0 _ rfl, (q2.keepG hg (by omega)).c 0 _ rfl⟩
      have HMG := Lib.hid hmg
      have HMS := Lib.hid hms
      have HKP := Lib.hid hkeep
      have HMF := Lib.hid hmf2
      have hS := hmf2 wr v' (FrH.below (Below.refl _ _))
      have HKB := Lib.hid kB
      have HKV := Lib.hid kv
      have HPO := Lib.hid hpo
      have HLN := Lib.hid hlen
      have HEL := Lib.hid kH.el
      have HIH := Lib.hid hih
      have HOL := Lib.hid (own_lt kH.own)
      have hroot : ∀ a ∈ h', farD (dP js q pts) a r0 = false := fun a ha => by
        obtain ⟨i, hi, hai⟩ := List.getElem_of_mem ha
        have hr := hih.root (far_bf ds) i hi
        have e : hat h' i = a := by unfold hat; rw [List.getElem?_eq_getElem hi, hai]; rfl
        have hmm : ∀ x ∈ h', x ∈ h := fun x hx => hpo.perm.mem_iff.1 (by simp [hx])
        have h0m : hat h' 0 ∈ h' := by unfold hat; rw [List.getElem?_eq_getElem (by omega)]; exact List.getElem_mem _
        rw [e] at hr
        rw [hr0, ← far_eq (HDH.out a (hmm a ha)) (HDH.out _ (hmm _ h0m))]
        exact hr
      have HREL : Hid (∀ Y h2 v2, HpW base hB g11 gD pts.length ds h2 v2 Y → FrH hB v' v2 wr Y → IsH (far ds) h2 h2.length → (r0 :: h2).Perm h' → ∃ (h' out : List Nat) (v' : Value), Value.int .i64 ((m : Int) - 1) = .int .i64 ((h'.length : Int) - 1) ∧ out.length + h'.length = h.length ∧ PopI (dP js q pts) h out h' ∧ HpW base hB g11 gD pts.length ds h' v' (Y.setCell ⟨gR, m, none⟩ (.int .i64 (r0 : Nat))) ∧ IsH (far ds) h' h'.length ∧ Blk (Y.setCell ⟨gR, m, none⟩ (.int .i64 (r0 : Nat))) b10 [.slice (some ⟨gR, 0, none⟩) h.length h.length] ∧ Blk (Y.setCell ⟨gR, m, none⟩ (.int .i64 (r0 : Nat))) b12 [.pointer (some ⟨hB, 0, none⟩)] ∧ Blk (Y.setCell ⟨gR, m, none⟩ (.int .i64 (r0 : Nat))) gR (pflat (List.replicate h'.length 0 ++ out.map fun y => ((y : Nat) : Int))) ∧ Below w.heap.size w (Y.setCell ⟨gR, m, none⟩ (.int .i64 (r0 : Nat))) ∧ v'.ownBlock ≠ some gR) := Lib.hid (fun Y h2 v2 kH2 hfr hih2 hpm => by
        have hl2 : h2.length = m := by have := hpm.length_eq; simp only [List.length_cons] at this; omega
        obtain ⟨q1, q2, q3⟩ := hkeep Y v2 hfr
        have d := HDF.out
        have hv2 : v2.ownBlock ≠ some gR := fun e => by
          rcases hfr.own gR e with e2 | e2
          · exact kv e2
          · omega
        have hg := grown_set Y gR m (.int .i64 (r0 : Nat))
        have q4 := q3.put m (.int .i64 (r0 : Nat))
        rw [hm, zeros_set] at q4
        refine ⟨h2, r0 :: out, v2, by rw [hl2], by simp only [List.length_cons]; omega, hpo.step HS.out.nd hpm hroot, kH2.set (by omega) (by omega) (by omega) hv2, hih2, q1.keepG hg (by omega), q2.keepG hg (by omega), by rw [hl2]; exact q4, ?_, hv2⟩
        exact (below_frH kB hfr (HPL.out.2.2.2.2.2.1) (fun b e => by have := (own_lt kH.own b e).2; have := HPL.out.2.2.2.2.2.2.2; omega) (Nat.le_refl _)).setCell (p := ⟨gR, m, none⟩) (by have := HPL.out.2.2.2.2.2.2.2; show w.heap.size ≤ gR; omega) _)
      clear hkeep hmf2 hmg hms kB kv hpo hlen kH hih k10 k12 kR hvb hroot
      rw [← hr0] at HPOP
      clear hr0
      go_upto_region 11 with fail
      clear x10 x12 xR
      go_region_held3 (fun Y => Y.cell? ⟨b10, 0, none⟩ = some (.slice (some ⟨gR, 0, none⟩) h.length h.length) ∧ Y.cell? ⟨b12, 0, none⟩ = some (.pointer (some ⟨hB, 0, none⟩)))
        (first
          | assumption
          | exact HMF.out _ _ (FrH.below (Below.refl _ _).drew)
          | exact HMF.out _ _ (by assumption)
          | exact HMS.out _ _ _ (by assumption))
        (first
          | (go_at_call 48
             with_reducible refine (HPOP.out _ (Below.refl _ _).drew).mono ?_
             rintro e Xa ⟨rfl, h2, v2, kH2, hfr, hih2, hpm⟩
             replace hfr := FrH.trans (FrH.below (Below.refl _ _).drew) hfr
             obtain ⟨z1, z2, z3⟩ := HMG.out _ _ hfr))
      all_goals
        have HT := Lib.hid (HREL.out _ _ _ kH2 hfr hih2 hpm)
        clear kH2 hfr hih2 hpm z1 z2 z3
        go_wp2_with fail
        go_roundw
        case rel => exact HT.out
        case measure => simp [intOf]
end Go.Proofs.Ng
end

section
/-
  Walks: the reference's distance.
-/
namespace Go.Proofs.Ng
open Go.RowKit

set_option maxRecDepth 100000 in
set_option maxHeartbeats 2000000 in
theorem small50 (ox : Option Addr) (cx : Nat) (xs : List Int) (w : World) (hX : Sl w ox 1 (pvals xs)) (hn : xs.length ≤ 1000000) :
    Calls Tryz.prog 50 #[.slice ox xs.length cx] w fun e w' => e = .returned (.bool (smallB xs)) ∧ w' = w := by
  go_enter Tryz.func50, Tryz.ntmps50
  go_wp2_with fail
  go_loopw [3] (fun i W => ∃ k : Nat, k ≤ xs.length ∧ i = .int .i64 (k : Nat) ∧ W = w ∧ ∀ (j : Nat) (x : Int), j < k → xs[j]? = some x → okX x = true) (fun i _ => xs.length - (intOf i).toNat)
  case atStart => exact ⟨0, Nat.zero_le _, rfl, rfl, fun j x h => absurd h (Nat.not_lt_zero _)⟩
  case round =>
    obtain ⟨k, hk, rfl, rfl, hto⟩ := hrel
    have HTO := Lib.hid hto
    clear hto
    by_cases hlt : k < xs.length
    · obtain ⟨x, hx⟩ : ∃ x, xs[k]? = some x := ⟨_, List.getElem?_eq_getElem hlt⟩
      obtain ⟨b, off, rfl, x0, lb⟩ := pv_get hX hx
      have HX := Lib.hid hx
      clear hx
      by_cases q0 : x < -2147483648
      · have d0 : decide (x < -2147483648) = true := decide_eq_true q0
        have HS := Lib.hid (small_no HX.out (by unfold okX; exact decide_eq_false (by omega)))
        clear q0
        go_wp2_with fail
        go_ret
        exact ⟨ret_bool HS.out.symm, rfl⟩
      · have d0 : decide (x < -2147483648) = false := decide_eq_false q0
        by_cases q1 : 2147483648 < x
        · have d1 : decide (2147483648 < x) = true := decide_eq_true q1
          have HS := Lib.hid (small_no HX.out (by unfold okX; exact decide_eq_false (by omega)))
          clear q0 q1
          go_wp2_with fail
          go_ret
          exact ⟨ret_bool HS.out.symm, rfl⟩
        · have d1 : decide (2147483648 < x) = false := decide_eq_false q1
          have HS := Lib.hid (to_next (p := fun x => okX x = true) HTO.out HX.out (by unfold okX; exact decide_eq_true (by omega)))
          clear q0 q1
          go_wp2_with fail
          go_roundw
          case rel => exact ⟨k + 1, by omega, by simp, by trivial, HS.out⟩
          case measure => simp [intOf]; omega
    · have he : k = xs.length := by omega
      subst he
      have HS := Lib.hid (small_yes HTO.out)
      go_wp2_with fail
      go_ret
      exact ⟨ret_bool HS.out.symm, rfl⟩
theorem okX_bd {x : List Int} (h : smallB x = true) : ∀ (k : Nat) (y : Int), x[k]? = some y → -2147483648 ≤ y ∧ y ≤ 2147483648 := fun k y hy => by
  unfold smallB at h
  have h2 := List.all_eq_true.1 h y (List.mem_of_getElem? hy)
  unfold okX at h2
  simpa using h2
set_option maxRecDepth 100000 in
set_option maxHeartbeats 4000000 in
theorem dist18 (oj om op oq : Option Addr) (cj cm cp cq : Nat) (js : List JV) (ms : List MV) (x q : List Int) (w : World)
    (hj : js.length ≤ 100) (hl : ms.length ≤ 9223372036854775807) (hJ : Sl w oj 12 (js.map JV.vals)) (hM : Sl w om 5 (ms.map MV.vals)) (hX : Sl w op 1 (pvals x)) (hQ : Sl w oq 1 (pvals q))
    (hok : okR js ms) (hsx : smallB x = true) (hsq : smallB q = true) (hxl : x.length = js.length) (hql : q.length = x.length) :
    Calls Tryz.prog 15 #[.agg #[.slice oj js.length cj, .slice om ms.length cm], .slice op x.length cp, .slice oq q.length cq] w (fun e w' => e = .returned (.int .i64 (dst js q x)) ∧ Below w.heap.size w w') := by
  have ht := okR_tame hok hsq
  have hx31 := okX_bd hsx
  have hx10 : x.length ≤ 10 := by have := ht.len; omega
  have hdb := fun m hm => dsum_bd ht hx31 (by omega) (by omega) m hm
  have HC := Lib.hid (fun (X : World) (hX : Below w.heap.size w X) => check_ref oj om cj cm js ms X hj hl (hJ.keep hX) (hM.keep hX))
  have HS1 := Lib.hid (fun (X : World) (hB : Below w.heap.size w X) => small50 op cp x X (hX.keep hB) (by omega))
  have HS2 := Lib.hid (fun (X : World) (hB : Below w.heap.size w X) => small50 oq cq q X (hQ.keep hB) (by omega))
  rw [hsx] at HS1
  rw [hsq] at HS2
  have HJ := Lib.hid hJ
  have HXX := Lib.hid hX
  have HQQ := Lib.hid hQ
  have HT := Lib.hid ht
  have HX31 := Lib.hid hx31
  have HDB := Lib.hid hdb
  have HOK := Lib.hid hok
  have HXL := Lib.hid hxl
  have HL := Lib.hid hql
  have hn1 : ((x.length : Int) != (js.length : Int)) = false := by simp [hxl]
  have hn2 : ((q.length : Int) != (x.length : Int)) = false := by simp [hql]
  clear hJ hM hX hQ ht hx31 hdb hok hsx hsq hl hxl hql
  go_enter Tryz.func15, Tryz.ntmps15
  go_upto_region 1 with fail
  have hbx_ := blks1 w [.slice oj js.length cj, .slice om ms.length cm] 25
  have HB := Lib.hid (hbx_.2)
  generalize w.alloc (.cells #[.slice oj js.length cj, .slice om ms.length cm] 25) = W1 at hbx_ HB ⊢
  obtain ⟨r3, hbel_⟩ := hbx_
  obtain ⟨b3, hn_⟩ : ∃ n, n = w.heap.size := ⟨_, rfl⟩
  rw [← hn_] at r3 ⊢
  clear hn_ hbel_
  have HR := Lib.hid r3
  have HCC := Lib.hid (HC.out W1 HB.out)
  have a0 : W1.cell? ⟨b3, 0, none⟩ = some (.slice oj js.length cj) := r3.c 0 _ rfl
  have a1 : W1.cell? ⟨b3, 1, none⟩ = some (.slice om ms.length cm) := r3.c 1 _ rfl
  have l3 := r3.lt
  clear r3
  go_wp2_with fail
  clear a0 a1 l3
  with_reducible refine HCC.out.mono ?_
  rintro e W2 ⟨c, rfl, hc, hb⟩
  obtain rfl : c = 0 := hc.2 HOK.out
  have HB2 := Lib.hid (below_call HB.out hb)
  have HR2 := Lib.hid (HR.out.keep hb)
  clear hb HC HCC HR hc
  have HSS1 := Lib.hid (HS1.out W2 HB2.out)
  have HSS2 := Lib.hid (HS2.out W2 HB2.out)
  have a0 : W2.cell? ⟨b3, 0, none⟩ = some (.slice oj js.length cj) := HR2.out.c 0 _ rfl
  have l3 := HR2.out.lt
  go_wp2_with fail
  with_reducible refine HSS1.out.mono ?_
  rintro e W3 ⟨rfl, hw3⟩
  subst hw3
  go_wp2_with fail
  with_reducible refine HSS2.out.mono ?_
  rintro e W4 ⟨rfl, hw4⟩
  subst hw4
  go_wp2_with fail
  clear a0 l3
  go_loopw [7, 8] (fun s i X => ∃ k : Nat, i = .int .i64 (k : Nat) ∧ k ≤ x.length ∧ s = .int .i64 (dsum js q x k) ∧ Below w.heap.size w X ∧ Blk X b3 [.slice oj js.length cj, .slice om ms.length cm]) (fun _ i _ => x.length - (intOf i).toNat)
  case atStart => exact ⟨0, rfl, Nat.zero_le _, rfl, HB2.out, HR2.out⟩
  case round =>
    obtain ⟨k, rfl, hk, rfl, hbw, hrb⟩ := hrel
    by_cases hlt : k < x.length
    · obtain ⟨j, hj2⟩ : ∃ j, js[k]? = some j := ⟨_, List.getElem?_eq_getElem (by have := HXL.out; omega)⟩
      obtain ⟨a, ha⟩ : ∃ a, q[k]? = some a := ⟨_, List.getElem?_eq_getElem (by have := HL.out; omega)⟩
      obtain ⟨b, hb⟩ : ∃ b, x[k]? = some b := ⟨_, List.getElem?_eq_getElem hlt⟩
      obtain ⟨bj, offj, rfl, hjr⟩ := (HJ.out.keep hbw) (jvals_ne (show k < js.length by have := HXL.out; omega))
      obtain ⟨bq, offq, rfl, z1, lq⟩ := pv_get (HQQ.out.keep hbw) ha
      obtain ⟨bx, offx, rfl, z2, lx⟩ := pv_get (HXX.out.keep hbw) hb
      have z3 : wr.cell? ⟨bj, offj + k * 12 + 8, none⟩ = some (.int .i64 j.weight) := hjr.c k _ (rows_get hj2) 8 _ rfl
      have lj := hjr.lt
      have c0 : wr.cell? ⟨b3, 0, none⟩ = some (.slice (some ⟨bj, offj, none⟩) js.length cj) := hrb.c 0 _ rfl
      have lb3 := hrb.lt
      have hkq : (k : Int) < (q.length : Int) := by have := HL.out; omega
      have hkj : (k : Int) < (js.length : Int) := by have := HXL.out; omega
      have hkx : (k : Int) < (x.length : Int) := by omega
      have ha2 := HT.out.q k a ha
      have hb2 := HX31.out k b hb
      have hg := gap_bd ha2 hb2
      have hw := HT.out.w k j hj2
      have ht := term_bd hw.1 hw.2 hg.1 hg.2
      have hs := HDB.out k (by omega)
      have hnext : dsum js q x (k + 1) = dsum js q x k + j.weight * gapA (a - b) := by
        show dsum js q x k + wt js k * gapA (at0 q k - at0 x k) = _
        rw [wt_some hj2, at0_some ha, at0_some hb]
      have hs2 := HDB.out (k + 1) (by omega)
      rw [hnext] at hs2
      have HN := Lib.hid hnext
      have HBW := Lib.hid hbw
      have HRB := Lib.hid hrb
      clear hjr hj2 ha hb hnext hbw hrb
      generalize dsum js q x k = s at hs hs2 HN ⊢
      generalize j.weight = w8 at z3 hw ht HN hs2 ⊢
      have hw1 : IntKind.i64.wrap (a - b) = a - b := IntWalk.i64_in _ (by omega)
      have hw2 : IntKind.i64.wrap (b - a) = b - a := IntWalk.i64_in _ (by omega)
      obtain ⟨tt, htt⟩ : ∃ y, y = w8 * gapA (a - b) := ⟨_, rfl⟩
      rw [← htt] at ht HN hs2
      have hw3 : IntKind.i64.wrap (w8 * max (b - a) (a - b)) = tt := by
        have e : max (b - a) (a - b) = gapA (a - b) := by unfold gapA; omega
        rw [e, ← htt]
        exact IntWalk.i64_in _ (by omega)
      have hw4 : IntKind.i64.wrap (s + tt) = s + tt := IntWalk.i64_in _ (by omega)
      clear hw ht hg hs htt
      go_wp2_with fail
      go_quiet (fail)
      have hbd := below_drew wr nq
      go_wp2_with fail
      go_roundw
      case rel => exact ⟨k + 1, by simp, by omega, by rw [HN.out], below_call HBW.out hbd, HRB.out.keep hbd⟩
      case measure => simp [intOf]; omega
    · have hke : k = x.length := by omega
      subst hke
      have HBW := Lib.hid hbw
      clear hbw hrb
      go_wp2_with fail
      go_ret
      exact ⟨rfl, HBW.out⟩
end Go.Proofs.Ng
end

section
/-
  The plain law of Nearest: one list alone; one more continues it.
-/
namespace Go.Proofs.Ng
open Go.RowKit

theorem farD_ir {dP : Nat → Int} {a b : Nat} (h : farD dP a b = true) (k : farD dP b a = true) : False := by
  unfold farD at *; simp only [decide_eq_true_eq] at *; omega
theorem srt_eq {dP : Nat → Int} : ∀ (R S : List Nat), R.Pairwise (fun a b => farD dP b a = true) → S.Pairwise (fun a b => farD dP b a = true) → (∀ x, x ∈ R ↔ x ∈ S) → R = S
  | [], [], _, _, _ => rfl
  | [], b :: S, _, _, h => by have := (h b).2 (by simp); cases this
  | a :: R, [], _, _, h => by have := (h a).1 (by simp); cases this
  | a :: R, b :: S, hr, hs, h => by
    rw [List.pairwise_cons] at hr hs
    have e : a = b := by
      have h1 := (h a).1 (by simp)
      have h2 := (h b).2 (by simp)
      rw [List.mem_cons] at h1 h2
      rcases h1 with h1 | h1
      · exact h1
      · rcases h2 with h2 | h2
        · exact h2.symm
        · exact (farD_ir (hr.1 b h2) (hs.1 a h1)).elim
    subst e
    rw [srt_eq R S hr.2 hs.2 fun x => ?_]
    constructor
    · intro hx
      have h1 := (h x).1 (by simp [hx])
      rw [List.mem_cons] at h1
      rcases h1 with rfl | h1
      · exact (farD_ir (hr.1 x hx) (hr.1 x hx)).elim
      · exact h1
    · intro hx
      have h1 := (h x).2 (by simp [hx])
      rw [List.mem_cons] at h1
      rcases h1 with rfl | h1
      · exact (farD_ir (hs.1 x hx) (hs.1 x hx)).elim
      · exact h1
theorem near_sub {k n : Nat} {dP : Nat → Int} {R S : List Nat} (hR : NearS k n dP R) (hS : NearS k n dP S) : ∀ x, x ∈ R → x ∈ S := fun x hx => by
  refine Decidable.byContradiction fun hn => ?_
  -- some y of S is not in R
  have hy : ∃ y, y ∈ S ∧ y ∉ R := by
    refine Decidable.byContradiction fun hno => ?_
    have hall : ∀ y ∈ x :: S, y ∈ R := fun y hy => by
      rw [List.mem_cons] at hy
      rcases hy with rfl | hy
      · exact hx
      · exact Decidable.byContradiction fun h => hno ⟨y, hy, h⟩
    have := nodup_sub (x :: S) R (List.nodup_cons.2 ⟨hn, hS.nd⟩) hall
    have h1 := hR.len
    have h2 := hS.len
    simp only [List.length_cons] at this
    omega
  obtain ⟨y, hy1, hy2⟩ := hy
  exact farD_ir (hS.far x (hR.lt x hx) hn y hy1) (hR.far y (hS.lt y hy1) hy2 x hx)
theorem NearL.uniq {k n : Nat} {dP : Nat → Int} {R S : List Nat} (hR : NearL k n dP R) (hS : NearL k n dP S) : R = S :=
  srt_eq R S hR.srt hS.srt fun x => ⟨near_sub hR.set hS.set x, near_sub hS.set hR.set x⟩
/-- One more continues it. -/
theorem NearL.take {k k' n : Nat} {dP : Nat → Int} {S : List Nat} (hS : NearL k' n dP S) (hk : k ≤ k') : NearL k n dP (S.take k) := by
  have hcut := List.take_append_drop k S
  have hnd : (S.take k ++ S.drop k).Nodup := by rw [hcut]; exact hS.set.nd
  have hsr : (S.take k ++ S.drop k).Pairwise fun a b => farD dP b a = true := by rw [hcut]; exact hS.srt
  have hp := List.pairwise_append.1 hsr
  refine ⟨⟨?_, fun a ha => hS.set.lt a (List.mem_of_mem_take ha), (List.nodup_append.1 hnd).1, fun p hp1 hp2 a ha => ?_⟩, hp.1⟩
  · rw [List.length_take, hS.set.len]; omega
  · by_cases hpS : p ∈ S
    · rw [← hcut, List.mem_append] at hpS
      rcases hpS with h | h
      · exact absurd h hp2
      · exact hp.2.2 a ha p h
    · exact hS.set.far p hp1 hpS a (List.mem_of_mem_take ha)
theorem near_more {k n : Nat} {dP : Nat → Int} {R S : List Nat} (hR : NearL k n dP R) (hS : NearL (k + 1) n dP S) : R = S.take R.length := by
  have h := hR.uniq (hS.take (Nat.le_succ k))
  by_cases hk : k ≤ n
  · have : R.length = k := by rw [hR.set.len]; omega
    rw [this]; exact h
  · have h1 := hR.set.len
    have h2 := hS.set.len
    rw [List.take_of_length_le (by omega)] at h
    rw [List.take_of_length_le (by omega)]
    exact h
/-- Farther down the list is no nearer. -/
theorem NearL.le {k n : Nat} {dP : Nat → Int} {R : List Nat} (hR : NearL k n dP R) {i j a b : Nat} (hij : i ≤ j) (ha : R[i]? = some a) (hb : R[j]? = some b) : dP a ≤ dP b := by
  by_cases e : i = j
  · subst e; rw [ha] at hb; injection hb with hb; rw [hb]; exact Int.le_refl _
  · obtain ⟨hi, ha⟩ := List.getElem?_eq_some_iff.1 ha
    obtain ⟨hj, hb⟩ := List.getElem?_eq_some_iff.1 hb
    have h := List.pairwise_iff_getElem.1 hR.srt i j hi hj (by omega)
    rw [ha, hb] at h
    unfold farD at h
    simp only [decide_eq_true_eq] at h
    omega
theorem NearL.out {k n : Nat} {dP : Nat → Int} {R : List Nat} (hR : NearL k n dP R) {p a : Nat} (hp : p < n) (hn : p ∉ R) (ha : a ∈ R) : dP a ≤ dP p := by
  have h := hR.set.far p hp hn a ha
  unfold farD at h
  simp only [decide_eq_true_eq] at h
  omega
end Go.Proofs.Ng
end

section
/-
  Walks: equal lists of numbers are the same.
-/
namespace Go.Proofs.Ng
open Go.RowKit

set_option maxRecDepth 100000 in
set_option maxHeartbeats 2000000 in
theorem same17 (oa ob : Option Addr) (ca cb : Nat) (t : List Int) (w : World) (hA : Sl w oa 1 (pvals t)) (hB : Sl w ob 1 (pvals t)) (htl : t.length ≤ 100000) :
    Calls Tryz.prog 18 #[.slice oa t.length ca, .slice ob t.length cb] w (BoolP true w) := by
  go_enter Tryz.func18, Tryz.ntmps18
  go_wp2_with fail
  go_loopw [5] (fun i W => ∃ k : Nat, i = .int .i64 (k : Nat) ∧ k ≤ t.length ∧ Below w.heap.size w W) (fun i _ => t.length - (intOf i).toNat)
  case atStart => exact ⟨0, rfl, Nat.zero_le _, Below.refl _ _⟩
  case round =>
    obtain ⟨k, rfl, hk, hW⟩ := hrel
    obtain ⟨Wb, rfl⟩ : ∃ X, X = wr := ⟨_, rfl⟩
    by_cases hlt : k < t.length
    · obtain ⟨x, hx⟩ : ∃ x, t[k]? = some x := ⟨_, List.getElem?_eq_getElem hlt⟩
      obtain ⟨ba, offa, rfl, z1, la⟩ := pv_get (hA.keep hW) hx
      obtain ⟨bb, offb, rfl, z2, lb⟩ := pv_get (hB.keep hW) hx
      clear hx
      go_wp2_with fail
      go_quiet (fail)
      have HW := Lib.hid (below_call hW (below_drew Wb nq))
      generalize Wb.drewN nq = V at HW ⊢
      go_wp2_with fail
      go_roundw
      case rel => exact ⟨k + 1, by simp, by omega, HW.out⟩
      case measure => simp [intOf]; omega
    · have hke : k = t.length := by omega
      subst hke
      go_wp2_with fail
      go_ret
      exact ⟨rfl, hW⟩
/-- A block of numbers, as a slice of its first m. -/
theorem blk_sl {W : World} {b : Nat} {xs : List Int} (m : Nat) (h : Blk W b (pflat xs)) : Sl W (some ⟨b, 0, none⟩) 1 (pvals (xs.take m)) := fun _ => by
  refine ⟨b, 0, rfl, ⟨h.lt, fun k row hk j v hj => ?_⟩⟩
  unfold pvals at hk
  rw [List.getElem?_map] at hk
  cases hx : (xs.take m)[k]? with
  | none => rw [hx] at hk; cases hk
  | some x =>
    rw [hx] at hk
    injection hk with hk
    subst hk
    have hj0 : j = 0 := by
      cases j with
      | zero => rfl
      | succ j => simp at hj
    subst hj0
    simp at hj
    subst hj
    have hxx : xs[k]? = some x := by
      rw [List.getElem?_take] at hx
      split at hx
      · exact hx
      · cases hx
    have := h.c k _ (pfl_get hxx)
    simpa using this
end Go.Proofs.Ng
end

section
/-
  Made robots pass the check.
-/
namespace Go.Proofs.Ng
open Go.RowKit

theorem nm_ok (k : Nat) (h : k = 0 ∨ k = 1 ∨ k = 2) : nameB (nm (k : Nat)) = true := by rcases h with rfl | rfl | rfl <;> kernel_rfl
theorem nm_self (k : Nat) (h : k = 0 ∨ k = 1 ∨ k = 2) : eqS (nm (k : Nat)) (nm (k : Nat)) = true := by rcases h with rfl | rfl | rfl <;> kernel_rfl
theorem nm_ne (i k : Nat) (h : k = 0 ∨ k = 1 ∨ k = 2) (hi : i < k) : eqS (nm (i : Nat)) (nm (k : Nat)) = false := by
  rcases h with rfl | rfl | rfl
  · omega
  · obtain rfl : i = 0 := by omega
    kernel_rfl
  · rcases (show i = 0 ∨ i = 1 by omega) with rfl | rfl <;> kernel_rfl
theorem okR_rob {js : List JV} {ms : List MV} {oa om : Option Addr} {W : World} (h : RobP js ms oa om W) : okR js ms := by
  have h1 := h.1
  have h3 := h.2.1
  have h4 := h.2.2.1
  have h5 := h.2.2.2.1
  refine ⟨⟨by omega, by omega⟩, fun k j hj => ?_, by omega, h5⟩
  have g := h4 k j hj
  have hk : k < js.length := (List.getElem?_eq_some_iff.1 hj).1
  have hk3 : k = 0 ∨ k = 1 ∨ k = 2 := by omega
  have hn : nameB j.name = true := by rw [g.name]; exact nm_ok k hk3
  have hf : findF js j.name = (k : Nat) := findF_at hj (by rw [g.name]; exact nm_self k hk3) (fun i j2 hi hj2 => by rw [g.name, (h4 i j2 hj2).name]; exact nm_ne i k hk3 hi)
  have hki := g.kind; have hpa := g.parent; have ho := g.off; have hl := g.lim; have hw := g.weight; have hs := g.speed; have ha := g.accel; have ht := g.torque
  have hb : beyondB j.o0 j.o1 j.o2 = false := by unfold beyondB farB; simp; omega
  unfold checkJ
  rw [if_neg (by simp [hn, hf]), if_neg (by omega), if_neg (by omega), if_neg (by simp [hb]), if_neg (by omega), if_neg ?_]
  have e1 : from1B j.weight 1024 = true := by unfold from1B; exact decide_eq_true (by omega)
  have e2 : from1B j.speed 1048576 = true := by unfold from1B; exact decide_eq_true (by omega)
  have e3 : from1B j.accel 1048576 = true := by unfold from1B; exact decide_eq_true (by omega)
  have e4 : from1B j.torque 1099511627776 = true := by unfold from1B; exact decide_eq_true (by omega)
  simp [e1, e2, e3, e4]
/-- Configurations are small. -/
theorem small_in {js : List JV} {ms : List MV} {oa om : Option Addr} {W : World} (h : RobP js ms oa om W) {q : List Int} (hl : q.length = js.length) (hq : inTo js q) : smallB q = true := by
  unfold smallB
  rw [List.all_eq_true]
  intro x hx
  obtain ⟨k, hk, rfl⟩ := List.getElem_of_mem hx
  obtain ⟨j, hj⟩ : ∃ j, js[k]? = some j := ⟨_, List.getElem?_eq_getElem (by omega)⟩
  have g := h.2.2.1 k j hj
  have h1 := hq k j _ hj (List.getElem?_eq_getElem hk)
  have h2 := limitF_bd j.kind
  have h3 := g.lim
  unfold okX
  exact decide_eq_true (by omega)
end Go.Proofs.Ng
end

