/-
  NeighborFinds: for every input, the law returns true: Nearest and Within return what the reference returns, for arbitrary arguments and for points of a robot. No condition.
  The row's frame follows the kit's proof-skeleton; the walk and all beneath it are this claim's own.
-/
import Derived.Test.YteeeogdfnpdpcaaGreatZNeighborFinds27
import Derived.Test.YteeeogdfnpdpcaaGreatRows
import Derived.WalkKit
import Derived.SizedLaws
set_option linter.unusedVariables false
namespace Go.Proofs.YteeeogdfnpdpcaaGreat.neighborFinds
open Go.ChangeShapes Go.WideShapes Go.ChangeAt Go.RowKit
set_option linter.unusedVariables false
theorem readables : ∀ t ∈ (#[25, 26, 27, 28, 29, 29, 3, 3, 2] : Array TypeId).toList, Tryz.prog.readableRec t = true ∧ t < Tryz.prog.types.size := by
  intro t ht
  have h : t = 25 ∨ t = 26 ∨ t = 27 ∨ t = 28 ∨ t = 29 ∨ t = 3 ∨ t = 2 := by simp at ht; exact ht
  rcases h with rfl | rfl | rfl | rfl | rfl | rfl | rfl
  · exact Ng.read25
  · exact Ng.read22
  · exact Ng.read23
  · exact Ng.read28
  · exact Ng.read24
  · exact Ng.read3
  · exact Ng.read2

set_option maxRecDepth 100000 in
theorem lifted (os : Os) (started : os.Started) (H : Type) (enc : TypeId × Value → H) :
    ReturnsInHanded {} Tryz.checked os 3 .any (Rows.neighborFindsSpec.pre6 enc Tryz.prog Tryz.f3 Rows.neighborFindsRow.domain false) (Rows.neighborFindsSpec.post enc Tryz.prog Tryz.f3 false true false false) := by
  refine returnsInHanded_of_change_sized (C := Tryz.checked) Ng.own24 started (by kernel_rfl) Tryz.func3
    (ChangeSpec.witness6 (enc := enc) (C := Tryz.checked) false ⟨#[], #[.agg #[.slice none 0 0, .slice none 0 0], .slice none 0 0, .slice none 0 0, .slice none 0 0, .slice none 0 0, .slice none 0 0, .int .i64 0, .int .i64 0, .int .i64 0], []⟩ 5 (by kernel_rfl) (by kernel_rfl) (by kernel_rfl) (by kernel_rfl)) ?_
  intro W base args ds gs before hval0 hW hcnd hsz0 _
  have hval : ∀ (j : Nat) t v, Tryz.f3.params[j]? = some t → args[j]? = some v → Value.okWide Tryz.prog W .any base t v := hval0
  have hsz : (DataW.weightsEach Tryz.prog (Tryz.f3.params.toList ++ []) (ds ++ gs)).all (· ≤ reachBytes) = true := hsz0
  have hW' := hW
  obtain ⟨p, q, hA0, hV, rfl, hfz, hnd⟩ := hW
  have hA : DataW.TrodAll enc Tryz.prog W 0 (fun _ => true) true Tryz.f3.params.toList args.toList ds p := hA0
  have hAk := hA
  rw [Tryz.params3] at hA hval hsz
  obtain ⟨v0, vs0, d0, ds0, p0, q0, hargs, rfl, rfl, h0, r0⟩ := trodAll_cons hA
  obtain ⟨v1, vs1, d1, ds1, p1, q1, rfl, rfl, rfl, h1, r1⟩ := trodAll_cons r0
  obtain ⟨v2, vs2, d2, ds2, p2, q2, rfl, rfl, rfl, h2, r2⟩ := trodAll_cons r1
  obtain ⟨v3, vs3, d3, ds3, p3, q3, rfl, rfl, rfl, h3, r3⟩ := trodAll_cons r2
  obtain ⟨v4, vs4, d4, ds4, p4, q4, rfl, rfl, rfl, h4, r4⟩ := trodAll_cons r3
  obtain ⟨v5, vs5, d5, ds5, p5, q5, rfl, rfl, rfl, h5, r5⟩ := trodAll_cons r4
  obtain ⟨v6, vs6, d6, ds6, p6, q6, rfl, rfl, rfl, h6, r6⟩ := trodAll_cons r5
  obtain ⟨v7, vs7, d7, ds7, p7, q7, rfl, rfl, rfl, h7, r7⟩ := trodAll_cons r6
  obtain ⟨v8, vs8, d8, ds8, p8, q8, rfl, rfl, rfl, h8, r8⟩ := trodAll_cons r7
  obtain ⟨rfl, rfl, rfl⟩ := trodAll_nil r8
  obtain rfl : args = #[v0, v1, v2, v3, v4, v5, v6, v7, v8] := by cases args; simp_all
  obtain ⟨rfl, rfl⟩ := trodVars_none hV
  obtain ⟨oj, om, cj, cm, js, ms, i0, hlm, hJ, hM⟩ := Ng.open_robot (hval 0 25 v0 rfl rfl) h0
  obtain ⟨a1, n1, c1, rfl⟩ := okWide_slice Tryz.underlying26 (hval 1 26 v1 rfl rfl)
  obtain ⟨a2, n2, c2, rfl⟩ := okWide_slice Tryz.underlying27 (hval 2 27 v2 rfl rfl)
  obtain ⟨a3, n3, c3, rfl⟩ := okWide_slice Tryz.underlying28 (hval 3 28 v3 rfl rfl)
  obtain ⟨a4, n4, c4, rfl⟩ := okWide_slice Tryz.underlying29 (hval 4 29 v4 rfl rfl)
  obtain ⟨a5, n5, c5, rfl⟩ := okWide_slice Tryz.underlying29 (hval 5 29 v5 rfl rfl)
  obtain ⟨x6, rfl⟩ := okWide_int Tryz.underlying3 (hval 6 3 v6 rfl rfl)
  obtain ⟨x7, rfl⟩ := okWide_int Tryz.underlying3 (hval 7 3 v7 rfl rfl)
  obtain ⟨x8, rfl⟩ := okWide_int Tryz.underlying2 (hval 8 2 v8 rfl rfl)
  obtain ⟨f1, h1⟩ := h1
  obtain ⟨f2, h2⟩ := h2
  obtain ⟨f3, h3⟩ := h3
  obtain ⟨f4, h4⟩ := h4
  obtain ⟨f5, h5⟩ := h5
  obtain ⟨f7, h7⟩ := h7
  obtain ⟨hk1, hk2⟩ := Ng.open_i64 h7
  obtain ⟨op, cp, pts, i1, hP⟩ := Ng.open_pts (v := .slice a1 n1 c1) h1
  obtain ⟨ot, ct, t, i2, hT⟩ := Ng.open_nodes (v := .slice a2 n2 c2) h2
  obtain ⟨oq, cq, q, i3, hq, hQ, _, _⟩ := Ng.open_nums Tryz.underlying28 Tryz.underlying2 Ng.clo2 (v := .slice a3 n3 c3) h3
  obtain ⟨ol, cl, ls, i4, hl, hL, _, _⟩ := Ng.open_nums Tryz.underlying29 Tryz.underlying3 Ng.clo3 (v := .slice a4 n4 c4) h4
  obtain ⟨ox, cx, xs, i5, hm, hX, hmn, hmd⟩ := Ng.open_nums Tryz.underlying29 Tryz.underlying3 Ng.clo3 (v := .slice a5 n5 c5) h5
  have hreach : xs.length * 8 ≤ 140737488351232 := by
    rcases hmd with ⟨_, e⟩ | ⟨elems, spare, e, e2⟩
    · rw [e]; simp
    · have := sized_slice hsz (j := 5) (t := 29) (e := 3) rfl (by simp only at e; rw [← e]; rfl) Tryz.underlying29
      have hb : Tryz.prog.bytesOf 3 = 8 := by kernel_rfl
      rw [hb] at this
      unfold reachBytes at this
      omega
  rw [i0, i1, i2, i3, i4, i5] at hAk hW' ⊢
  clear hA0 hval0 hsz0 hsz
  simp only [List.append_nil] at hW' hAk
  refine (Ng.finds3 oj om op ot oq ol ox cj cm cp ct cq cl cx js ms pts t q ls xs x6 x7 x8 W hlm hJ hM hP hT hQ hL hl hX hreach hmn hk1 hk2).mono fun e W' ⟨he, hg⟩ => ?_
  subst he
  have hlt := fun p hp => hW'.lt p hp
  exact ⟨_, rfl, Ng.post_below (pv := []) hW' (fun _ _ _ => (trodAll_cons_mk (shut_bool Tryz.underlying4 _) trodAll_mk0)) (fun sp hsp => Ng.stays Ng.laidOut _ _ _ _ (by rw [Tryz.params3]; exact readables) hAk (fun x hx => hg.same (hlt x hx)) hsp) (fun _ _ => rfl) (by simp)
    hg (ok_one (by kernel_rfl) rfl (okWide_bool_mk Tryz.underlying4 _))⟩

theorem over : Rows.neighborFindsRow.holds Tryz.pinned (OpenSpec.ofChange Rows.neighborFindsSpec) :=
  OpenClaim.holds_of_wide 3 Tryz.f3 rfl rfl rfl rfl rfl rfl rfl ⟨rfl, rfl, rfl, rfl, rfl⟩ rfl rfl rfl rfl rfl (by kernel_rfl) Tryz.func3 (by kernel_rfl)
    (of_decide_eq_true (by kernel_rfl)) (by unfold Func.isWrapper; first | (rw [if_pos (by decide +kernel)]; kernel_rfl) | (rw [if_neg (by decide +kernel)]; exact ⟨rfl, rfl⟩))
    (fun os started H enc _ => lifted os started H enc)

/-- THE STATEMENT -/
theorem proved : Rows.NeighborFindsSaid :=
  over
#print axioms proved
end Go.Proofs.YteeeogdfnpdpcaaGreat.neighborFinds
