/-
  NeighborFree: for every input, the law returns true: the results of Nearest and Within are the same for the chain as for the tree that Build returns. No condition.
  The row's frame follows the kit's proof-skeleton; the walk and all beneath it are this claim's own.
-/
import Derived.Test.YteeeogdfnpdpcaaGreatZNeighborFree27
import Derived.Test.YteeeogdfnpdpcaaGreatRows
import Derived.WalkKit
import Derived.SizedLaws
set_option linter.unusedVariables false
namespace Go.Proofs.YteeeogdfnpdpcaaGreat.neighborFree
open Go.ChangeShapes Go.WideShapes Go.ChangeAt Go.RowKit
set_option linter.unusedVariables false
theorem read2z : Tryz.prog.readableRec 2 = true ∧ 2 < Tryz.prog.types.size := ⟨by kernel_rfl, of_decide_eq_true (by kernel_rfl)⟩

theorem readables : ∀ t ∈ (#[29, 29, 3, 3, 2] : Array TypeId).toList, Tryz.prog.readableRec t = true ∧ t < Tryz.prog.types.size := by
  intro t ht
  have h : t = 29 ∨ t = 3 ∨ t = 2 := by simp at ht; exact ht
  rcases h with rfl | rfl | rfl
  · exact Ng.read24
  · exact Ng.read3
  · exact read2z

set_option maxRecDepth 100000 in
theorem lifted (os : Os) (started : os.Started) (H : Type) (enc : TypeId × Value → H) :
    ReturnsInHanded {} Tryz.checked os 5 .any (Rows.neighborFreeSpec.pre6 enc Tryz.prog Tryz.f5 Rows.neighborFreeRow.domain false) (Rows.neighborFreeSpec.post enc Tryz.prog Tryz.f5 false true false false) := by
  refine returnsInHanded_of_change_sized (C := Tryz.checked) Ng.own24 started (by kernel_rfl) Tryz.func5
    (ChangeSpec.witness6 (enc := enc) (C := Tryz.checked) false ⟨#[], #[.slice none 0 0, .slice none 0 0, .int .i64 0, .int .i64 0, .int .i64 0], []⟩ 5 (by kernel_rfl) (by kernel_rfl) (by kernel_rfl) (by kernel_rfl)) ?_
  intro W base args ds gs before hval0 hW hcnd hsz0 _
  have hval : ∀ (j : Nat) t v, Tryz.f5.params[j]? = some t → args[j]? = some v → Value.okWide Tryz.prog W .any base t v := hval0
  have hsz : (DataW.weightsEach Tryz.prog (Tryz.f5.params.toList ++ []) (ds ++ gs)).all (· ≤ reachBytes) = true := hsz0
  have hW' := hW
  obtain ⟨p, q, hA0, hV, rfl, hfz, hnd⟩ := hW
  have hA : DataW.TrodAll enc Tryz.prog W 0 (fun _ => true) true Tryz.f5.params.toList args.toList ds p := hA0
  have hAk := hA
  rw [Tryz.params5] at hA hval hsz
  obtain ⟨v0, vs0, d0, ds0, p0, q0, hargs, rfl, rfl, h0, r0⟩ := trodAll_cons hA
  obtain ⟨v1, vs1, d1, ds1, p1, q1, rfl, rfl, rfl, h1, r1⟩ := trodAll_cons r0
  obtain ⟨v2, vs2, d2, ds2, p2, q2, rfl, rfl, rfl, h2, r2⟩ := trodAll_cons r1
  obtain ⟨v3, vs3, d3, ds3, p3, q3, rfl, rfl, rfl, h3, r3⟩ := trodAll_cons r2
  obtain ⟨v4, vs4, d4, ds4, p4, q4, rfl, rfl, rfl, h4, r4⟩ := trodAll_cons r3
  obtain ⟨rfl, rfl, rfl⟩ := trodAll_nil r4
  obtain rfl : args = #[v0, v1, v2, v3, v4] := by cases args; simp_all
  obtain ⟨rfl, rfl⟩ := trodVars_none hV
  obtain ⟨a0, n0, c0, rfl⟩ := okWide_slice Tryz.underlying29 (hval 0 29 v0 rfl rfl)
  obtain ⟨a1, n1, c1, rfl⟩ := okWide_slice Tryz.underlying29 (hval 1 29 v1 rfl rfl)
  obtain ⟨x2, rfl⟩ := okWide_int Tryz.underlying3 (hval 2 3 v2 rfl rfl)
  obtain ⟨x3, rfl⟩ := okWide_int Tryz.underlying3 (hval 3 3 v3 rfl rfl)
  obtain ⟨x4, rfl⟩ := okWide_int Tryz.underlying2 (hval 4 2 v4 rfl rfl)
  obtain ⟨f0, h0⟩ := h0
  obtain ⟨f1, h1⟩ := h1
  obtain ⟨ol, cl, ls, i3, hl, hL, _, _⟩ := Ng.open_nums Tryz.underlying29 Tryz.underlying3 Ng.clo3 (v := .slice a0 n0 c0) h0
  obtain ⟨om, cm, xs, i4, hm, hM, hmn, hmd⟩ := Ng.open_nums Tryz.underlying29 Tryz.underlying3 Ng.clo3 (v := .slice a1 n1 c1) h1
  have hreach : xs.length * 8 ≤ 140737488351232 := by
    rcases hmd with ⟨_, e⟩ | ⟨elems, spare, e, e2⟩
    · rw [e]; simp
    · have := sized_slice hsz (j := 1) (t := 29) (e := 3) rfl (by simp only at e; rw [← e]; rfl) Tryz.underlying29
      have hb : Tryz.prog.bytesOf 3 = 8 := by kernel_rfl
      rw [hb] at this
      unfold reachBytes at this
      omega
  rw [i3, i4] at hAk hW' ⊢
  clear hA0 hval0 hsz0 hsz
  simp only [List.append_nil] at hW' hAk
  refine (Ng.free5 ol om cl cm ls xs x2 x3 x4 W hL hl hM hreach hmn).mono fun e W' ⟨he, hg⟩ => ?_
  subst he
  have hlt := fun p hp => hW'.lt p hp
  exact ⟨_, rfl, Ng.post_below (pv := []) hW' (fun _ _ _ => (trodAll_cons_mk (shut_bool Tryz.underlying4 _) trodAll_mk0)) (fun sp hsp => Ng.stays Ng.laidOut _ _ _ _ (by rw [Tryz.params5]; exact readables) hAk (fun x hx => hg.same (hlt x hx)) hsp) (fun _ _ => rfl) (by simp)
    hg (ok_one (by kernel_rfl) rfl (okWide_bool_mk Tryz.underlying4 _))⟩

theorem over : Rows.neighborFreeRow.holds Tryz.pinned (OpenSpec.ofChange Rows.neighborFreeSpec) :=
  OpenClaim.holds_of_wide 5 Tryz.f5 rfl rfl rfl rfl rfl rfl rfl ⟨rfl, rfl, rfl, rfl, rfl⟩ rfl rfl rfl rfl rfl (by kernel_rfl) Tryz.func5 (by kernel_rfl)
    (of_decide_eq_true (by kernel_rfl)) (by unfold Func.isWrapper; first | (rw [if_pos (by decide +kernel)]; kernel_rfl) | (rw [if_neg (by decide +kernel)]; exact ⟨rfl, rfl⟩))
    (fun os started H enc _ => lifted os started H enc)

/-- THE STATEMENT -/
theorem proved : Rows.NeighborFreeSaid :=
  over
#print axioms proved
end Go.Proofs.YteeeogdfnpdpcaaGreat.neighborFree
