/-
  NeighborOrder: for every input, the law returns true: with the points in another order, the distances of the nearest points are the same. No condition.
  The row's frame follows the kit's proof-skeleton; the walk and all beneath it are this claim's own.
-/
import Derived.Test.YteeeogdfnpdpcaaZNeighborOrder26
import Derived.Test.YteeeogdfnpdpcaaRows
import Derived.WalkKit
import Derived.SizedLaws
set_option linter.unusedVariables false
namespace Go.Proofs.Yteeeogdfnpdpcaa.neighborOrder
open Go.ChangeShapes Go.WideShapes Go.ChangeAt Go.RowKit
set_option linter.unusedVariables false

theorem readables : ∀ t ∈ (#[24, 24, 24, 3, 3] : Array TypeId).toList, Try.prog.readableRec t = true ∧ t < Try.prog.types.size := by
  intro t ht
  have h : t = 24 ∨ t = 3 := by simp at ht; exact ht
  rcases h with rfl | rfl
  · exact Ng.read24
  · exact Ng.read3

set_option maxRecDepth 100000 in
theorem lifted (os : Os) (started : os.Started) (H : Type) (enc : TypeId × Value → H) :
    ReturnsInHanded {} Try.checked os 6 .any (Rows.neighborOrderSpec.pre6 enc Try.prog Try.f6 Rows.neighborOrderRow.domain false) (Rows.neighborOrderSpec.post enc Try.prog Try.f6 false true false false) := by
  refine returnsInHanded_of_change_sized (C := Try.checked) Ng.own24 started (by kernel_rfl) Try.func6
    (ChangeSpec.witness6 (enc := enc) (C := Try.checked) false ⟨#[], #[.slice none 0 0, .slice none 0 0, .slice none 0 0, .int .i64 0, .int .i64 0], []⟩ 5 (by kernel_rfl) (by kernel_rfl) (by kernel_rfl) (by kernel_rfl)) ?_
  intro W base args ds gs before hval0 hW hcnd hsz0 _
  have hval : ∀ (j : Nat) t v, Try.f6.params[j]? = some t → args[j]? = some v → Value.okWide Try.prog W .any base t v := hval0
  have hsz : (DataW.weightsEach Try.prog (Try.f6.params.toList ++ []) (ds ++ gs)).all (· ≤ reachBytes) = true := hsz0
  have hW' := hW
  obtain ⟨p, q, hA0, hV, rfl, hfz, hnd⟩ := hW
  have hA : DataW.TrodAll enc Try.prog W 0 (fun _ => true) true Try.f6.params.toList args.toList ds p := hA0
  have hAk := hA
  rw [Try.params6] at hA hval hsz
  obtain ⟨v0, vs0, d0, ds0, p0, q0, hargs, rfl, rfl, h0, r0⟩ := trodAll_cons hA
  obtain ⟨v1, vs1, d1, ds1, p1, q1, rfl, rfl, rfl, h1, r1⟩ := trodAll_cons r0
  obtain ⟨v2, vs2, d2, ds2, p2, q2, rfl, rfl, rfl, h2, r2⟩ := trodAll_cons r1
  obtain ⟨v3, vs3, d3, ds3, p3, q3, rfl, rfl, rfl, h3, r3⟩ := trodAll_cons r2
  obtain ⟨v4, vs4, d4, ds4, p4, q4, rfl, rfl, rfl, h4, r4⟩ := trodAll_cons r3
  obtain ⟨rfl, rfl, rfl⟩ := trodAll_nil r4
  obtain rfl : args = #[v0, v1, v2, v3, v4] := by cases args; simp_all
  obtain ⟨rfl, rfl⟩ := trodVars_none hV
  obtain ⟨a0, n0, c0, rfl⟩ := okWide_slice Try.underlying24 (hval 0 24 v0 rfl rfl)
  obtain ⟨a1, n1, c1, rfl⟩ := okWide_slice Try.underlying24 (hval 1 24 v1 rfl rfl)
  obtain ⟨a2, n2, c2, rfl⟩ := okWide_slice Try.underlying24 (hval 2 24 v2 rfl rfl)
  obtain ⟨x3, rfl⟩ := okWide_int Try.underlying3 (hval 3 3 v3 rfl rfl)
  obtain ⟨x4, rfl⟩ := okWide_int Try.underlying3 (hval 4 3 v4 rfl rfl)
  obtain ⟨f0, h0⟩ := h0
  obtain ⟨f1, h1⟩ := h1
  obtain ⟨f2, h2⟩ := h2
  obtain ⟨ol, cl, ls, i3, hl, hL, _, _⟩ := Ng.open_nums Try.underlying24 Try.underlying3 Ng.clo3 (v := .slice a0 n0 c0) h0
  obtain ⟨om, cm, xs, i4, hm, hM, hmn, hmd⟩ := Ng.open_nums Try.underlying24 Try.underlying3 Ng.clo3 (v := .slice a1 n1 c1) h1
  obtain ⟨oo, co, os', i5, hol, hO, _, _⟩ := Ng.open_nums Try.underlying24 Try.underlying3 Ng.clo3 (v := .slice a2 n2 c2) h2
  have hreach : xs.length * 8 ≤ 140737488351232 := by
    rcases hmd with ⟨_, e⟩ | ⟨elems, spare, e, e2⟩
    · rw [e]; simp
    · have := sized_slice hsz (j := 1) (t := 24) (e := 3) rfl (by simp only at e; rw [← e]; rfl) Try.underlying24
      have hb : Try.prog.bytesOf 3 = 8 := by kernel_rfl
      rw [hb] at this
      unfold reachBytes at this
      omega
  rw [i3, i4, i5] at hAk hW' ⊢
  clear hA0 hval0 hsz0 hsz
  simp only [List.append_nil] at hW' hAk
  refine (Ng.order6 ol om oo cl cm co ls xs os' x3 x4 W hL hl hM hreach hmn hO hol).mono fun e W' ⟨he, hg⟩ => ?_
  subst he
  have hlt := fun p hp => hW'.lt p hp
  exact ⟨_, rfl, Ng.post_below (pv := []) hW' (fun _ _ _ => (trodAll_cons_mk (shut_bool Try.underlying4 _) trodAll_mk0)) (fun sp hsp => Ng.stays Ng.laidOut _ _ _ _ (by rw [Try.params6]; exact readables) hAk (fun x hx => hg.same (hlt x hx)) hsp) (fun _ _ => rfl) (by simp)
    hg (ok_one (by kernel_rfl) rfl (okWide_bool_mk Try.underlying4 _))⟩

theorem over : Rows.neighborOrderRow.holds Try.pinned (OpenSpec.ofChange Rows.neighborOrderSpec) :=
  OpenClaim.holds_of_wide 6 Try.f6 rfl rfl rfl rfl rfl rfl rfl ⟨rfl, rfl, rfl, rfl, rfl⟩ rfl rfl rfl rfl rfl (by kernel_rfl) Try.func6 (by kernel_rfl)
    (of_decide_eq_true (by kernel_rfl)) (by unfold Func.isWrapper; first | (rw [if_pos (by decide +kernel)]; kernel_rfl) | (rw [if_neg (by decide +kernel)]; exact ⟨rfl, rfl⟩))
    (fun os started H enc _ => lifted os started H enc)

/-- THE STATEMENT -/
theorem proved : Rows.NeighborOrderSaid :=
  over
#print axioms proved
end Go.Proofs.Yteeeogdfnpdpcaa.neighborOrder
