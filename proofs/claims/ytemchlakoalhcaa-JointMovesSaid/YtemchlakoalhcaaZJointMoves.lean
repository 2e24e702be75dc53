/-
  JointMoves: for every input, the law returns true: Moves and the reference list the same moves, for arbitrary teams and places and for made ones. No condition.
  The row's frame follows the kit's proof-skeleton; the walk and all beneath it are this claim's own.
-/
import Derived.Test.YtemchlakoalhcaaZJointMoves27
import Derived.Test.YtemchlakoalhcaaZJointMoves28
import Derived.Test.YtemchlakoalhcaaRows
import Derived.WalkKit
set_option linter.unusedVariables false
namespace Go.Proofs.Ytemchlakoalhcaa.jointMoves
open Go.ChangeShapes Go.WideShapes Go.ChangeAt Go.RowKit
set_option linter.unusedVariables false

theorem readables : ∀ t ∈ (#[26, 22, 22, 22] : Array TypeId).toList, Try.prog.readableRec t = true ∧ t < Try.prog.types.size := by
  intro t ht
  have h : t = 26 ∨ t = 22 := by simp at ht; exact ht
  rcases h with rfl | rfl
  · exact Jn.read26
  · exact Jn.read22

set_option maxRecDepth 100000 in
theorem lifted (os : Os) (started : os.Started) (H : Type) (enc : TypeId × Value → H) :
    ReturnsInHanded {} Try.checked os 7 .any (Rows.jointMovesSpec.pre6 enc Try.prog Try.f7 Rows.jointMovesRow.domain false) (Rows.jointMovesSpec.post enc Try.prog Try.f7 false true false false) := by
  refine returnsInHanded_of_change (C := Try.checked) Jn.own37 started (by kernel_rfl) Try.func7
    (ChangeSpec.witness6 (enc := enc) (C := Try.checked) false ⟨#[], #[.agg #[.slice none 0 0, .slice none 0 0], .slice none 0 0, .slice none 0 0, .slice none 0 0], []⟩ 7 (by kernel_rfl) (by kernel_rfl) (by kernel_rfl) (by kernel_rfl)) ?_
  intro W base args ds gs before hval0 hW hcnd _
  have hval : ∀ (j : Nat) t v, Try.f7.params[j]? = some t → args[j]? = some v → Value.okWide Try.prog W .any base t v := hval0
  have hW' := hW
  obtain ⟨p, q, hA0, hV, rfl, hfz, hnd⟩ := hW
  have hA : DataW.TrodAll enc Try.prog W 0 (fun _ => true) true Try.f7.params.toList args.toList ds p := hA0
  have hAk := hA
  rw [Try.params7] at hA hval
  obtain ⟨v0, vs0, d0, ds0, p0, q0, hargs, rfl, rfl, h0, r0⟩ := trodAll_cons hA
  obtain ⟨v1, vs1, d1, ds1, p1, q1, rfl, rfl, rfl, h1, r1⟩ := trodAll_cons r0
  obtain ⟨v2, vs2, d2, ds2, p2, q2, rfl, rfl, rfl, h2, r2⟩ := trodAll_cons r1
  obtain ⟨v3, vs3, d3, ds3, p3, q3, rfl, rfl, rfl, h3, r3⟩ := trodAll_cons r2
  obtain ⟨rfl, rfl, rfl⟩ := trodAll_nil r3
  obtain rfl : args = #[v0, v1, v2, v3] := by cases args; simp_all
  obtain ⟨rfl, rfl⟩ := trodVars_none hV
  obtain ⟨om, oc0, cm, cc0, ms, cs, i0, hm0, hc0, hT⟩ := Jn.open_team (hval 0 26 v0 rfl rfl) h0
  obtain ⟨a1, n1, c1, rfl⟩ := okWide_slice Try.underlying22 (hval 1 22 v1 rfl rfl)
  obtain ⟨a2, n2, c2, rfl⟩ := okWide_slice Try.underlying22 (hval 2 22 v2 rfl rfl)
  obtain ⟨a3, n3, c3, rfl⟩ := okWide_slice Try.underlying22 (hval 3 22 v3 rfl rfl)
  obtain ⟨f1, h1⟩ := h1
  obtain ⟨f2, h2⟩ := h2
  obtain ⟨f3, h3⟩ := h3
  obtain ⟨oc, cc, us, i4, hu, hU⟩ := Jn.open_nums Try.underlying22 Try.underlying3 Jn.clo3 (v := .slice a1 n1 c1) h1
  obtain ⟨od, cd, bs, i5, hb, hB⟩ := Jn.open_nums Try.underlying22 Try.underlying3 Jn.clo3 (v := .slice a2 n2 c2) h2
  obtain ⟨ol, cl, ls, i3, hl, hL⟩ := Jn.open_nums Try.underlying22 Try.underlying3 Jn.clo3 (v := .slice a3 n3 c3) h3
  rw [i0, i3, i4, i5] at hAk hW' ⊢
  clear hA0 hval0
  simp only [List.append_nil] at hW' hAk
  refine (Jn.jmoves_any om oc0 oc od ol cm cc0 cc cd cl ms cs us bs ls W hT hU hB hL hm0 hc0 hu hb hl).mono fun e W' ⟨he, hg⟩ => ?_
  subst he
  have hlt := fun p hp => hW'.lt p hp
  exact ⟨_, rfl, Jn.post_below (pv := []) hW' (fun _ _ _ => (trodAll_cons_mk (shut_bool Try.underlying4 _) trodAll_mk0)) (fun sp hsp => Jn.stays Jn.laidOut _ _ _ _ (by rw [Try.params7]; exact readables) hAk (fun x hx => hg.same (hlt x hx)) hsp) (fun _ _ => rfl) (by simp)
    hg (ok_one (by kernel_rfl) rfl (okWide_bool_mk Try.underlying4 _))⟩

theorem over : Rows.jointMovesRow.holds Try.pinned (OpenSpec.ofChange Rows.jointMovesSpec) :=
  OpenClaim.holds_of_wide 7 Try.f7 rfl rfl rfl rfl rfl rfl rfl ⟨rfl, rfl, rfl, rfl, rfl⟩ rfl rfl rfl rfl rfl (by kernel_rfl) Try.func7 (by kernel_rfl)
    (of_decide_eq_true (by kernel_rfl)) (by unfold Func.isWrapper; first | (rw [if_pos (by decide +kernel)]; kernel_rfl) | (rw [if_neg (by decide +kernel)]; exact ⟨rfl, rfl⟩))
    (fun os started H enc _ => lifted os started H enc)

/-- THE STATEMENT -/
theorem proved : Rows.JointMovesSaid :=
  over
#print axioms proved
end Go.Proofs.Ytemchlakoalhcaa.jointMoves
