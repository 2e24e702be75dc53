/-
  Texts put together: Gk Gl.
-/
import Derived.Test.YtgkihlkhklmgcaaGreatZTrajectorySteps16
import Derived.Test.YtgkihlkhklmgcaaGreatZTrajectorySteps19
import Derived.Test.YtgkihlkhklmgcaaGreatRows
import Derived.WalkKit
import Derived.ProofKit
import Derived.OpenShut
import Derived.Below
import Derived.ChangeSame
import Derived.Carry
import Derived.Lib.SmallJoins
set_option linter.unusedVariables false
section
/-
  TrajectorySteps: the row's frame.
  The row's frame follows the kit's proof-skeleton; the walk (stepsLaw3) and all beneath it are this claim's own.
-/
namespace Go.Proofs.YtgkihlkhklmgcaaGreat.trajectorySteps
open Go.ChangeShapes Go.WideShapes Go.ChangeAt Go.RowKit
set_option linter.unusedVariables false
theorem own : ownKnob Tryz.prog.godebug = none := by kernel_rfl
/-- The post, of a world of which it is known that nothing that stood before has changed. -/
theorem post_below {H : Type} {enc : TypeId × Value → H} {P : Program} {f : Func} {s : ChangeSpec} {apart fresh handsOn again : Bool} {W W' : World} {args : Array Value} {v : Value} {ds gs : List (DataW H)} {before pa pv : List MemPlace}
  (hW : DataW.Whole enc P f.params.toList s.vars apart W args.toList ds gs before)
  (hres : ∀ (b : Nat) (sp : Nat → Bool) (hd : Bool), DataW.TrodAll enc P W' b sp hd f.resultTypes.toList (v.resultList f.resultTypes.size) (s.fn H (ds ++ gs)).results [])
  (hargs : ∀ sp : Nat → Bool, (∀ p ∈ before, sp p.block = true) → DataW.TrodAll enc P W' 0 sp true f.params.toList args.toList (s.fn H (ds ++ gs)).args pa)
  (hvars : ∀ sp : Nat → Bool, (∀ p ∈ before, sp p.block = true) → DataW.TrodVars enc P W' sp s.vars (s.fn H (ds ++ gs)).vars pv)
  (hps : before = pa ++ pv) (hb : Below W.heap.size W W')
  (hok : ∀ (j : Nat) (t : TypeId) (r : Value), f.resultTypes[j]? = some t → (v.resultList f.resultTypes.size)[j]? = some r → Value.okWide P W' .any 0 t r) :
  s.post enc P f apart fresh handsOn again W args v W' := by
 have hlt : ∀ p ∈ before, p.block < W.heap.size := fun p hp => hW.lt p hp
 have hold : ∀ p ∈ before, (fun b => decide (b < W.heap.size)) p.block = true := fun p hp => by simpa using hlt p hp
 refine ⟨ds, gs, before, [], pa, pv, hW, hres _ _ _, hargs _ hold, hvars _ hold, World.keptBut_mono (fun p hp => ⟨hp, ?_⟩) (hb.frame (· ∈ before)), fun _ => ?_⟩
 ·rw [hps, List.mem_append] at hp
  exact Or.inr hp
 ·obtain ⟨_, _, _, _, _, hz, hn⟩ := hW
  refine ⟨hok, _, _, ([] ++ pa) ++ pv, ⟨[] ++ pa, pv, trodAll_append (hargs _ (fun _ _ => rfl)) (hres _ _ _), hvars _ (fun _ _ => rfl), rfl, ?_, ?_⟩, ?_⟩
  ·intro b off hp
   have hin : MemPlace.cell b off ∈ before := by rw [hps]; simpa using hp
   rw [hb.frozen (hlt _ hin)]
   exact hz b off hin
  ·intro ha
   have := hn ha
   rw [hps] at this
   simpa using this
  ·intro p hp _
   rw [hps]
   simpa using hp
/-- What was read reads as it did. -/
theorem stays {H : Type} {enc : TypeId × Value → H} {P : Program} (hl : laidOutB P = true) {W W' : World} {sp' : Nat → Bool} : ∀ (ts : List TypeId) (vs : List Value) (ds : List (DataW H)) (ps : List MemPlace), (∀ t ∈ ts, P.readableRec t = true ∧ t < P.types.size) →
  DataW.TrodAll enc P W 0 (fun _ => true) true ts vs ds ps → (∀ p ∈ ps, W.sameAt W' p) → (∀ p ∈ ps, sp' p.block = true) → DataW.TrodAll enc P W' 0 sp' true ts vs ds ps
 | [], [], [], ps, _, h, _, _ => h
 | t :: ts, v :: vs, d :: ds, ps, ht, h, h1, h2 => by
  obtain ⟨p, q, a, b, rfl⟩ := h
  exact ⟨p, q, WideElems.Trod_stays hl (ht t (by simp)).1 (ht t (by simp)).2 a (fun x hx => h1 x (by simp [hx])) (fun x hx => h2 x (by simp [hx])), stays hl ts vs ds q (fun t h => ht t (by simp [h])) b (fun x hx => h1 x (by simp [hx])) (fun x hx => h2 x (by simp [hx])), rfl⟩
 | [], _ :: _, _, _, _, h, _, _ => by simp [DataW.TrodAll] at h
 | [], [], _ :: _, _, _, h, _, _ => by simp [DataW.TrodAll] at h
 | _ :: _, [], _, _, _, h, _, _ => by simp [DataW.TrodAll] at h
 | _ :: _, _ :: _, [], _, _, h, _, _ => by simp [DataW.TrodAll] at h
theorem readables : ∀ t ∈ (#[25, 26, 26, 3, 27, 27, 27, 3, 3, 3] : Array TypeId).toList, Tryz.prog.readableRec t = true ∧ t < Tryz.prog.types.size := by
 intro t ht
 have h : t = 25 ∨ t = 26 ∨ t = 3 ∨ t = 27 := by
  have h2 : t ∈ [25, 26, 26, 3, 27, 27, 27, 3, 3, 3] := ht
  simp only [List.mem_cons, List.not_mem_nil, or_false] at h2
  rcases h2 with h | h | h | h | h | h | h | h | h | h <;> simp [h]
 rcases h with rfl | rfl | rfl | rfl
 ·exact ⟨by kernel_rfl, of_decide_eq_true (by kernel_rfl)⟩
 ·exact ⟨by kernel_rfl, of_decide_eq_true (by kernel_rfl)⟩
 ·exact ⟨by kernel_rfl, of_decide_eq_true (by kernel_rfl)⟩
 ·exact ⟨by kernel_rfl, of_decide_eq_true (by kernel_rfl)⟩
set_option maxRecDepth 100000 in
theorem lifted (os : Os) (started : os.Started) (H : Type) (enc : TypeId × Value → H) :
  ReturnsInHanded {} Tryz.checked os 3 .any (Rows.trajectoryStepsSpec.pre6 enc Tryz.prog Tryz.f3 Rows.trajectoryStepsRow.domain false) (Rows.trajectoryStepsSpec.post enc Tryz.prog Tryz.f3 false true false false) := by
 refine returnsInHanded_of_change (C := Tryz.checked) own started (by kernel_rfl) Tryz.func3
  (ChangeSpec.witness6 (enc := enc) (C := Tryz.checked) false ⟨#[], #[.agg #[.slice none 0 0, .slice none 0 0], .slice none 0 0, .slice none 0 0, .int .i64 0, .slice none 0 0, .slice none 0 0, .slice none 0 0, .int .i64 0, .int .i64 0, .int .i64 0], []⟩ 12 (by kernel_rfl) (by kernel_rfl) (by kernel_rfl) (by kernel_rfl)) ?_
 intro W base args ds gs before hval0 hW hcnd _
 have hval : ∀ (j : Nat) t v, Tryz.f3.params[j]? = some t → args[j]? = some v → Value.okWide Tryz.prog W .any base t v := hval0
 have hW' := hW
 obtain ⟨p, q, hA0, hV, rfl, hfz, hnd⟩ := hW
 have hA : DataW.TrodAll enc Tryz.prog W 0 (fun _ => true) true Tryz.f3.params.toList args.toList ds p := hA0
 have hAk := hA
 rw [Tryz.params3] at hA hval
 obtain ⟨v0, vs0, d0, ds0, p0, q0, hargs, rfl, rfl, h0, r0⟩ := trodAll_cons hA
 obtain ⟨v1, vs1, d1, ds1, p1, q1, rfl, rfl, rfl, h1, r1⟩ := trodAll_cons r0
 obtain ⟨v2, vs2, d2, ds2, p2, q2, rfl, rfl, rfl, h2, r2⟩ := trodAll_cons r1
 obtain ⟨v3, vs3, d3, ds3, p3, q3, rfl, rfl, rfl, h3, r3⟩ := trodAll_cons r2
 obtain ⟨v4, vs4, d4, ds4, p4, q4, rfl, rfl, rfl, h4, r4⟩ := trodAll_cons r3
 obtain ⟨v5, vs5, d5, ds5, p5, q5, rfl, rfl, rfl, h5, r5⟩ := trodAll_cons r4
 obtain ⟨v6, vs6, d6, ds6, p6, q6, rfl, rfl, rfl, h6, r6⟩ := trodAll_cons r5
 obtain ⟨v7, vs7, d7, ds7, p7, q7, rfl, rfl, rfl, h7, r7⟩ := trodAll_cons r6
 obtain ⟨v8, vs8, d8, ds8, p8, q8, rfl, rfl, rfl, h8, r8⟩ := trodAll_cons r7
 obtain ⟨v9, vs9, d9, ds9, p9, q9, rfl, rfl, rfl, h9, r9⟩ := trodAll_cons r8
 obtain ⟨rfl, rfl, rfl⟩ := trodAll_nil r9
 obtain rfl : args = #[v0, v1, v2, v3, v4, v5, v6, v7, v8, v9] := by cases args; simp_all
 obtain ⟨rfl, rfl⟩ := trodVars_none hV
 obtain ⟨e0, e1, y0, y1, n0, rfl, rfl, rfl, t0, t1⟩ := Go.Joins.open_agg2 Tryz.underlying25 (by kernel_rfl) (by kernel_rfl) (hval 0 25 v0 rfl rfl) h0
 obtain ⟨oa, cj, js, rfl, hj, hJ⟩ := En.open_rows En.JV.vals Tryz.underlying22 En.clo80 (by omega) En.row_joint t0
 obtain ⟨om, cm, ms, rfl, hm, hM⟩ := En.open_rows En.MV.vals Tryz.underlying23 En.clo54 (by omega) En.row_mass t1
 obtain ⟨a1, n1, c1, rfl⟩ := okWide_slice Tryz.underlying26 (hval 1 26 v1 rfl rfl)
 obtain ⟨a2, n2, c2, rfl⟩ := okWide_slice Tryz.underlying26 (hval 2 26 v2 rfl rfl)
 obtain ⟨g, rfl, rfl, rfl, w3⟩ := open_int Tryz.underlying3 (hval 3 3 v3 rfl rfl) h3
 obtain ⟨a4, n4, c4, rfl⟩ := okWide_slice Tryz.underlying27 (hval 4 27 v4 rfl rfl)
 obtain ⟨a5, n5, c5, rfl⟩ := okWide_slice Tryz.underlying27 (hval 5 27 v5 rfl rfl)
 obtain ⟨a6, n6, c6, rfl⟩ := okWide_slice Tryz.underlying27 (hval 6 27 v6 rfl rfl)
 obtain ⟨a, rfl, rfl, rfl, w7⟩ := open_int Tryz.underlying3 (hval 7 3 v7 rfl rfl) h7
 obtain ⟨b, rfl, rfl, rfl, w8⟩ := open_int Tryz.underlying3 (hval 8 3 v8 rfl rfl) h8
 obtain ⟨c, rfl, rfl, rfl, w9⟩ := open_int Tryz.underlying3 (hval 9 3 v9 rfl rfl) h9
 obtain ⟨f1, h1⟩ := h1
 obtain ⟨f2, h2⟩ := h2
 obtain ⟨f4, h4⟩ := h4
 obtain ⟨f5, h5⟩ := h5
 obtain ⟨f6, h6⟩ := h6
 obtain ⟨op, cp, ps, i1, hp, hP⟩ := En.open_nums Tryz.underlying26 Tryz.underlying2 En.clo2 (v := .slice a1 n1 c1) h1
 obtain ⟨oq, cq, qs, i2, hq, hQ⟩ := En.open_nums Tryz.underlying26 Tryz.underlying2 En.clo2 (v := .slice a2 n2 c2) h2
 obtain ⟨ol, cl, ls, i3, hl, hL⟩ := En.open_nums Tryz.underlying27 Tryz.underlying3 En.clo3 (v := .slice a4 n4 c4) h4
 obtain ⟨oc, cc, us, i4, hu, hU⟩ := En.open_nums Tryz.underlying27 Tryz.underlying3 En.clo3 (v := .slice a5 n5 c5) h5
 obtain ⟨od, cd, bs, i5, hb, hB⟩ := En.open_nums Tryz.underlying27 Tryz.underlying3 En.clo3 (v := .slice a6 n6 c6) h6
 rw [i1, i2, i3, i4, i5] at hAk hW' ⊢
 clear hA0 hval0
 simp only [List.append_nil] at hW' hAk
 refine (En.stepsLaw3 oa om op oq ol oc od cj cm cp cq cl cc cd js ms ps qs ls us bs g a b c W hj hm hp hq hl hu hb hJ hM hP hQ hL hU hB).mono fun e W' ⟨he, hg⟩ => ?_
 subst he
 have hlt := fun p hp => hW'.lt p hp
 exact ⟨_, rfl, post_below (pv := []) hW' (fun _ _ _ => (trodAll_cons_mk (shut_bool Tryz.underlying4 _) trodAll_mk0)) (fun sp hsp => stays En.laidOut _ _ _ _ (by rw [Tryz.params3]; exact readables) hAk (fun x hx => hg.same (hlt x hx)) hsp) (fun _ _ => rfl) (by simp)
  hg (ok_one (by kernel_rfl) rfl (okWide_bool_mk Tryz.underlying4 _))⟩
end Go.Proofs.YtgkihlkhklmgcaaGreat.trajectorySteps
end

section
namespace Go.Proofs.YtgkihlkhklmgcaaGreat.trajectorySteps
open Go.ChangeShapes Go.WideShapes Go.ChangeAt Go.RowKit
theorem ka : (((((Rows.trajectoryStepsRow.inPlace == Tryz.pinned.checked.prog.inPlace 3) && (Rows.trajectoryStepsRow.unfollowed == Tryz.pinned.checked.prog.unfollowed 3)) && (Rows.trajectoryStepsRow.recurses == Tryz.pinned.checked.prog.recurses 3)) && (Rows.trajectoryStepsRow.named == Tryz.pinned.checked.prog.varsNamed 3))) = true := by kernel_rfl
theorem k12 : ((Rows.trajectoryStepsRow.named == Tryz.pinned.checked.prog.varsNamed 3)) = true := (Bool.and_eq_true_iff.1 ka).2
theorem k11 : ((Rows.trajectoryStepsRow.recurses == Tryz.pinned.checked.prog.recurses 3)) = true := (Bool.and_eq_true_iff.1 (Bool.and_eq_true_iff.1 ka).1).2
theorem k10 : ((Rows.trajectoryStepsRow.unfollowed == Tryz.pinned.checked.prog.unfollowed 3)) = true := (Bool.and_eq_true_iff.1 (Bool.and_eq_true_iff.1 (Bool.and_eq_true_iff.1 ka).1).1).2
theorem k9 : ((Rows.trajectoryStepsRow.inPlace == Tryz.pinned.checked.prog.inPlace 3)) = true := (Bool.and_eq_true_iff.1 (Bool.and_eq_true_iff.1 (Bool.and_eq_true_iff.1 ka).1).1).1
theorem k0 : (Rows.trajectoryStepsRow.wf (OpenSpec.ofChange Rows.trajectoryStepsSpec)) = true := by kernel_rfl
theorem k1 : (laidOutB Tryz.pinned.checked.prog) = true := by kernel_rfl
theorem k2 : (mapsRowed Tryz.pinned.checked.prog) = true := by kernel_rfl
theorem k3 : (Tryz.f3.params.all (Tryz.pinned.checked.prog.readableRec ·)) = true := by kernel_rfl
theorem k4 : (namedTie Tryz.pinned.checked.prog Rows.trajectoryStepsRow.named Rows.trajectoryStepsSpec.vars) = true := by kernel_rfl
theorem k5 : ((Rows.trajectoryStepsRow.stops == [])) = true := by kernel_rfl
theorem k6 : ((Tryz.pinned.checked.prog.stops == [])) = true := by kernel_rfl
theorem k7 : ((Rows.trajectoryStepsRow.knobs == [])) = true := by kernel_rfl
theorem k8 : ((Tryz.pinned.checked.prog.stopKnobs == [])) = true := by kernel_rfl
theorem k13 : ((Rows.trajectoryStepsRow.maps == (Tryz.f3.params.toList ++ Rows.trajectoryStepsSpec.plain.varTypes Tryz.pinned.checked.prog).any (Tryz.pinned.checked.prog.mapsRec ·))) = true := by kernel_rfl
theorem k14 : ((Rows.trajectoryStepsRow.ifaces == (Tryz.f3.params.toList ++ Rows.trajectoryStepsSpec.plain.varTypes Tryz.pinned.checked.prog).any (Tryz.pinned.checked.prog.ifacesRec ·))) = true := by kernel_rfl
theorem k15 : ((Rows.trajectoryStepsRow.mapsOut == Tryz.pinned.checked.prog.mapsAmong Tryz.f3.resultTypes.toList)) = true := by kernel_rfl
theorem k16 : ((Rows.trajectoryStepsRow.loops == (Tryz.f3.params.toList ++ Rows.trajectoryStepsSpec.plain.varTypes Tryz.pinned.checked.prog).any (Tryz.pinned.checked.prog.loopsFrom ·))) = true := by kernel_rfl
theorem k17 : ((Rows.trajectoryStepsRow.wideKeys == (Tryz.f3.params.toList ++ Rows.trajectoryStepsSpec.plain.varTypes Tryz.pinned.checked.prog ++ Tryz.f3.resultTypes.toList).any (Tryz.pinned.checked.prog.wideKeysFrom ·))) = true := by kernel_rfl
theorem k18 : (Rows.trajectoryStepsSpec.vars.all (Tryz.pinned.checked.prog.varReadable ·)) = true := by kernel_rfl
theorem k19 : (Tryz.f3.resultTypes.all (fun t => Tryz.pinned.checked.prog.readableRec t && decide (t < Tryz.pinned.checked.prog.types.size))) = true := by kernel_rfl
theorem k20 : ((Rows.trajectoryStepsRow.ifacesOut == Tryz.f3.resultTypes.toList.any (Tryz.pinned.checked.prog.ifacesRec ·))) = true := by kernel_rfl
theorem k21 : ((Rows.trajectoryStepsRow.loopsOut == Tryz.f3.resultTypes.toList.any (Tryz.pinned.checked.prog.loopsFrom ·))) = true := by kernel_rfl
theorem k22 : ((Rows.trajectoryStepsRow.plainKeys == Tryz.pinned.checked.prog.plainKeys)) = true := by kernel_rfl
theorem k23 : (Rows.trajectoryStepsRow.shortTexts.isNone) = true := by kernel_rfl
theorem k24 : (Tryz.pinned.checked.prog.stopsHeard) = true := by kernel_rfl
theorem k25 : (Tryz.pinned.checked.prog.mayEnter) = true := by kernel_rfl
theorem k26 : ((Rows.trajectoryStepsRow.lifted == Tryz.pinned.checked.prog.liftsFinal)) = true := by kernel_rfl
theorem k27 : ((Tryz.pinned.checked.prog.make == some Rows.trajectoryStepsRow.make)) = true := by kernel_rfl
theorem k29 : ((Rows.trajectoryStepsRow.pinned == Rows.trajectoryStepsRow.pinnedBy)) = true := by kernel_rfl
theorem k30 : ((Rows.trajectoryStepsRow.veiled == (Tryz.f3.params.toList ++ Rows.trajectoryStepsSpec.plain.varTypes Tryz.pinned.checked.prog ++ Tryz.f3.resultTypes.toList).any (Tryz.pinned.checked.prog.veiledRec ·))) = true := by kernel_rfl
theorem k31 : (Rows.trajectoryStepsRow.veiledFits Tryz.pinned.checked.prog Tryz.f3.params.toList (Tryz.f3.params.toList ++ Rows.trajectoryStepsSpec.plain.varTypes Tryz.pinned.checked.prog ++ Tryz.f3.resultTypes.toList)) = true := by kernel_rfl
theorem closed : joinedFacts Tryz.pinned.checked.prog 3 Tryz.f3 Rows.trajectoryStepsSpec Rows.trajectoryStepsRow = true := by
 unfold joinedFacts
 exact Bool.and_eq_true_iff.2 ⟨Bool.and_eq_true_iff.2 ⟨Bool.and_eq_true_iff.2 ⟨Bool.and_eq_true_iff.2 ⟨Bool.and_eq_true_iff.2 ⟨Bool.and_eq_true_iff.2 ⟨Bool.and_eq_true_iff.2 ⟨Bool.and_eq_true_iff.2 ⟨Bool.and_eq_true_iff.2 ⟨Bool.and_eq_true_iff.2 ⟨Bool.and_eq_true_iff.2 ⟨Bool.and_eq_true_iff.2 ⟨Bool.and_eq_true_iff.2 ⟨Bool.and_eq_true_iff.2 ⟨Bool.and_eq_true_iff.2 ⟨Bool.and_eq_true_iff.2 ⟨Bool.and_eq_true_iff.2 ⟨Bool.and_eq_true_iff.2 ⟨Bool.and_eq_true_iff.2 ⟨Bool.and_eq_true_iff.2 ⟨Bool.and_eq_true_iff.2 ⟨Bool.and_eq_true_iff.2 ⟨Bool.and_eq_true_iff.2 ⟨Bool.and_eq_true_iff.2 ⟨Bool.and_eq_true_iff.2 ⟨Bool.and_eq_true_iff.2 ⟨Bool.and_eq_true_iff.2 ⟨Bool.and_eq_true_iff.2 ⟨Bool.and_eq_true_iff.2 ⟨Bool.and_eq_true_iff.2 ⟨Bool.and_eq_true_iff.2 ⟨k0, k1⟩, k2⟩, k3⟩, k4⟩, k5⟩, k6⟩, k7⟩, k8⟩, k9⟩, k10⟩, k11⟩, k12⟩, k13⟩, k14⟩, k15⟩, k16⟩, k17⟩, k18⟩, k19⟩, k20⟩, k21⟩, k22⟩, k23⟩, k24⟩, k25⟩, k26⟩, k27⟩, (by kernel_rfl)⟩, k29⟩, k30⟩, k31⟩
theorem hfn : Tryz.pinned.checked.prog.funcNamed Rows.trajectoryStepsRow.func = some 3 := by kernel_rfl
theorem hinst : (Tryz.f3).isInstance Tryz.pinned.checked.prog Rows.trajectoryStepsRow.origin Rows.trajectoryStepsRow.targs := of_decide_eq_true (by kernel_rfl)
theorem hwrap : (Tryz.f3).isWrapper Tryz.pinned.checked.prog Rows.trajectoryStepsRow.wrapper Rows.trajectoryStepsRow.mainSum := by unfold Func.isWrapper; first | (rw [if_pos (by decide +kernel)]; kernel_rfl) | (rw [if_neg (by decide +kernel)]; exact ⟨rfl, rfl⟩)
end Go.Proofs.YtgkihlkhklmgcaaGreat.trajectorySteps
end

