/-
  Texts put together: Ej Ek FormatTrajectories.
-/
import Derived.Test.YtlpcihfkkgifkaaGreatDoorZFormatTrajectoriesCard18
import Derived.Test.YtlpcihfkkgifkaaGreatDoorZFormatTrajectoriesCard25
import Derived.Test.YtlpcihfkkgifkaaGreatDoorZFormatTrajectoriesCard26
import Derived.Test.YtlpcihfkkgifkaaGreatDoorZFormatTrajectoriesCard19
import Derived.Test.YtlpcihfkkgifkaaGreatDoorRows
import Derived.WalkKit
import Derived.SizedLaws
import Derived.JoinedCond
import Derived.ChangeMaps5
import Derived.Deep.DeepHandedRow
import Derived.Deep.DeepWitnessRowRef
set_option linter.unusedVariables false
section
/-
  Walks: the law FormatTrajectories.
-/
namespace Go.Proofs.Ng
open Go.RowKit

/-- All numbers of a trajectory are int64. -/
structure InT (t : Fm.TrajD) : Prop where
  path : In64 t.path
  head : ∀ n ∈ t.grid :: Fm.vecL t.grav, Fm.inR64 n
  pr : ∀ x ∈ t.profs, (∀ n ∈ x.levels, Fm.inR64 n) ∧ ∀ n ∈ x.steps, Fm.inR64 n
/-- A small trajectory. -/
structure SmT (t : Fm.TrajD) : Prop where
  path : SmP t.path
  np : t.profs.length ≤ 12
  pr : ∀ x ∈ t.profs, x.levels.length ≤ 100 ∧ x.steps.length ≤ 100
theorem docT_le40 {p : Fm.PathD} (hs : SmP p) (h : In64 p) : (Fm.docT p).length ≤ 40000 := by
  have h1 := hs.np
  have h2 := hs.ne
  have h3 := hs.cnt
  have a1 := lineT_le Fm.kwPath (ns := [((p.pts.length : Nat) : Int)]) (by
    intro n hn
    rw [List.mem_singleton] at hn
    subst hn
    unfold Fm.inR64; omega)
  have a2 : (flT (Fm.lineT Fm.kwPoint) p.pts).length ≤ 6 * p.pts.length + 21 * sumW List.length p.pts := by
    rw [flT_sum]
    refine sumW_lin _ _ 6 21 (fun q hq => ?_)
    have := lineT_le Fm.kwPoint (h.pt q hq)
    simp only [show Fm.kwPoint.length = 5 from rfl] at this
    omega
  have a3 : (flT Fm.edgeT p.edges).length ≤ 47 * p.edges.length + 70 * sumW edgeW p.edges := by
    rw [flT_sum]
    refine sumW_lin _ _ 47 70 (fun e he => ?_)
    have hw := sumW_mem edgeW he
    exact edgeT_le (by omega) (h.ed e he).1 (h.ed e he).2
  unfold Fm.docT
  rw [List.length_append, pathT_eq, List.length_append, List.length_append]
  simp only [show Fm.kwPath.length = 4 from rfl, List.length_cons, List.length_nil] at a1
  have a4 : (Fm.lineT Fm.kwEnd []).length = 4 := rfl
  omega
theorem docTr_le {t : Fm.TrajD} (hs : SmT t) (h : InT t) : (Fm.docTr t).length ≤ 1000000 := by
  have hd := docT_le40 hs.path h.path
  unfold Fm.docT at hd
  rw [List.length_append] at hd
  have h1 := hs.np
  have a1 := lineT_le Fm.kwTraj h.head
  have a2 : (flT Fm.profT t.profs).length ≤ t.profs.length * 4263 := by
    rw [flT_sum]
    refine sumW_le _ (fun x hx => ?_)
    obtain ⟨b1, b2⟩ := hs.pr x hx
    obtain ⟨b3, b4⟩ := h.pr x hx
    have c1 := lineT_le Fm.kwProfile (ns := [((x.levels.length : Nat) : Int), ((x.steps.length : Nat) : Int)]) (by
      intro n hn
      simp only [List.mem_cons, List.not_mem_nil, or_false] at hn
      rcases hn with rfl | rfl <;> (unfold Fm.inR64; omega))
    have c2 := lineT_le Fm.kwLevels b3
    have c3 := lineT_le Fm.kwSteps b4
    rw [profT_eq, List.length_append, List.length_append]
    simp only [show Fm.kwProfile.length = 7 from rfl, show Fm.kwLevels.length = 6 from rfl, show Fm.kwSteps.length = 5 from rfl, List.length_cons, List.length_nil] at c1 c2 c3
    omega
  unfold Fm.docTr Fm.trajT
  have e2 : (t.profs.map Fm.profT).flatten = flT Fm.profT t.profs := rfl
  rw [List.length_append, List.length_append, List.length_append, e2]
  simp only [show Fm.kwTraj.length = 10 from rfl, show (t.grid :: Fm.vecL t.grav).length = 4 from rfl] at a1
  have a4 : (Fm.lineT Fm.kwEnd []).length = 4 := rfl
  have a5 : t.profs.length * 4263 ≤ 12 * 4263 := Nat.mul_le_mul_right _ h1
  omega
theorem trajOk_of {t : Fm.TrajD} (hs : SmT t) (h : InT t) : Fm.TrajOk t :=
  ⟨pathOk_of hs.path h.path, h.head, fun x hx => ⟨by have := (hs.pr x hx).1; omega, by have := (hs.pr x hx).2; omega, h.pr x hx⟩⟩
theorem mkT_small {t : Fm.TrajD} (h : MkTraj t) : SmT t := ⟨mk_small h.path, by have := h.np; omega, fun x hx => by obtain ⟨a, b, -⟩ := h.pr x hx; omega⟩
theorem mkT_in {t : Fm.TrajD} (h : MkTraj t) : InT t := ⟨mk_in h.path, h.head, fun x hx => (h.pr x hx).2.2⟩
theorem fmtV_sizeT {t : Fm.TrajD} (hl : (Fm.docTr t).length ≤ 1000000) : ∃ s c, fmtV (Fm.formatTr t) = .tuple #[.string s, .int .i64 c] ∧ s.size ≤ 1000000 := by
  unfold Fm.formatTr
  split
  · exact ⟨_, _, rfl, by show (Fm.docTr t).toArray.size ≤ _; rw [List.size_toArray]; exact hl⟩
  · exact ⟨_, _, rfl, by decide⟩
theorem keepL {V X Y : World} {n m : Nat} {a0 a1 a2 a3 a4 a5 a6 b0 b1 b2 b3 b4 b5 b6 : Value} (hn : n < V.heap.size) (hm : m < V.heap.size) (h : Below V.heap.size V X ∧ X.cell? ⟨n, 0, none⟩ = some a0 ∧ X.cell? ⟨n, 1, none⟩ = some a1 ∧ X.cell? ⟨n, 2, none⟩ = some a2 ∧ X.cell? ⟨n, 3, none⟩ = some a3 ∧ X.cell? ⟨n, 4, none⟩ = some a4 ∧ X.cell? ⟨n, 5, none⟩ = some a5 ∧ X.cell? ⟨n, 6, none⟩ = some a6 ∧ X.cell? ⟨m, 0, none⟩ = some b0 ∧ X.cell? ⟨m, 1, none⟩ = some b1 ∧ X.cell? ⟨m, 2, none⟩ = some b2 ∧ X.cell? ⟨m, 3, none⟩ = some b3 ∧ X.cell? ⟨m, 4, none⟩ = some b4 ∧ X.cell? ⟨m, 5, none⟩ = some b5 ∧ X.cell? ⟨m, 6, none⟩ = some b6) (hb : Below X.heap.size X Y) :
    Below V.heap.size V Y ∧ Y.cell? ⟨n, 0, none⟩ = some a0 ∧ Y.cell? ⟨n, 1, none⟩ = some a1 ∧ Y.cell? ⟨n, 2, none⟩ = some a2 ∧ Y.cell? ⟨n, 3, none⟩ = some a3 ∧ Y.cell? ⟨n, 4, none⟩ = some a4 ∧ Y.cell? ⟨n, 5, none⟩ = some a5 ∧ Y.cell? ⟨n, 6, none⟩ = some a6 ∧ Y.cell? ⟨m, 0, none⟩ = some b0 ∧ Y.cell? ⟨m, 1, none⟩ = some b1 ∧ Y.cell? ⟨m, 2, none⟩ = some b2 ∧ Y.cell? ⟨m, 3, none⟩ = some b3 ∧ Y.cell? ⟨m, 4, none⟩ = some b4 ∧ Y.cell? ⟨m, 5, none⟩ = some b5 ∧ Y.cell? ⟨m, 6, none⟩ = some b6 := by
  obtain ⟨k, h0, h1, h2, h3, h4, h5, h6, g0, g1, g2, g3, g4, g5, g6⟩ := h
  have hz := k.size
  have ln : n < X.heap.size := by omega
  have lm : m < X.heap.size := by omega
  exact ⟨below_call k hb, (hb.cell (p := ⟨n, 0, none⟩) ln).trans h0, (hb.cell (p := ⟨n, 1, none⟩) ln).trans h1, (hb.cell (p := ⟨n, 2, none⟩) ln).trans h2, (hb.cell (p := ⟨n, 3, none⟩) ln).trans h3, (hb.cell (p := ⟨n, 4, none⟩) ln).trans h4, (hb.cell (p := ⟨n, 5, none⟩) ln).trans h5, (hb.cell (p := ⟨n, 6, none⟩) ln).trans h6, (hb.cell (p := ⟨m, 0, none⟩) lm).trans g0, (hb.cell (p := ⟨m, 1, none⟩) lm).trans g1, (hb.cell (p := ⟨m, 2, none⟩) lm).trans g2, (hb.cell (p := ⟨m, 3, none⟩) lm).trans g3, (hb.cell (p := ⟨m, 4, none⟩) lm).trans g4, (hb.cell (p := ⟨m, 5, none⟩) lm).trans g5, (hb.cell (p := ⟨m, 6, none⟩) lm).trans g6⟩
theorem mkL {V X : World} {n m : Nat} {a0 a1 a2 a3 a4 a5 a6 b0 b1 b2 b3 b4 b5 b6 : Value} {ty ty' : TypeId} (hx : Bx X n [a0, a1, a2, a3, a4, a5, a6] ty) (hy : Bx X m [b0, b1, b2, b3, b4, b5, b6] ty') (hb : Below V.heap.size V X) :
    Below V.heap.size V X ∧ X.cell? ⟨n, 0, none⟩ = some a0 ∧ X.cell? ⟨n, 1, none⟩ = some a1 ∧ X.cell? ⟨n, 2, none⟩ = some a2 ∧ X.cell? ⟨n, 3, none⟩ = some a3 ∧ X.cell? ⟨n, 4, none⟩ = some a4 ∧ X.cell? ⟨n, 5, none⟩ = some a5 ∧ X.cell? ⟨n, 6, none⟩ = some a6 ∧ X.cell? ⟨m, 0, none⟩ = some b0 ∧ X.cell? ⟨m, 1, none⟩ = some b1 ∧ X.cell? ⟨m, 2, none⟩ = some b2 ∧ X.cell? ⟨m, 3, none⟩ = some b3 ∧ X.cell? ⟨m, 4, none⟩ = some b4 ∧ X.cell? ⟨m, 5, none⟩ = some b5 ∧ X.cell? ⟨m, 6, none⟩ = some b6 := ⟨hb, hx.c 0 _ rfl, hx.c 1 _ rfl, hx.c 2 _ rfl, hx.c 3 _ rfl, hx.c 4 _ rfl, hx.c 5 _ rfl, hx.c 6 _ rfl, hy.c 0 _ rfl, hy.c 1 _ rfl, hy.c 2 _ rfl, hy.c 3 _ rfl, hy.c 4 _ rfl, hy.c 5 _ rfl, hy.c 6 _ rfl⟩
set_option maxRecDepth 100000 in
set_option maxHeartbeats 16000000 in
theorem formatTraj4 (w : World) (pv : Value) (p : Fm.TrajD) (text : ByteArray) (ol : Option Addr) (cl : Nat) (ls : List Int) (os : Option Addr) (cap : Nat) (xs : List Int) (how at' x : Int) (hP : TrajAt w pv p) (hbk : BulkP p.path) (hin : InT p) (ht : text.size ≤ 1048576) (hI0 : Sl w ol 1 (pvals ls)) (hl0 : ls.length ≤ 9223372036854775807) (hI : Sl w os 1 (pvals xs)) (hl : xs.length ≤ 9223372036854775807) (hL : LibW w) :
    Calls Tryz.prog 4 #[pv, .string text, .slice ol ls.length cl, .slice os xs.length cap, .int .i64 how, .int .i64 at', .int .i64 x] w (BoolP true w) := by
  have hP0 := hP
  obtain ⟨op, np, oe, ne, f, nf, rfl, hPt, hEd, hPr⟩ := hP
  have hb1 : Below w.heap.size w (w.alloc (.cells #[.slice op p.path.pts.length np, .slice oe p.path.edges.length ne, .int .i64 p.grav.1, .int .i64 p.grav.2.1, .int .i64 p.grav.2.2, .int .i64 p.grid, .slice f p.profs.length nf] 41)) := (Below.refl _ _).alloc (Nat.le_refl _) _
  have hbx := Bx.new w [.slice op p.path.pts.length np, .slice oe p.path.edges.length ne, .int .i64 p.grav.1, .int .i64 p.grav.2.1, .int .i64 p.grav.2.2, .int .i64 p.grid, .slice f p.profs.length nf] 41
  have hPA : PathAt w (.agg #[.slice op p.path.pts.length np, .slice oe p.path.edges.length ne]) p.path := ⟨op, np, oe, ne, rfl, hPt, hEd⟩
  have HC := Lib.hid (smallPath5 _ _ p.path (hPA.keep hb1) hbk)
  have HP := Lib.hid hP0
  have HPR := Lib.hid hPr
  have HX := Lib.hid hbx
  have HB := Lib.hid hb1
  have HL := Lib.hid hL
  have HI := Lib.hid hI
  have HI0 := Lib.hid hI0
  have HIN := Lib.hid hin
  clear hP0 hb1 hbx hL hI hI0 hin hbk hPA hPt hEd hPr
  go_enter Tryz.func4, Tryz.ntmps4
  go_upto_region 1 with fail
  generalize w.alloc (.cells #[.slice op p.path.pts.length np, .slice oe p.path.edges.length ne, .int .i64 p.grav.1, .int .i64 p.grav.2.1, .int .i64 p.grav.2.2, .int .i64 p.grid, .slice f p.profs.length nf] 41) = w1 at HX HB HC ⊢
  obtain ⟨n7, hn7⟩ : ∃ n, n = w.heap.size := ⟨_, rfl⟩
  have HN7 := Lib.hid hn7
  rw [← hn7] at HX ⊢
  clear hn7
  have c0 := HX.out.c 0 _ rfl
  have c1 := HX.out.c 1 _ rfl
  have cl7 := HX.out.lt
  go_wp2_with fail
  refine HC.out.mono ?_
  clear HC
  rintro e W2 ⟨b, rfl, hb, hb2⟩
  have HX2 := Lib.hid (HX.out.keep hb2)
  have HB2 := Lib.hid (below_call HB.out hb2)
  have HSM := Lib.hid hb
  clear hb hb2 HX HB c0 c1 cl7
  have HAW := Lib.hid (fun X (hX : Below w.heap.size w X) => awake6 X (HL.out.low (hX.mono HL.out.gt)))
  have c6 := HX2.out.c 6 _ rfl
  have cl7 := HX2.out.lt
  cases b with
  | false =>
    go_wp2_with fail
    refine (HAW.out W2 HB2.out).mono ?_
    rintro e W3 ⟨rfl, hb3⟩
    go_wp2
    go_ret
    exact boolP_mk rfl (below_call HB2.out hb3)
  | true =>
    have hsm := HSM.out rfl
    by_cases hpl : 12 < p.profs.length
    · have hd : decide ((12 : Int) < (p.profs.length : Int)) = true := decide_eq_true (by omega)
      go_wp2_with fail
      refine (HAW.out W2 HB2.out).mono ?_
      rintro e W3 ⟨rfl, hb3⟩
      go_wp2
      go_ret
      exact boolP_mk rfl (below_call HB2.out hb3)
    · have hdp : decide ((12 : Int) < (p.profs.length : Int)) = false := decide_eq_false (by omega)
      by_cases htx : 2000 < text.size
      · have hd : decide ((2000 : Int) < (text.size : Int)) = true := decide_eq_true (by omega)
        go_wp2_with fail
        refine (HAW.out W2 HB2.out).mono ?_
        rintro e W3 ⟨rfl, hb3⟩
        go_wp2
        go_ret
        exact boolP_mk rfl (below_call HB2.out hb3)
      · have hd : decide ((2000 : Int) < (text.size : Int)) = false := decide_eq_false (by omega)
        have HSP := Lib.hid hsm
        clear hsm HSM
        go_wp2_with fail
        clear hd hdp
        go_loopw [15] (fun i W => ∃ k : Nat, k ≤ p.profs.length ∧ i = .int .i64 (k : Nat) ∧ (∀ j x, j < k → p.profs[j]? = some x → x.levels.length ≤ 100 ∧ x.steps.length ≤ 100) ∧ Below W2.heap.size W2 W) (fun i _ => p.profs.length - (intOf i).toNat)
        case atStart => exact ⟨0, Nat.zero_le _, rfl, fun j x hj => by omega, Below.refl _ _⟩
        case round =>
          obtain ⟨k, hk, rfl, hA, hB⟩ := hrel
          clear c6 cl7
          have hx3 := HX2.out.keep hB
          have c6 := hx3.c 6 _ rfl
          have cl7 := hx3.lt
          have HA := Lib.hid hA
          have HBr := Lib.hid hB
          by_cases hlt : k < p.profs.length
          · obtain ⟨y, hy⟩ : ∃ y, p.profs[k]? = some y := ⟨_, List.getElem?_eq_getElem hlt⟩
            obtain ⟨g, off, o1, m1, o2, m2, hon, glt, x0, x1, -, -⟩ := (HPR.out.keep (below_call HB2.out hB)).get hy
            subst hon
            have HY := Lib.hid hy
            clear hA hB hy hx3
            by_cases h1 : 100 < y.levels.length
            · have hd : decide ((100 : Int) < (y.levels.length : Int)) = true := decide_eq_true (by omega)
              go_wp2_with fail
              refine (HAW.out wr (below_call HB2.out HBr.out)).mono ?_
              rintro e W3 ⟨rfl, hb3⟩
              go_wp2
              go_ret
              exact boolP_mk rfl (below_call (below_call HB2.out HBr.out) hb3)
            · have hd1 : decide ((100 : Int) < (y.levels.length : Int)) = false := decide_eq_false (by omega)
              by_cases h2 : 100 < y.steps.length
              · have hd : decide ((100 : Int) < (y.steps.length : Int)) = true := decide_eq_true (by omega)
                go_wp2_with fail
                refine (HAW.out wr (below_call HB2.out HBr.out)).mono ?_
                rintro e W3 ⟨rfl, hb3⟩
                go_wp2
                go_ret
                exact boolP_mk rfl (below_call (below_call HB2.out HBr.out) hb3)
              · have hd : decide ((100 : Int) < (y.steps.length : Int)) = false := decide_eq_false (by omega)
                go_wp2_with fail
                go_roundw
                case rel =>
                  refine ⟨k + 1, by omega, by simp, fun j z hj hz => ?_, HBr.out⟩
                  rcases Nat.lt_or_ge j k with h | h
                  · exact HA.out j z h hz
                  · have : j = k := by omega
                    subst this
                    rw [HY.out] at hz
                    injection hz with hz
                    rw [← hz]; omega
                case measure => simp [intOf]; omega
          · have hke : k = p.profs.length := by omega
            subst hke
            have HSMT : Hid (SmT p) := Lib.hid ⟨HSP.out, by omega, fun x hx => by
              obtain ⟨j, hj⟩ := List.getElem?_of_mem hx
              exact HA.out j x (List.getElem?_eq_some_iff.1 hj).1 hj⟩
            have HBW := Lib.hid (below_call HB2.out hB)
            have HX3 := Lib.hid hx3
            have HC := Lib.hid (trajectory13 wr ol cl ls os cap xs (HI0.out.keep HBW.out) hl0 (HI.out.keep HBW.out) hl)
            clear hA hB hx3 HA HBr HX2 HB2
            go_wp2_with fail
            refine HC.out.mono ?_
            clear HC c6 cl7
            rintro e W3 ⟨v, q, rfl, hq, hmk, hb3⟩
            have hq0 := hq
            obtain ⟨oq, nq, of, nf', og, ng, rfl, -, -, -⟩ := hq
            have hb4 : Below W3.heap.size W3 (W3.alloc (.cells #[.slice oq q.path.pts.length nq, .slice of q.path.edges.length nf', .int .i64 q.grav.1, .int .i64 q.grav.2.1, .int .i64 q.grav.2.2, .int .i64 q.grid, .slice og q.profs.length ng] 41)) := (Below.refl _ _).alloc (Nat.le_refl _) _
            have HY4 := Lib.hid (Bx.new W3 [.slice oq q.path.pts.length nq, .slice of q.path.edges.length nf', .int .i64 q.grav.1, .int .i64 q.grav.2.1, .int .i64 q.grav.2.2, .int .i64 q.grid, .slice og q.profs.length ng] 41)
            have HX4 := Lib.hid ((HX3.out.keep hb3).keep hb4)
            have HB4 := Lib.hid (below_call (below_call HBW.out hb3) hb4)
            have HQ4 := Lib.hid (hq0.keep hb4)
            have HMK := Lib.hid hmk
            clear hq0 hb4 hb3 hmk HX3 HBW
            go_upto_region 9 with fail
            generalize W3.alloc (.cells #[.slice oq q.path.pts.length nq, .slice of q.path.edges.length nf', .int .i64 q.grav.1, .int .i64 q.grav.2.1, .int .i64 q.grav.2.2, .int .i64 q.grid, .slice og q.profs.length ng] 41) = W4 at HY4 HX4 HB4 HQ4 ⊢
            generalize W3.heap.size = n16 at HY4 ⊢
            have hok := trajOk_of (mkT_small HMK.out) (mkT_in HMK.out)
            have hdl := docTr_le (mkT_small HMK.out) (mkT_in HMK.out)
            obtain ⟨fs, fc, hfv, hfz⟩ := fmtV_sizeT hdl
            have HC := Lib.hid (refFormatTraj14 W4 _ q HQ4.out hok (by omega) (tab_size HL.out.tabs HB4.out))
            rw [hfv] at HC
            have c0 : W4.cell? ⟨n16, 0, none⟩ = some (.slice oq q.path.pts.length nq) := HY4.out.c 0 _ rfl
            have c1 : W4.cell? ⟨n16, 1, none⟩ = some (.slice of q.path.edges.length nf') := HY4.out.c 1 _ rfl
            have c2 : W4.cell? ⟨n16, 2, none⟩ = some (.int .i64 q.grav.1) := HY4.out.c 2 _ rfl
            have c3 : W4.cell? ⟨n16, 3, none⟩ = some (.int .i64 q.grav.2.1) := HY4.out.c 3 _ rfl
            have c4 : W4.cell? ⟨n16, 4, none⟩ = some (.int .i64 q.grav.2.2) := HY4.out.c 4 _ rfl
            have c5 : W4.cell? ⟨n16, 5, none⟩ = some (.int .i64 q.grid) := HY4.out.c 5 _ rfl
            have c6 : W4.cell? ⟨n16, 6, none⟩ = some (.slice og q.profs.length ng) := HY4.out.c 6 _ rfl
            have clt := HY4.out.lt
            have HOK := Lib.hid hok
            clear hfv hok
            go_wp2_with fail
            refine HC.out.mono ?_
            clear HC c0 c1 c2 c3 c4 c5 c6 clt
            rintro e W5 ⟨rfl, hb5⟩
            have HX5 := Lib.hid (HX4.out.keep hb5)
            have HY5 := Lib.hid (HY4.out.keep hb5)
            have HB5 := Lib.hid (below_call HB4.out hb5)
            have HQ5 := Lib.hid (HQ4.out.keep hb5)
            clear hb5 HX4 HY4 HB4 HQ4
            obtain ⟨dm, hdz, hdc⟩ := damaged10 fs how at' x (by omega)
            obtain ⟨u, huz, huc⟩ := cat_any ⟨#[116, 114, 97, 106, 101, 99, 116, 111, 114, 121, 32]⟩ text (show 11 + text.size ≤ _ by omega)
            have huz : u.size ≤ 2011 := by have : (⟨#[116, 114, 97, 106, 101, 99, 116, 111, 114, 121, 32]⟩ : ByteArray).size = 11 := rfl; omega
            have HDM := Lib.hid hdc
            have HA := Lib.hid (fun X (hX : Below W5.heap.size W5 X) => HAW.out X (below_call HB5.out hX))
            have hPok := trajOk_of HSMT.out HIN.out
            have hPdl := docTr_le HSMT.out HIN.out
            have H9a := Lib.hid (fun X (hX : Below W5.heap.size W5 X) => trajectories15 X _ p text (HP.out.keep (below_call HB5.out hX)) hPok (by omega) (by omega) (HL.out.low ((below_call HB5.out hX).mono HL.out.gt)))
            have H9b := Lib.hid (fun X (hX : Below W5.heap.size W5 X) => trajectories15 X _ q fs (HQ5.out.keep hX) HOK.out (by omega) (by omega) (HL.out.low ((below_call HB5.out hX).mono HL.out.gt)))
            have H9c := Lib.hid (fun X (hX : Below W5.heap.size W5 X) => trajectories15 X _ q dm (HQ5.out.keep hX) HOK.out (by omega) (by omega) (HL.out.low ((below_call HB5.out hX).mono HL.out.gt)))
            have H9d := Lib.hid (fun X (hX : Below W5.heap.size W5 X) => trajectories15 X _ q u (HQ5.out.keep hX) HOK.out (by omega) (by omega) (HL.out.low ((below_call HB5.out hX).mono HL.out.gt)))
            have hS0 := mkL HX5.out HY5.out (Below.refl W5.heap.size W5)
            have l7 := HX5.out.lt
            have l16 := HY5.out.lt
            clear hdc hdz huz hPok hPdl hfz hdl
            go_upto_region 10 with fail
            go_region_held3 (fun X => Below W5.heap.size W5 X ∧ X.cell? ⟨n7, 0, none⟩ = some (.slice op p.path.pts.length np) ∧ X.cell? ⟨n7, 1, none⟩ = some (.slice oe p.path.edges.length ne) ∧ X.cell? ⟨n7, 2, none⟩ = some (.int .i64 p.grav.1) ∧ X.cell? ⟨n7, 3, none⟩ = some (.int .i64 p.grav.2.1) ∧ X.cell? ⟨n7, 4, none⟩ = some (.int .i64 p.grav.2.2) ∧ X.cell? ⟨n7, 5, none⟩ = some (.int .i64 p.grid) ∧ X.cell? ⟨n7, 6, none⟩ = some (.slice f p.profs.length nf) ∧ X.cell? ⟨n16, 0, none⟩ = some (.slice oq q.path.pts.length nq) ∧ X.cell? ⟨n16, 1, none⟩ = some (.slice of q.path.edges.length nf') ∧ X.cell? ⟨n16, 2, none⟩ = some (.int .i64 q.grav.1) ∧ X.cell? ⟨n16, 3, none⟩ = some (.int .i64 q.grav.2.1) ∧ X.cell? ⟨n16, 4, none⟩ = some (.int .i64 q.grav.2.2) ∧ X.cell? ⟨n16, 5, none⟩ = some (.int .i64 q.grid) ∧ X.cell? ⟨n16, 6, none⟩ = some (.slice og q.profs.length ng))
              (first
                | assumption
                | exact hS0
                | exact keepL l7 l16 (by assumption) (by assumption)
                | exact keepL l7 l16 (by assumption) (Below.refl _ _).drew)
              (first
                | (go_at_call 6
                   with_reducible refine (HA.out _ (by assumption : Below W5.heap.size W5 _ ∧ _).1).mono ?_
                   rintro e Xa ⟨rfl, hba⟩)
                | (go_at_call 15
                   with_reducible refine (H9a.out _ (by assumption : Below W5.heap.size W5 _ ∧ _).1).mono ?_
                   rintro e Xa ⟨rfl, hba⟩)
                | (go_at_call 15
                   with_reducible refine (H9b.out _ (by assumption : Below W5.heap.size W5 _ ∧ _).1).mono ?_
                   rintro e Xa ⟨rfl, hba⟩)
                | (go_at_call 15
                   with_reducible refine (H9c.out _ (by assumption : Below W5.heap.size W5 _ ∧ _).1).mono ?_
                   rintro e Xa ⟨rfl, hba⟩)
                | (go_at_call 15
                   with_reducible refine (H9d.out _ (by assumption : Below W5.heap.size W5 _ ∧ _).1).mono ?_
                   rintro e Xa ⟨rfl, hba⟩)
                | (go_at_call 10
                   with_reducible refine (HDM.out _).mono ?_
                   rintro e Xa ⟨rfl, hba⟩))
            have hfin := below_call HB5.out (by assumption : Below W5.heap.size W5 _ ∧ _).1
            have HFIN := Lib.hid hfin
            clear hfin
            go_wp2
            go_ret
            exact boolP_mk rfl HFIN.out
end Go.Proofs.Ng
end

section
/-
  What the reading of a trajectory says of memory.
-/
namespace Go.Proofs.Ng
open Go.RowKit

section
variable {H : Type} {enc : TypeId × Value → H} {w : World} {base : Nat} {spare : Nat → Bool} {held : Bool}
theorem ce44 : Tryz.prog.cellsOf 44 = 2 := by kernel_rfl
theorem ce39 : Tryz.prog.cellsOf 39 = 1 := by kernel_rfl
theorem ce41 : Tryz.prog.cellsOf 41 = 7 := by kernel_rfl
set_option maxRecDepth 100000 in
theorem row_prof {m : Nat} {cs : List Value} {y : DataW H × List MemPlace} (hl : cs.length = 2) (h : DataW.trod enc Tryz.prog w base spare held m 44 cs = some y) :
    ∃ e : Fm.ProfD, ProfAt w cs e ∧ (∀ n ∈ e.levels, Fm.inR64 n) ∧ ∀ n ∈ e.steps, Fm.inR64 n := by
  obtain ⟨xs, m1, -, hx, -, h3, hel⟩ := DataW.trod_struct Tryz.underlying44 h
  have h3' : xs.length = 2 := h3
  match cs, hl with
  | [a, b], _ =>
    obtain ⟨y0, g0⟩ := get_some' h3' (i := 0) (by omega)
    obtain ⟨y1, g1⟩ := get_some' h3' (i := 1) (by omega)
    have h0 : DataW.trod enc Tryz.prog w base spare held m1 42 (List.take (Tryz.prog.cellsOf 42) (List.drop 0 ([a, b] : List Value))) = xs[0]? := hel 0 _ rfl
    have h1 : DataW.trod enc Tryz.prog w base spare held m1 26 (List.take (Tryz.prog.cellsOf 26) (List.drop 1 ([a, b] : List Value))) = xs[1]? := hel 1 _ rfl
    rw [ce42, g0] at h0
    rw [ce26, g1] at h1
    obtain ⟨ol, cl, lv, rfl, -, hN, r0, -⟩ := open_numsB Tryz.underlying42 Tryz.underlying2 ce2 (v := a) h0
    obtain ⟨os, cs', st, rfl, -, hM, r1, -⟩ := open_numsB Tryz.underlying26 Tryz.underlying3 ce3 (v := b) h1
    exact ⟨⟨lv, st⟩, ⟨ol, cl, os, cs', rfl, hN, hM⟩, r0, r1⟩
theorem open_profsB {fuel : Nat} {v : Value} {x : DataW H × List MemPlace} (h : DataW.trod enc Tryz.prog w base spare held fuel 39 [v] = some x) :
    ∃ (oa : Option Addr) (cap : Nat) (l : List Fm.ProfD), v = .slice oa l.length cap ∧ Profs w oa l ∧ ∀ e ∈ l, (∀ n ∈ e.levels, Fm.inR64 n) ∧ ∀ n ∈ e.steps, Fm.inR64 n := by
  obtain ⟨oa, cap, rs, rfl, -, hs, -, -⟩ := open_rowsB (A := { q : List Value × Fm.ProfD // ProfAt w q.1 q.2 ∧ (∀ n ∈ q.2.levels, Fm.inR64 n) ∧ ∀ n ∈ q.2.steps, Fm.inR64 n }) (fun r => r.1.1) (fun _ _ => True) Tryz.underlying39 ce44 (by omega) (fun m cs y hc hy => by
    obtain ⟨u, h1, h2⟩ := row_prof hc hy
    exact ⟨⟨(cs, u), h1, h2⟩, rfl, trivial⟩) h
  refine ⟨oa, cap, rs.map fun r => r.1.2, by simp, ⟨rs.map fun r => r.1.1, by simp, hs, fun k u xs hu hx => ?_⟩, fun q hq => ?_⟩
  · rw [List.getElem?_map, Option.map_eq_some_iff] at hu hx
    obtain ⟨r, hr, rfl⟩ := hu
    obtain ⟨r', hr', rfl⟩ := hx
    rw [hr] at hr'
    injection hr' with hr'
    subst hr'
    exact r.2.1
  · obtain ⟨r, -, rfl⟩ := List.mem_map.1 hq
    exact r.2.2
set_option maxRecDepth 100000 in
theorem row_path {m : Nat} {a b : Value} {y : DataW H × List MemPlace} (h : DataW.trod enc Tryz.prog w base spare held m 25 [a, b] = some y) :
    ∃ (op oe : Option Addr) (np ne : Nat) (q : Fm.PathD), a = .slice op q.pts.length np ∧ b = .slice oe q.edges.length ne ∧ Pts w op q.pts ∧ Edges w oe q.edges ∧ In64 q ∧ (blk y.1 ≤ 1048576 → BulkP q) := by
  obtain ⟨xs, m1, -, hx, -, h3, hel⟩ := DataW.trod_struct Tryz.underlying25 h
  have h3' : xs.length = 2 := h3
  obtain ⟨y0, g0⟩ := get_some' h3' (i := 0) (by omega)
  obtain ⟨y1, g1⟩ := get_some' h3' (i := 1) (by omega)
  have h0 : DataW.trod enc Tryz.prog w base spare held m1 22 (List.take (Tryz.prog.cellsOf 22) (List.drop 0 ([a, b] : List Value))) = xs[0]? := hel 0 _ rfl
  have h1 : DataW.trod enc Tryz.prog w base spare held m1 23 (List.take (Tryz.prog.cellsOf 23) (List.drop 1 ([a, b] : List Value))) = xs[1]? := hel 1 _ rfl
  rw [ce22, g0] at h0
  rw [ce23, g1] at h1
  obtain ⟨op, np, pts, rfl, hP, r0, b0, b1⟩ := open_ptsB (v := a) h0
  obtain ⟨oe, ne, es, rfl, hE, r1, b2, b3⟩ := open_edgesB (v := b) h1
  have k0 : blk y0.1 ≤ blk y.1 := by
    rw [hx]
    exact Nat.le_trans (bulk_mem (List.mem_map.2 ⟨y0, List.mem_of_getElem? g0, rfl⟩)) (bulk_agg _)
  have k1 : blk y1.1 ≤ blk y.1 := by
    rw [hx]
    exact Nat.le_trans (bulk_mem (List.mem_map.2 ⟨y1, List.mem_of_getElem? g1, rfl⟩)) (bulk_agg _)
  refine ⟨op, oe, np, ne, ⟨pts, es⟩, rfl, rfl, hP, hE, ⟨r0, r1⟩, fun hb => ?_⟩
  have z0 := Nat.le_trans k0 hb
  have z1 := Nat.le_trans k1 hb
  exact ⟨Nat.le_trans b0 z0, fun q hq => Nat.le_trans (b1 q hq) z0, Nat.le_trans b2 z1, fun e he => ⟨Nat.le_trans (b3 e he).1 z1, Nat.le_trans (b3 e he).2.1 z1, fun u hu => Nat.le_trans ((b3 e he).2.2 u hu) z1⟩⟩
theorem agg_of {v : Value} {c0 c1 c2 c3 c4 c5 c6 : Value} (h : v.cells.toList = [c0, c1, c2, c3, c4, c5, c6]) : v = .agg #[c0, c1, c2, c3, c4, c5, c6] := by
  cases v <;> simp_all [Value.cells]
  rename_i cs
  cases cs
  simp_all
set_option maxRecDepth 100000 in
/-- A trajectory, as it is read. -/
theorem open_traj {v : Value} {d : DataW H} {p : List MemPlace} (h : DataW.Trod enc Tryz.prog w base spare held 41 v d p) : ∃ q : Fm.TrajD, TrajAt w v q ∧ InT q ∧ (blk d ≤ 1048576 → BulkP q.path) := by
  obtain ⟨fuel, h⟩ := h
  obtain ⟨xs, m1, -, hx, hcl, h3, hel⟩ := DataW.trod_struct Tryz.underlying41 h
  have h3' : xs.length = 4 := h3
  rw [ce41] at hcl
  obtain ⟨c0, c1, c2, c3, c4, c5, c6, hcs⟩ : ∃ c0 c1 c2 c3 c4 c5 c6, v.cells.toList = [c0, c1, c2, c3, c4, c5, c6] := by
    match hh : v.cells.toList, hcl with
    | [c0, c1, c2, c3, c4, c5, c6], _ => exact ⟨_, _, _, _, _, _, _, rfl⟩
  obtain rfl := agg_of hcs
  obtain ⟨y0, g0⟩ := get_some' h3' (i := 0) (by omega)
  obtain ⟨y1, g1⟩ := get_some' h3' (i := 1) (by omega)
  obtain ⟨y2, g2⟩ := get_some' h3' (i := 2) (by omega)
  obtain ⟨y3, g3⟩ := get_some' h3' (i := 3) (by omega)
  have h0 : DataW.trod enc Tryz.prog w base spare held m1 25 (List.take (Tryz.prog.cellsOf 25) (List.drop 0 ([c0, c1, c2, c3, c4, c5, c6] : List Value))) = xs[0]? := hel 0 _ rfl
  have h1 : DataW.trod enc Tryz.prog w base spare held m1 38 (List.take (Tryz.prog.cellsOf 38) (List.drop 2 ([c0, c1, c2, c3, c4, c5, c6] : List Value))) = xs[1]? := hel 1 _ rfl
  have h2 : DataW.trod enc Tryz.prog w base spare held m1 3 (List.take (Tryz.prog.cellsOf 3) (List.drop 5 ([c0, c1, c2, c3, c4, c5, c6] : List Value))) = xs[2]? := hel 2 _ rfl
  have h4 : DataW.trod enc Tryz.prog w base spare held m1 39 (List.take (Tryz.prog.cellsOf 39) (List.drop 6 ([c0, c1, c2, c3, c4, c5, c6] : List Value))) = xs[3]? := hel 3 _ rfl
  rw [ce25, g0] at h0
  rw [ce38, g1] at h1
  rw [ce3, g2] at h2
  rw [ce39, g3] at h4
  obtain ⟨op, oe, np, ne, q, rfl, rfl, hP, hE, hin, hbk⟩ := row_path (a := c0) (b := c1) h0
  obtain ⟨r, er, hr⟩ := row_vec (cs := [c2, c3, c4]) rfl h1
  obtain ⟨gr, eg, hg⟩ := row_i64 Tryz.underlying3 (cs := [c5]) h2
  obtain ⟨of, nf, fs, rfl, hF, hfr⟩ := open_profsB (v := c6) h4
  unfold vec3 at er
  simp at er eg
  obtain ⟨rfl, rfl, rfl⟩ := er
  subst eg
  refine ⟨⟨gr, r, q, fs⟩, ⟨op, np, oe, ne, of, nf, rfl, hP, hE, hF⟩, ⟨hin, fun n hn => ?_, hfr⟩, fun hb => hbk ?_⟩
  · rcases List.mem_cons.1 hn with rfl | hn
    · exact hg
    · exact hr n hn
  · have e : d = .agg (xs.map (·.1)) := congrArg Prod.fst hx
    rw [e] at hb
    exact Nat.le_trans (Nat.le_trans (bulk_mem (List.mem_map.2 ⟨y0, List.mem_of_getElem? g0, rfl⟩)) (bulk_agg _)) hb
end
end Go.Proofs.Ng
end

section
/-
  FormatTrajectories: for every trajectory, every text, all lists of numbers and every three numbers, together of bulk at most 1048576, the law returns true: FormatTrajectory and ParseTrajectory return what the chapter specifies.
  Condition: the bulk (the statement's second form); the listed variables hold what the program's text lays.
  The row's frame follows the kit's worked examples; the walk and all beneath it are this claim's own.
-/
set_option linter.unusedVariables false
namespace Go.Proofs.YtlpcihfkkgifkaaGreatDoor.formatTrajectories
open Go.ChangeShapes Go.WideShapes Go.ChangeAt Go.RowKit

abbrev spec : OpenSpec := Rows.OpenSpec.upto Rows.formatTrajectoriesSpec
abbrev args0 : Array Value := #[.agg #[.slice none 0 0, .slice none 0 0, .int .i64 0, .int .i64 0, .int .i64 0, .int .i64 0, .slice none 0 0], .string ⟨#[]⟩, .slice none 0 0, .slice none 0 0, .int .i64 0, .int .i64 0, .int .i64 0]
def c1 : DataW Unit → List Value
  | .lit (.int k n) => [.int k n]
  | _ => []
def c2 : DataW Unit → List Value
  | .agg l => l.flatMap c1
  | d => c1 d
def c3 : DataW Unit → List Value
  | .agg l => l.flatMap c2
  | d => c2 d
/-- A world in which the listed variables hold their data. -/
noncomputable def laidWorld (os : Os) : World :=
  let N := (World.settled Tryz.prog os).heap.size
  let w0 := World.holding Tryz.prog os ⟨#[.cells #[.string ⟨#[118, 97, 108, 117, 101, 32, 111, 117, 116, 32, 111, 102, 32, 114, 97, 110, 103, 101]⟩] 172, .cells #[.string ⟨#[105, 110, 118, 97, 108, 105, 100, 32, 115, 121, 110, 116, 97, 120]⟩] 172], #[], []⟩
  let put (h : Array Obj) (g : Nat) (cs : Array Value) : Array Obj := h.modify g fun
    | .cells _ t frozen => .cells cs t frozen
    | o => o
  let h1 := put w0.heap 0 (c3 Rows.laid_internal_strconv_uint64pow10).toArray
  let h2 := put h1 2 (c3 Rows.laid_math_bits_deBruijn32tab).toArray
  let h3 := put h2 3 (c3 Rows.laid_math_bits_deBruijn64tab).toArray
  let h4 := put h3 4 #[.iface 170 (.pointer (some ⟨N + 1, 0, none⟩))]
  let h5 := put h4 5 #[.iface 170 (.pointer (some ⟨N, 0, none⟩))]
  let h6 := put h5 6 (c3 Rows.laid_unicode_utf8_first).toArray
  let h7 := put h6 7 (c3 Rows.laid_unicode_utf8_acceptRanges).toArray
  { w0 with heap := h7 }
theorem laid_met (os : Os) (args : Array Value) : laidMetH Tryz.prog Ng.laid43 ((laidWorld os).forCall (fun _ _ => 0) ⟨#[], args, []⟩).memory :=
  laidMetH_of_parts3 (fuel := 8) (laidMet_of_run' 8 (by kernel_rfl) (by kernel_rfl)) (by kernel_rfl) (by kernel_rfl)
set_option maxRecDepth 100000 in
theorem witness_row (os : Os) {H : Type} (enc : TypeId × Value → H) :
    spec.preRow enc Tryz.prog Tryz.f4 Rows.formatTrajectoriesUptoRow.domain false Ng.laid43 ((laidWorld os).forCall (fun _ _ => 0) ⟨#[], args0, []⟩).memory args0 := by
  have hw : (DataW.whole enc Tryz.prog ((laidWorld os).forCall (fun _ _ => 0) ⟨#[], args0, []⟩).memory Tryz.f4.params.toList spec.vars false args0.toList 8).map (fun x => (x.1, x.2.1)) =
      some ([.agg [.agg [.nil, .nil], .agg [.lit (.int .i64 0), .lit (.int .i64 0), .lit (.int .i64 0)], .lit (.int .i64 0), .nil], .lit (.string []), .nil, .nil, .lit (.int .i64 0), .lit (.int .i64 0), .lit (.int .i64 0)], []) := by kernel_rfl
  obtain ⟨⟨x1, x2, x3⟩, hx, hx1⟩ := Option.map_eq_some_iff.1 hw
  simp only [Prod.mk.injEq] at hx1
  obtain ⟨rfl, rfl⟩ := hx1
  exact OpenSpec.preRow_of_cond 8 hx (by kernel_rfl) (fun k hk => by cases hk; rfl) (by kernel_rfl) (laid_met os _)

theorem read41 : Tryz.prog.readableRec 41 = true ∧ 41 < Tryz.prog.types.size := ⟨by kernel_rfl, of_decide_eq_true (by kernel_rfl)⟩
theorem read9 : Tryz.prog.readableRec 9 = true ∧ 9 < Tryz.prog.types.size := ⟨by kernel_rfl, of_decide_eq_true (by kernel_rfl)⟩
theorem readables : ∀ t ∈ (#[41, 9, 26, 26, 3, 3, 3] : Array TypeId).toList, Tryz.prog.readableRec t = true ∧ t < Tryz.prog.types.size := by
  intro t ht
  have h : t = 41 ∨ t = 9 ∨ t = 26 ∨ t = 3 := by simp at ht; exact ht
  rcases h with rfl | rfl | rfl | rfl
  · exact read41
  · exact read9
  · exact Ng.read24
  · exact Ng.read3
theorem small_all {H : Type} {ds gs : List (DataW H)} (h : Rows.uptoSmall H (ds ++ gs) = true) : ∀ d ∈ ds, Ng.blk d ≤ 1048576 := by
  intro d hd
  have h1 := of_decide_eq_true h
  exact Nat.le_trans (Ng.bulk_mem (List.mem_append_left _ hd)) h1
set_option maxRecDepth 100000 in
theorem lifted (os : Os) (started : os.Started) (H : Type) (enc : TypeId × Value → H) (F : Stop.Interp) :
    ReturnsInHanded {} Tryz.checked os 4 .any (spec.preRow enc Tryz.prog Tryz.f4 Rows.formatTrajectoriesUptoRow.domain false Rows.formatTrajectoriesUptoRow.laid) ((spec.at F).post enc Tryz.prog Tryz.f4 false true false false) := by
  refine returnsInHanded_of_row (C := Tryz.checked) (s := spec) Ng.own24 started (by kernel_rfl) Tryz.func4
    (witness_row_atRef (enc := enc) (C := Tryz.checked) false (laidWorld os) args0 rfl (by kernel_rfl) (by kernel_rfl) (by kernel_rfl) (witness_row os enc)) ?_
  intro W base args ds gs before hval0 hW _ hcond0 _ hL hsh _
  have hsm := small_all (hcond0 _ rfl)
  have hlib := Ng.lib_of hL hsh
  have hval : ∀ (j : Nat) t v, Tryz.f4.params[j]? = some t → args[j]? = some v → Value.okWide Tryz.prog W .any base t v := hval0
  have hW' := hW
  obtain ⟨p, q, hA0, hV, rfl, hfz, hnd⟩ := hW
  have hA : DataW.TrodAll enc Tryz.prog W 0 (fun _ => true) true Tryz.f4.params.toList args.toList ds p := hA0
  have hAk := hA
  rw [Tryz.params4] at hA hval
  obtain ⟨v0, vs0, d0, ds0, p0, q0, hargs, rfl, rfl, h0, r0⟩ := trodAll_cons hA
  obtain ⟨v1, vs1, d1, ds1, p1, q1, rfl, rfl, rfl, h1, r1⟩ := trodAll_cons r0
  obtain ⟨v2, vs2, d2, ds2, p2, q2, rfl, rfl, rfl, h2, r2⟩ := trodAll_cons r1
  obtain ⟨v3, vs3, d3, ds3, p3, q3, rfl, rfl, rfl, h3, r3⟩ := trodAll_cons r2
  obtain ⟨v4, vs4, d4, ds4, p4, q4, rfl, rfl, rfl, h4, r4⟩ := trodAll_cons r3
  obtain ⟨v5, vs5, d5, ds5, p5, q5, rfl, rfl, rfl, h5, r5⟩ := trodAll_cons r4
  obtain ⟨v6, vs6, d6, ds6, p6, q6, rfl, rfl, rfl, h6, r6⟩ := trodAll_cons r5
  obtain ⟨rfl, rfl, rfl⟩ := trodAll_nil r6
  obtain rfl : args = #[v0, v1, v2, v3, v4, v5, v6] := by cases args; simp_all
  obtain ⟨rfl, rfl⟩ := trodVars_none hV
  obtain ⟨pd, hP, hin, hbk⟩ := Ng.open_traj h0
  obtain ⟨s, rfl, e1, -, hs⟩ := Go.ChangeMaps.open_string Tryz.underlying9 (hval 1 9 v1 rfl rfl) h1
  obtain ⟨a2, n2, c2, rfl⟩ := okWide_slice Tryz.underlying26 (hval 2 26 v2 rfl rfl)
  obtain ⟨a3, n3, c3, rfl⟩ := okWide_slice Tryz.underlying26 (hval 3 26 v3 rfl rfl)
  obtain ⟨x3, rfl⟩ := okWide_int Tryz.underlying3 (hval 4 3 v4 rfl rfl)
  obtain ⟨x4, rfl⟩ := okWide_int Tryz.underlying3 (hval 5 3 v5 rfl rfl)
  obtain ⟨x5, rfl⟩ := okWide_int Tryz.underlying3 (hval 6 3 v6 rfl rfl)
  obtain ⟨f2, h2⟩ := h2
  obtain ⟨f3, h3⟩ := h3
  obtain ⟨ol, cl, ls, i2, hl, hI, -, -⟩ := Ng.open_numsB Tryz.underlying26 Tryz.underlying3 Ng.ce3 (v := .slice a2 n2 c2) h2
  obtain ⟨om, cm, ms, i3, hlm, hIm, -, -⟩ := Ng.open_numsB Tryz.underlying26 Tryz.underlying3 Ng.ce3 (v := .slice a3 n3 c3) h3
  have hb0 : Ng.blk d0 ≤ 1048576 := hsm d0 (by simp)
  have hb1 : s.size ≤ 1048576 := by
    have h := hsm d1 (by simp)
    rw [e1] at h
    have e : Ng.blk (.lit (.string s.data.toList) : DataW H) = s.data.toList.length + 1 := by simp [Ng.blk, Rows.uptoBulk]
    rw [e, Array.length_toList] at h
    have h2 : s.data.size = s.size := rfl
    omega
  rw [i2, i3] at hAk hW' ⊢
  clear hA0 hval0
  simp only [List.append_nil] at hW' hAk
  refine (Ng.formatTraj4 W v0 pd s ol cl ls om cm ms x3 x4 x5 hP (hbk hb0) hin hb1 hI hl hIm hlm hlib).mono fun e W' ⟨he, hg⟩ => ?_
  subst he
  have hlt := fun p hp => hW'.lt p hp
  exact ⟨_, rfl, Ng.post_below (pv := []) hW' (fun _ _ _ => (trodAll_cons_mk (shut_bool Tryz.underlying4 _) trodAll_mk0)) (fun sp hsp => Ng.stays Ng.laidOut _ _ _ _ (by rw [Tryz.params4]; exact readables) hAk (fun x hx => hg.same (hlt x hx)) hsp) (fun _ _ => rfl) (by simp)
    hg (ok_one (by kernel_rfl) rfl (okWide_bool_mk Tryz.underlying4 _))⟩

/-- THE STATEMENT -/
theorem proved : Rows.FormatTrajectoriesUptoSaid :=
  OpenClaim.holds_of_cond 4 Tryz.f4 rfl rfl rfl rfl rfl rfl rfl ⟨rfl, rfl, rfl, rfl, rfl⟩ rfl rfl rfl rfl rfl (by kernel_rfl) Tryz.func4 (by kernel_rfl)
    (of_decide_eq_true (by kernel_rfl)) (by unfold Func.isWrapper; first | (rw [if_pos (by decide +kernel)]; kernel_rfl) | (rw [if_neg (by decide +kernel)]; exact ⟨rfl, rfl⟩))
    (fun os started H enc _ F0 => by rw [OpenClaim.pre_eq_preRow]; exact lifted os started H enc F0)
#print axioms proved
end Go.Proofs.YtlpcihfkkgifkaaGreatDoor.formatTrajectories
end

