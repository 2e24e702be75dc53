/-
  Texts put together: Pj.
-/
import Derived.Test.YtlpcihfkkgifkaaGreatDoorZFormatTrajectoriesCard13
set_option linter.unusedVariables false
namespace Go.Proofs.Fm
open Go.Lib

theorem rdN_four {kw : List UInt8} {ls r : List (List UInt8)} {ns : List Int} (h : rdN kw 4 ls = some (ns, r)) : ∃ g x y z, ns = [g, x, y, z] := by
  have hl := (rdN_un h).2
  match ns, hl with
  | [g, x, y, z], _ => exact ⟨g, x, y, z, rfl⟩
/-- A trajectory whose path has the right form. -/
def rdTrajR : Rd TrajD := fun ls => match rdTraj ls with
  | some (t, r) => if rightP t.path = true then some (t, r) else none
  | none => none
theorem parseTr_R (s : List UInt8) : parseTr s = match rdTrajR (linesT s).1 with
    | some (p, r) => if rdEnd r (linesT s).2 = true then some p else none
    | none => none := by
  unfold parseTr rdTrajR
  cases rdTraj (linesT s).1 with
  | none => rfl
  | some q =>
    obtain ⟨p, r⟩ := q
    simp only
    by_cases h : rightP p.path = true
    · rw [if_pos h]
      by_cases h2 : rdEnd r (linesT s).2 = true
      · rw [if_pos ⟨h, h2⟩]
        simp only
        rw [if_pos h2]
      · rw [if_neg (fun e => h2 e.2)]
        simp only
        rw [if_neg h2]
    · rw [if_neg h, if_neg (fun e => h e.1)]
theorem rdTraj_no0 {ls : List (List UInt8)} (h : rdN kwTraj 4 ls = none) : rdTraj ls = none := by
  unfold rdTraj; rw [h]
theorem rdTraj_no1 {ls q : List (List UInt8)} {g x y z : Int} (h : rdN kwTraj 4 ls = some ([g, x, y, z], q)) (h2 : rdPath q = none) : rdTraj ls = none := by
  unfold rdTraj; rw [h]; simp only; rw [h2]
theorem rdTraj_no2 {ls q r : List (List UInt8)} {g x y z : Int} {p : PathD} (h : rdN kwTraj 4 ls = some ([g, x, y, z], q)) (h2 : rdPath q = some (p, r)) (h3 : rep rdProf p.edges.length r = none) : rdTraj ls = none := by
  unfold rdTraj; rw [h]; simp only; rw [h2]; simp only; rw [h3]
theorem rdTraj_yes {ls q r r2 : List (List UInt8)} {g x y z : Int} {p : PathD} {fs : List ProfD} (h : rdN kwTraj 4 ls = some ([g, x, y, z], q)) (h2 : rdPath q = some (p, r)) (h3 : rep rdProf p.edges.length r = some (fs, r2)) : rdTraj ls = some (⟨g, (x, y, z), p, fs⟩, r2) := by
  unfold rdTraj; rw [h]; simp only; rw [h2]; simp only; rw [h3]
theorem rdPathR_some {ls r : List (List UInt8)} {p : PathD} (h : rdPathR ls = some (p, r)) : rdPath ls = some (p, r) ∧ rightP p = true := by
  unfold rdPathR at h
  split at h
  · rename_i e
    split at h
    · rename_i hr
      injection h with h
      injection h with h1 h2
      subst h1 h2
      exact ⟨e, hr⟩
    · cases h
  · cases h
theorem rdTrajR_no0 {ls : List (List UInt8)} (h : rdN kwTraj 4 ls = none) : rdTrajR ls = none := by
  unfold rdTrajR; rw [rdTraj_no0 h]
theorem rdTrajR_no1 {ls q : List (List UInt8)} {g x y z : Int} (h : rdN kwTraj 4 ls = some ([g, x, y, z], q)) (h2 : rdPathR q = none) : rdTrajR ls = none := by
  unfold rdPathR at h2
  unfold rdTrajR
  cases hp : rdPath q with
  | none => rw [rdTraj_no1 h hp]
  | some pr =>
    obtain ⟨p, r⟩ := pr
    rw [hp] at h2
    simp only at h2
    have hr : ¬ rightP p = true := fun e => by rw [if_pos e] at h2; cases h2
    cases h3 : rep rdProf p.edges.length r with
    | none => rw [rdTraj_no2 h hp h3]
    | some fr =>
      obtain ⟨fs, r2⟩ := fr
      rw [rdTraj_yes h hp h3]
      simp only
      rw [if_neg hr]
theorem rdTrajR_no2 {ls q r : List (List UInt8)} {g x y z : Int} {p : PathD} (h : rdN kwTraj 4 ls = some ([g, x, y, z], q)) (h2 : rdPathR q = some (p, r)) (h3 : rep rdProf p.edges.length r = none) : rdTrajR ls = none := by
  unfold rdTrajR; rw [rdTraj_no2 h (rdPathR_some h2).1 h3]
theorem rdTrajR_yes {ls q r r2 : List (List UInt8)} {g x y z : Int} {p : PathD} {fs : List ProfD} (h : rdN kwTraj 4 ls = some ([g, x, y, z], q)) (h2 : rdPathR q = some (p, r)) (h3 : rep rdProf p.edges.length r = some (fs, r2)) : rdTrajR ls = some (⟨g, (x, y, z), p, fs⟩, r2) := by
  unfold rdTrajR
  rw [rdTraj_yes h (rdPathR_some h2).1 h3]
  simp only
  rw [if_pos (rdPathR_some h2).2]
theorem rdProf_no1 {q : List (List UInt8)} (h : rdN kwProfile 2 q = none) : rdProf q = none := by
  unfold rdProf; rw [h]
theorem rdProf_no2 {q r : List (List UInt8)} {a b : Int} (h : rdN kwProfile 2 q = some ([a, b], r)) (hc : ¬ cntOk a = true ∨ ¬ cntOk b = true) : rdProf q = none := by
  unfold rdProf; rw [h]; simp only
  rw [if_neg]
  rw [Bool.and_eq_true]
  exact fun h => hc.elim (fun h1 => h1 h.1) (fun h1 => h1 h.2)
theorem rdProf_no3 {q r : List (List UInt8)} {a b : Int} (h : rdN kwProfile 2 q = some ([a, b], r)) (h3 : rdN kwLevels a.toNat r = none) : rdProf q = none := by
  unfold rdProf; rw [h]; simp only; rw [h3]
  by_cases e : (cntOk a && cntOk b) = true
  · rw [if_pos e]
  · rw [if_neg e]
theorem rdProf_no4 {q r r2 : List (List UInt8)} {a b : Int} {lv : List Int} (h : rdN kwProfile 2 q = some ([a, b], r)) (h3 : rdN kwLevels a.toNat r = some (lv, r2)) (h4 : rdN kwSteps b.toNat r2 = none) : rdProf q = none := by
  unfold rdProf; rw [h]; simp only; rw [h3]; simp only; rw [h4]
  by_cases e : (cntOk a && cntOk b) = true
  · rw [if_pos e]
  · rw [if_neg e]
theorem rdProf_yes {q r r2 r3 : List (List UInt8)} {a b : Int} {lv st : List Int} (h : rdN kwProfile 2 q = some ([a, b], r)) (ha : cntOk a = true) (hb : cntOk b = true) (h3 : rdN kwLevels a.toNat r = some (lv, r2)) (h4 : rdN kwSteps b.toNat r2 = some (st, r3)) : rdProf q = some (⟨lv, st⟩, r3) := by
  unfold rdProf; rw [h]; simp only; rw [ha, hb, h3]; simp only; rw [h4]; rfl
end Go.Proofs.Fm
