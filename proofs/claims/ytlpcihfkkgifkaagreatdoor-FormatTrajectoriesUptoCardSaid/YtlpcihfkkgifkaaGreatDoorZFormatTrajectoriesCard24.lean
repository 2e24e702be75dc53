/-
  Texts put together: Eg.
-/
import Derived.Test.YtlpcihfkkgifkaaGreatDoorZFormatTrajectoriesCard23
import Derived.Test.YtlpcihfkkgifkaaGreatDoorZFormatTrajectoriesCard15
set_option linter.unusedVariables false
namespace Go.Proofs.Ng
open Go.RowKit

def nsOf (n : Nat) (o : Option (List Int × List (List UInt8))) : List Int := (o.map Prod.fst).getD (List.replicate n 0)
def qOf {A : Type} (o : Option (A × List (List UInt8))) : List (List UInt8) := (o.map Prod.snd).getD []
theorem NrP.norm {b gL n : Nat} {Ln : List (List UInt8)} {W W' : World} {o : Option (List Int × List (List UInt8))} {e : Ending} (h : NrP b gL Ln n W o e W') :
    ∃ v, e = .returned v ∧ (nsOf n o).length = n ∧ (∀ x ∈ nsOf n o, Fm.inR64 x) ∧ New W.heap.size W' (NumV v (nsOf n o)) ∧ RfS W' b gL Ln (qOf o) o.isNone ∧ W.grownBy W' (some b) := by
  obtain ⟨v, ns, rfl, h1, h2, h3, h4, h5⟩ := h
  cases o with
  | none =>
    obtain ⟨rfl, h6⟩ := h5
    exact ⟨v, rfl, h1, h2, h3, h6, h4⟩
  | some p =>
    obtain ⟨x, r⟩ := p
    obtain ⟨rfl, h6⟩ := h5
    exact ⟨v, rfl, h1, h2, h3, h6, h4⟩
def cntN (n : Int) : Nat := if Fm.cntOk n = true then n.toNat else 0
theorem cntN_eq (n : Int) : (if Fm.cntOk n = true then n else 0) = ((cntN n : Nat) : Int) := by
  unfold cntN
  split
  · rename_i h; exact (Fm.cnt_nat h).symm
  · rfl
theorem cntN_le (n : Int) : cntN n ≤ 1048576 := by
  unfold cntN
  split
  · rename_i h; unfold Fm.cntOk at h; rw [decide_eq_true_eq] at h; omega
  · omega
theorem gd_t {A : Type} (o : Option A) : gd true o = none := rfl
theorem gd_f {A : Type} (o : Option A) : gd false o = o := rfl
/-- What the reader of a profile says. -/
theorem prof_res {q q9 q8 : List (List UInt8)} {na nb : Int} {bd9 bd1 bd8 bd14 : Bool} {o9 o8 o15 : Option (List Int × List (List UInt8))} (h9 : Fm.rdN Fm.kwProfile 2 q = o9) (hns : nsOf 2 o9 = [na, nb]) (hb9 : bd9 = o9.isNone) (hq9 : q9 = qOf o9) (h1 : bd1 = (bd9 || !Fm.cntOk na)) (h8 : gd bd1 (Fm.rdN Fm.kwLevels (cntN na) q9) = o8) (hb8 : bd8 = o8.isNone) (hq8 : q8 = qOf o8) (h14 : bd14 = (bd8 || !Fm.cntOk nb)) (h15 : gd bd14 (Fm.rdN Fm.kwSteps (cntN nb) q8) = o15) :
    (o15.isNone = false → Fm.rdProf q = some (⟨nsOf (cntN na) o8, nsOf (cntN nb) o15⟩, qOf o15)) ∧ (o15.isNone = true → Fm.rdProf q = none) := by
  subst hb9 hq9 h1 hb8 hq8 h14
  cases o9 with
  | none =>
    have e8 : o8 = none := by rw [← h8]; rfl
    subst e8
    have e15 : o15 = none := by rw [← h15]; rfl
    subst e15
    exact ⟨nofun, fun _ => Fm.rdProf_no1 h9⟩
  | some p =>
    obtain ⟨x, r⟩ := p
    have hx : x = [na, nb] := hns
    subst hx
    cases hca : Fm.cntOk na with
    | false =>
      rw [hca] at h8
      have e8 : o8 = none := by rw [← h8]; rfl
      subst e8
      have e15 : o15 = none := by rw [← h15]; rfl
      subst e15
      exact ⟨nofun, fun _ => Fm.rdProf_no2 h9 (.inl (by rw [hca]; decide))⟩
    | true =>
      have ec : cntN na = na.toNat := by unfold cntN; rw [if_pos hca]
      rw [hca] at h8
      have h8' : Fm.rdN Fm.kwLevels na.toNat r = o8 := by rw [← h8, ec]; rfl
      cases o8 with
      | none =>
        have e15 : o15 = none := by rw [← h15]; rfl
        subst e15
        exact ⟨nofun, fun _ => Fm.rdProf_no3 h9 h8'⟩
      | some p8 =>
        obtain ⟨lv, r8⟩ := p8
        cases hcb : Fm.cntOk nb with
        | false =>
          rw [hcb] at h15
          have e15 : o15 = none := by rw [← h15]; rfl
          subst e15
          exact ⟨nofun, fun _ => Fm.rdProf_no2 h9 (.inr (by rw [hcb]; decide))⟩
        | true =>
          have ec2 : cntN nb = nb.toNat := by unfold cntN; rw [if_pos hcb]
          rw [hcb] at h15
          have h15' : Fm.rdN Fm.kwSteps nb.toNat r8 = o15 := by rw [← h15, ec2]; rfl
          cases o15 with
          | none => exact ⟨nofun, fun _ => Fm.rdProf_no4 h9 h8' h15'⟩
          | some p15 =>
            obtain ⟨st, r15⟩ := p15
            exact ⟨fun _ => Fm.rdProf_yes h9 hca hcb h8' h15', nofun⟩
theorem parseResT_open (s : List UInt8) : parseResT s = match openRes s 3 with
    | (c, none) => (trajZ, c)
    | (_, some r) => (match Fm.rdTraj (Fm.splitC 10 r) with
      | some (p, q) => if (Fm.rdEnd q [] && Fm.rightP p.path) = true then (p, 0) else (trajZ, 4301)
      | none => (trajZ, 4301)) := by
  unfold parseResT openRes
  by_cases h1 : 1048576 < s.length
  · rw [if_pos h1, if_pos h1]
  · rw [if_neg h1, if_neg h1]
    by_cases h2 : kindN s = 3
    · rw [if_pos h2, if_pos h2]
      cases hsf : Lib.hasSuffix s [10] with
      | true =>
        obtain ⟨r, hr⟩ := (suffix_nl s).1 hsf
        simp only [if_true]
        rw [hr, List.dropLast_concat, Fm.parseTr_ends]
        cases Fm.rdTraj (Fm.splitC 10 r) with
        | none => rfl
        | some pq =>
          obtain ⟨p, q⟩ := pq
          simp only
          by_cases hc : Fm.rightP p.path = true ∧ Fm.rdEnd q [] = true
          · rw [if_pos hc, if_pos (by rw [hc.1, hc.2]; rfl)]
          · rw [if_neg hc, if_neg (fun e => hc (by rw [Bool.and_eq_true] at e; exact ⟨e.2, e.1⟩))]
      | false =>
        simp only [Bool.false_eq_true, if_false]
        have hne : s ≠ [] := by
          rintro rfl
          exact absurd h2 (by decide)
        rw [Fm.parseTr_no hne (fun h => by rw [(suffix_nl s).2 h] at hsf; cases hsf)]
    · rw [if_neg h2, if_neg h2]
theorem finT {X W : World} {n : Nat} {a0 a1 a2 a3 a4 a5 a6 : Value} {code : Int} {res : Fm.TrajD × Int} {p : Fm.TrajD} (h2 : Bx X n [a0, a1, a2, a3, a4, a5, a6] 41) (hr : res = (p, code)) (hV : New W.heap.size X (TrajV (.agg #[a0, a1, a2, a3, a4, a5, a6]) p)) (hb : Below W.heap.size W X) :
    X.cell? ⟨n, 0, none⟩ = some a0 ∧ X.cell? ⟨n, 1, none⟩ = some a1 ∧ X.cell? ⟨n, 2, none⟩ = some a2 ∧ X.cell? ⟨n, 3, none⟩ = some a3 ∧ X.cell? ⟨n, 4, none⟩ = some a4 ∧ X.cell? ⟨n, 5, none⟩ = some a5 ∧ X.cell? ⟨n, 6, none⟩ = some a6 ∧ n < X.heap.size ∧ ParP TrajV res W (.returned (.tuple #[.agg #[a0, a1, a2, a3, a4, a5, a6], .int .i64 code])) X := by
  subst hr
  exact ⟨h2.c 0 _ rfl, h2.c 1 _ rfl, h2.c 2 _ rfl, h2.c 3 _ rfl, h2.c 4 _ rfl, h2.c 5 _ rfl, h2.c 6 _ rfl, h2.lt, _, rfl, hV, hb⟩
/-- The path that was read, whatever it is. -/
theorem RrP.path {b gL : Nat} {Ln : List (List UInt8)} {W W' : World} {o : Option (Fm.PathD × List (List UInt8))} {e : Ending} (h : RrP b gL Ln PathV PathZ W o e W') :
    ∃ ao lo co ae le ce, e = .returned (.agg #[.slice ao lo co, .slice ae le ce]) ∧ New W.heap.size W' (fun Y => ∀ p r, o = some (p, r) → PathV (.agg #[.slice ao lo co, .slice ae le ce]) p Y) ∧ RfS W' b gL Ln (qOf o) o.isNone ∧ W.grownBy W' (some b) := by
  rcases o with _ | ⟨p, r⟩
  · obtain ⟨v, rfl, hz, hS, hG⟩ := h.no
    obtain ⟨a, b', c, d, e', f, rfl⟩ := hz.now
    exact ⟨a, b', c, d, e', f, rfl, (fun _ _ p r e => nomatch e), hS, hG⟩
  · obtain ⟨v, rfl, hN, hS, hG⟩ := h.yes
    obtain ⟨a, c, d, f, rfl, -, -⟩ := hN.now
    refine ⟨a, _, c, d, _, f, rfl, fun Y hY p' r' e => ?_, hS, hG⟩
    injection e with e
    injection e with e1 e2
    subst e1
    exact hN Y hY
theorem traj_res5 {Ln : List (List UInt8)} {o4 : Option (List Int × List (List UInt8))} {o5 : Option (Fm.PathD × List (List UInt8))} {ng nx ny nz : Int} (h4 : Fm.rdN Fm.kwTraj 4 Ln = o4) (hns : nsOf 4 o4 = [ng, nx, ny, nz]) (h5 : Fm.rdPath (gdl o4.isNone (qOf o4)) = o5) :
    (∀ pd q, o5 = some (pd, q) → ∃ q4, Fm.rdN Fm.kwTraj 4 Ln = some ([ng, nx, ny, nz], q4) ∧ Fm.rdPath q4 = some (pd, q)) ∧ (o5 = none → Fm.rdTraj Ln = none) := by
  cases o4 with
  | none =>
    have e5 : o5 = none := by rw [← h5]; rfl
    exact ⟨fun pd q e => (by rw [e5] at e; cases e), fun _ => Fm.rdTraj_no0 h4⟩
  | some p =>
    obtain ⟨x, r⟩ := p
    have hx : x = [ng, nx, ny, nz] := hns
    subst hx
    have h5' : Fm.rdPath r = o5 := h5
    exact ⟨fun pd q e => ⟨r, h4, by rw [h5', e]⟩, fun e => Fm.rdTraj_no1 h4 (by rw [h5', e])⟩
/-- The reader's state by what has been done. -/
def stQ (q q8 q15 : List (List UInt8)) (L : Nat → Bool) : List (List UInt8) := if L 15 = true then q15 else if L 8 = true then q8 else q
def stB (bd bd1 bd8 bd14 bd15 : Bool) (L : Nat → Bool) : Bool := if L 15 = true then bd15 else if L 14 = true then bd14 else if L 8 = true then bd8 else if L 7 = true then bd1 else bd
theorem prof_new {W5 w : World} {ol oi : Option Addr} {cl ci : Nat} {lv st : List Int} (h1 : NumW W5 w (.slice ol lv.length cl) lv) (h2 : NumW W5 w (.slice oi st.length ci) st) : New W5.heap.size w (fun Y => ProfAt Y [.slice ol lv.length cl, .slice oi st.length ci] ⟨lv, st⟩) := fun X hX => by
  obtain ⟨a1, a2, e1, -, h3⟩ := h1 X hX
  obtain ⟨a3, a4, e2, -, h4⟩ := h2 X hX
  injection e1 with e1 _ e1'
  injection e2 with e2 _ e2'
  exact ⟨ol, cl, oi, ci, rfl, by rw [e1]; exact h3, by rw [e2]; exact h4⟩
theorem no2' {Ln : List (List UInt8)} {o5 : Option (Fm.PathD × List (List UInt8))} {pd : Fm.PathD} {q5 : List (List UInt8)} {ng nx ny nz : Int} {le : Nat} (h5 : o5 = some (pd, q5)) (hg : ∀ pd q, o5 = some (pd, q) → ∃ q4, Fm.rdN Fm.kwTraj 4 Ln = some ([ng, nx, ny, nz], q4) ∧ Fm.rdPath q4 = some (pd, q)) (hl : ∀ pd q, o5 = some (pd, q) → pd.edges.length = le ∧ le ≤ 1048576) (hn : Fm.rep Fm.rdProf le (qOf o5) = none) : Fm.rdTraj Ln = none := by
  obtain ⟨q4, a1, a2⟩ := hg pd q5 h5
  obtain ⟨e, -⟩ := hl pd q5 h5
  subst h5
  exact Fm.rdTraj_no2 a1 a2 (by rw [e]; exact hn)
structure Rt5K (b gL g off cap : Nat) (ng nx ny nz : Int) (Ln q4 : List (List UInt8)) (bd4 : Bool) (o5 : Option (Fm.PathD × List (List UInt8))) (W3 : World) (L : Nat → Bool) (v7 v21 v22 v23 v24 v25 v26 v27 v28 v29 v30 v31 v32 v33 v34 v35 v36 : Value) (w : World) : Prop where
  wf : (L 14 = false → RfS w b gL Ln q4 bd4) ∧ (L 16 = false → ∀ k, v7 ≠ .pointer (some ⟨k, 0, none⟩)) ∧ W3.grownBy w (some b)
  f0 : L 0 = true → v21 = .slice (some ⟨g, off, none⟩) 4 cap
  f1 : L 1 = true → v22 = .pointer (some ⟨g, off, none⟩)
  f2 : L 2 = true → v23 = .int .i64 ng
  f3 : L 3 = true → v24 = .slice (some ⟨g, off, none⟩) 4 cap
  f4 : L 4 = true → v25 = .pointer (some ⟨g, off + 1, none⟩)
  f5 : L 5 = true → v26 = .int .i64 nx
  f6 : L 6 = true → v27 = .slice (some ⟨g, off, none⟩) 4 cap
  f7 : L 7 = true → v28 = .pointer (some ⟨g, off + 2, none⟩)
  f8 : L 8 = true → v29 = .int .i64 ny
  f9 : L 9 = true → v30 = .slice (some ⟨g, off, none⟩) 4 cap
  f10 : L 10 = true → v31 = .pointer (some ⟨g, off + 3, none⟩)
  f11 : L 11 = true → v32 = .int .i64 nz
  f12 : L 12 = true → v33 = .agg #[.int .i64 nx, .int .i64 ny, .int .i64 nz]
  f13 : L 13 = true → v34 = .pointer (some ⟨b, 0, none⟩)
  f14 : L 14 = true → L 17 = false → RfS w b gL Ln (qOf o5) o5.isNone ∧ ∃ ao lo co ae le ce S, v35 = .agg #[.slice ao lo co, .slice ae le ce] ∧ (∀ k, S k → W3.heap.size ≤ k ∧ k < w.heap.size ∧ v7 ≠ .pointer (some ⟨k, 0, none⟩)) ∧ Fp S w (fun Y => ∀ p r, o5 = some (p, r) → PathV (.agg #[.slice ao lo co, .slice ae le ce]) p Y)
  f15 : L 15 = true → L 17 = false → ∃ ao lo co ae le ce S, v36 = .agg #[.slice ao lo co, .slice ae le ce, .int .i64 nx, .int .i64 ny, .int .i64 nz, .int .i64 ng, .slice none 0 0] ∧ (∀ k, S k → W3.heap.size ≤ k ∧ k < w.heap.size ∧ v7 ≠ .pointer (some ⟨k, 0, none⟩)) ∧ Fp S w (fun Y => ∀ p r, o5 = some (p, r) → PathV (.agg #[.slice ao lo co, .slice ae le ce]) p Y)
  f16 : L 16 = true → L 17 = false → ∃ nA, v7 = .pointer (some ⟨nA, 0, none⟩) ∧ Bx w nA [.slice none 0 0, .slice none 0 0, .int .i64 0, .int .i64 0, .int .i64 0, .int .i64 0, .slice none 0 0] 41 ∧ W3.heap.size ≤ nA
  f17 : L 17 = true → ∃ nA ao lo co ae le ce S, v7 = .pointer (some ⟨nA, 0, none⟩) ∧ Bx w nA [.slice ao lo co, .slice ae le ce, .int .i64 nx, .int .i64 ny, .int .i64 nz, .int .i64 ng, .slice none 0 0] 41 ∧ W3.heap.size ≤ nA ∧ (∀ k, S k → W3.heap.size ≤ k ∧ k < w.heap.size ∧ k ≠ nA) ∧ Fp S w (fun Y => ∀ p r, o5 = some (p, r) → PathV (.agg #[.slice ao lo co, .slice ae le ce]) p Y) ∧ RfS w b gL Ln (qOf o5) o5.isNone
  c1_0 : L 1 = true → L 0 = true
  c2_1 : L 2 = true → L 1 = true
  c4_3 : L 4 = true → L 3 = true
  c5_4 : L 5 = true → L 4 = true
  c7_6 : L 7 = true → L 6 = true
  c8_7 : L 8 = true → L 7 = true
  c10_9 : L 10 = true → L 9 = true
  c11_10 : L 11 = true → L 10 = true
  c12_5 : L 12 = true → L 5 = true
  c12_8 : L 12 = true → L 8 = true
  c12_11 : L 12 = true → L 11 = true
  c14_13 : L 14 = true → L 13 = true
  c15_2 : L 15 = true → L 2 = true
  c15_12 : L 15 = true → L 12 = true
  c15_14 : L 15 = true → L 14 = true
  c17_16 : L 17 = true → L 16 = true
  c17_15 : L 17 = true → L 15 = true
theorem Rt5K.keep {b gL g off cap : Nat} {ng nx ny nz : Int} {Ln q4 : List (List UInt8)} {bd4 : Bool} {o5 : Option (Fm.PathD × List (List UInt8))} {W3 : World} {L : Nat → Bool} {v7 v21 v22 v23 v24 v25 v26 v27 v28 v29 v30 v31 v32 v33 v34 v35 v36 : Value} {w X : World} (k : Rt5K b gL g off cap ng nx ny nz Ln q4 bd4 o5 W3 L v7 v21 v22 v23 v24 v25 v26 v27 v28 v29 v30 v31 v32 v33 v34 v35 v36 w) (h17 : L 17 = false) (hb : Below w.heap.size w X) : Rt5K b gL g off cap ng nx ny nz Ln q4 bd4 o5 W3 L v7 v21 v22 v23 v24 v25 v26 v27 v28 v29 v30 v31 v32 v33 v34 v35 v36 X :=
  ⟨⟨fun h => (k.wf.1 h).keep hb, k.wf.2.1, grown_call k.wf.2.2 hb⟩, k.f0, k.f1, k.f2, k.f3, k.f4, k.f5, k.f6, k.f7, k.f8, k.f9, k.f10, k.f11, k.f12, k.f13, fun h e => ⟨(k.f14 h e).1.keep hb, (k.f14 h e).2.elim fun a h => h.elim fun b' h => h.elim fun c h => h.elim fun d h => h.elim fun e' h => h.elim fun f' h => h.elim fun S h => ⟨a, b', c, d, e', f', S, h.1, fun k hk => ⟨(h.2.1 k hk).1, Nat.lt_of_lt_of_le (h.2.1 k hk).2.1 hb.size, (h.2.1 k hk).2.2⟩, Fp.keep h.2.2 fun i hi => hb.block i (h.2.1 i hi).2.1⟩⟩, fun h e => (k.f15 h e).elim fun a h => h.elim fun b' h => h.elim fun c h => h.elim fun d h => h.elim fun e' h => h.elim fun f' h => h.elim fun S h => ⟨a, b', c, d, e', f', S, h.1, fun k hk => ⟨(h.2.1 k hk).1, Nat.lt_of_lt_of_le (h.2.1 k hk).2.1 hb.size, (h.2.1 k hk).2.2⟩, Fp.keep h.2.2 fun i hi => hb.block i (h.2.1 i hi).2.1⟩, fun h e => (k.f16 h e).elim fun n h => ⟨n, h.1, h.2.1.keep hb, h.2.2⟩, fun h => absurd (h17.symm.trans h) (by decide), k.c1_0, k.c2_1, k.c4_3, k.c5_4, k.c7_6, k.c8_7, k.c10_9, k.c11_10, k.c12_5, k.c12_8, k.c12_11, k.c14_13, k.c15_2, k.c15_12, k.c15_14, k.c17_16, k.c17_15⟩
structure Rt10K (b gL n7 g9 off9 cap9 lo : Nat) (na nb : Int) (Ln q9 q8 q15 : List (List UInt8)) (bd9 bd1 bd8 bd14 bd15 : Bool) (ns8 ns15 : List Int) (v c0 c1 c2 c3 c4 c5 : Value) (fs : List Fm.ProfD) (W8 : World) (L : Nat → Bool) (v54 v55 v56 v57 v58 v59 v60 v61 v62 v63 v64 v65 v66 v67 v68 v69 v70 v71 v72 v73 v74 : Value) (w : World) : Prop where
  wf : (L 19 = false → RfS w b gL Ln (stQ q9 q8 q15 L) (stB bd9 bd1 bd8 bd14 bd15 L)) ∧ (L 19 = false → W8.grownBy w (some b))
  f0 : L 0 = true → v54 = .pointer (some ⟨n7, 6, none⟩)
  f1 : L 1 = true → v55 = v
  f2 : L 2 = true → v56 = .pointer (some ⟨b, 0, none⟩)
  f3 : L 3 = true → v57 = .pointer (some ⟨b, 0, none⟩)
  f4 : L 4 = true → v58 = .slice (some ⟨g9, off9, none⟩) 2 cap9
  f5 : L 5 = true → v59 = .pointer (some ⟨g9, off9, none⟩)
  f6 : L 6 = true → v60 = .int .i64 na
  f7 : L 7 = true → v61 = .int .i64 (cntN na : Nat)
  f8 : L 8 = true → L 19 = false → NumW W8 w v62 ns8
  f9 : L 9 = true → v63 = .pointer (some ⟨b, 0, none⟩)
  f10 : L 10 = true → v64 = .pointer (some ⟨b, 0, none⟩)
  f11 : L 11 = true → v65 = .slice (some ⟨g9, off9, none⟩) 2 cap9
  f12 : L 12 = true → v66 = .pointer (some ⟨g9, off9 + 1, none⟩)
  f13 : L 13 = true → v67 = .int .i64 nb
  f14 : L 14 = true → v68 = .int .i64 (cntN nb : Nat)
  f15 : L 15 = true → L 19 = false → NumW W8 w v69 ns15 ∧ (∀ x ∈ ns15, Fm.inR64 x) ∧ ns15.length ≤ 1048576
  f16 : L 16 = true → L 19 = false → NumW W8 w v70 ns15
  f17 : L 17 = true → L 19 = false → ∃ ol cl oi ci, v71 = .agg #[.slice ol ns8.length cl, .slice oi ns15.length ci] ∧ New W8.heap.size w (fun Y => ProfAt Y [.slice ol ns8.length cl, .slice oi ns15.length ci] ⟨ns8, ns15⟩)
  f18 : L 18 = true → L 19 = false → ∃ ol cl oi ci gB, v72 = .slice (some ⟨gB, 0, none⟩) 1 1 ∧ Bx w gB [.slice ol ns8.length cl, .slice oi ns15.length ci] 44 ∧ New W8.heap.size w (fun Y => ProfAt Y [.slice ol ns8.length cl, .slice oi ns15.length ci] ⟨ns8, ns15⟩)
  f19 : L 19 = true → RowO ProfAt 44 2 lo w v73 (fs ++ [⟨ns8, ns15⟩]) ∧ RfS w b gL Ln q15 bd15 ∧ Fr3 lo b n7 W8 w ∧ (L 21 = false → Bx w n7 [c0, c1, c2, c3, c4, c5, v] 41)
  f20 : L 20 = true → v74 = .pointer (some ⟨n7, 6, none⟩)
  f21 : L 21 = true → Bx w n7 [c0, c1, c2, c3, c4, c5, v73] 41
  c1_0 : L 1 = true → L 0 = true
  c5_4 : L 5 = true → L 4 = true
  c6_5 : L 6 = true → L 5 = true
  c7_3 : L 7 = true → L 3 = true
  c7_6 : L 7 = true → L 6 = true
  c8_2 : L 8 = true → L 2 = true
  c8_7 : L 8 = true → L 7 = true
  c12_11 : L 12 = true → L 11 = true
  c13_12 : L 13 = true → L 12 = true
  c14_10 : L 14 = true → L 10 = true
  c14_13 : L 14 = true → L 13 = true
  c14_8 : L 14 = true → L 8 = true
  c15_9 : L 15 = true → L 9 = true
  c15_14 : L 15 = true → L 14 = true
  c16_15 : L 16 = true → L 15 = true
  c17_8 : L 17 = true → L 8 = true
  c17_16 : L 17 = true → L 16 = true
  c18_17 : L 18 = true → L 17 = true
  c19_1 : L 19 = true → L 1 = true
  c19_18 : L 19 = true → L 18 = true
  c21_20 : L 21 = true → L 20 = true
  c21_19 : L 21 = true → L 19 = true
theorem Rt10K.keep {b gL n7 g9 off9 cap9 lo : Nat} {na nb : Int} {Ln q9 q8 q15 : List (List UInt8)} {bd9 bd1 bd8 bd14 bd15 : Bool} {ns8 ns15 : List Int} {v c0 c1 c2 c3 c4 c5 : Value} {fs : List Fm.ProfD} {W8 : World} {L : Nat → Bool} {v54 v55 v56 v57 v58 v59 v60 v61 v62 v63 v64 v65 v66 v67 v68 v69 v70 v71 v72 v73 v74 : Value} {w X : World} (k : Rt10K b gL n7 g9 off9 cap9 lo na nb Ln q9 q8 q15 bd9 bd1 bd8 bd14 bd15 ns8 ns15 v c0 c1 c2 c3 c4 c5 fs W8 L v54 v55 v56 v57 v58 v59 v60 v61 v62 v63 v64 v65 v66 v67 v68 v69 v70 v71 v72 v73 v74 w) (h19 : L 19 = false) (hb : Below w.heap.size w X) : Rt10K b gL n7 g9 off9 cap9 lo na nb Ln q9 q8 q15 bd9 bd1 bd8 bd14 bd15 ns8 ns15 v c0 c1 c2 c3 c4 c5 fs W8 L v54 v55 v56 v57 v58 v59 v60 v61 v62 v63 v64 v65 v66 v67 v68 v69 v70 v71 v72 v73 v74 X :=
  ⟨⟨fun h => (k.wf.1 h).keep hb, fun h => grown_call (k.wf.2 h) hb⟩, k.f0, k.f1, k.f2, k.f3, k.f4, k.f5, k.f6, k.f7, fun h e => (k.f8 h e).keep hb, k.f9, k.f10, k.f11, k.f12, k.f13, k.f14, fun h e => ⟨(k.f15 h e).1.keep hb, (k.f15 h e).2⟩, fun h e => (k.f16 h e).keep hb, fun h e => (k.f17 h e).elim fun a h => h.elim fun b' h => h.elim fun c h => h.elim fun d h => ⟨a, b', c, d, h.1, New.keep h.2 (AgI.of hb)⟩, fun h e => (k.f18 h e).elim fun a h => h.elim fun b' h => h.elim fun c h => h.elim fun d h => h.elim fun g h => ⟨a, b', c, d, g, h.1, h.2.1.keep hb, New.keep h.2.2 (AgI.of hb)⟩, fun h => absurd (h19.symm.trans h) (by decide), k.f20, fun h => absurd (h19.symm.trans (k.c21_19 h)) (by decide), k.c1_0, k.c5_4, k.c6_5, k.c7_3, k.c7_6, k.c8_2, k.c8_7, k.c12_11, k.c13_12, k.c14_10, k.c14_13, k.c14_8, k.c15_9, k.c15_14, k.c16_15, k.c17_8, k.c17_16, k.c18_17, k.c19_1, k.c19_18, k.c21_20, k.c21_19⟩
set_option maxRecDepth 100000 in
set_option maxHeartbeats 16000000 in
theorem refParseTraj32 (s : ByteArray) (W : World) (hs : s.size ≤ 9223372036854775807) (hL : LibW W) : Calls Tryz.prog 32 #[.string s] W (ParP TrajV (parseResT s.data.toList) W) := by
  generalize hR : parseResT s.data.toList = res
  rw [parseResT_open] at hR
  have HR := Lib.hid hR
  clear hR
  have hb1 : Below W.heap.size W (W.alloc (.cells #[.slice none 0 0, .slice none 0 0, .int .i64 0, .int .i64 0, .int .i64 0, .int .i64 0, .slice none 0 0] 41)) := (Below.refl _ _).alloc (Nat.le_refl _) _
  have HX2 := Lib.hid (Bx.new W [.slice none 0 0, .slice none 0 0, .int .i64 0, .int .i64 0, .int .i64 0, .int .i64 0, .slice none 0 0] 41)
  have HL := Lib.hid (hL.keep hb1)
  have HB := Lib.hid hb1
  have HZ : Hid ((W.alloc (.cells #[.slice none 0 0, .slice none 0 0, .int .i64 0, .int .i64 0, .int .i64 0, .int .i64 0, .slice none 0 0] 41)).heap.size = W.heap.size + 1) := Lib.hid (by simp)
  clear hb1 hL
  go_enter Tryz.func32, Tryz.ntmps32
  go_upto_region 1 with fail
  generalize W.alloc (.cells #[.slice none 0 0, .slice none 0 0, .int .i64 0, .int .i64 0, .int .i64 0, .int .i64 0, .slice none 0 0] 41) = W1 at HX2 HL HB HZ ⊢
  obtain ⟨n2, hn2⟩ : ∃ n, n = W.heap.size := ⟨_, rfl⟩
  have HN2 := Lib.hid hn2
  rw [← hn2] at HX2 HZ ⊢
  clear hn2
  have HO := Lib.hid (open44 s 3 W1 hs HL.out)
  have HC0 : Hid (∀ c, openRes s.data.toList 3 = (c, none) → c ≠ 0) := Lib.hid (fun c h => by
    unfold openRes at h
    split at h
    · injection h with h; omega
    · split at h
      · split at h
        · injection h with _ h; cases h
        · injection h with h; omega
      · injection h with h; omega)
  have HZE : Hid (∀ (Y : World) (x0 x1 x2 x3 x4 x5 x6 : Value) (code : Int), Bx Y n2 [x0, x1, x2, x3, x4, x5, x6] 41 → res = (trajZ, code) → Below W.heap.size W Y →
      (zer7 Y n2).cell? ⟨n2, 0, none⟩ = some (.slice none 0 0) ∧ (zer7 Y n2).cell? ⟨n2, 1, none⟩ = some (.slice none 0 0) ∧ (zer7 Y n2).cell? ⟨n2, 2, none⟩ = some (.int .i64 0) ∧ (zer7 Y n2).cell? ⟨n2, 3, none⟩ = some (.int .i64 0) ∧ (zer7 Y n2).cell? ⟨n2, 4, none⟩ = some (.int .i64 0) ∧ (zer7 Y n2).cell? ⟨n2, 5, none⟩ = some (.int .i64 0) ∧ (zer7 Y n2).cell? ⟨n2, 6, none⟩ = some (.slice none 0 0) ∧ n2 < (zer7 Y n2).heap.size ∧ ParP TrajV res W (.returned (.tuple #[.agg #[.slice none 0 0, .slice none 0 0, .int .i64 0, .int .i64 0, .int .i64 0, .int .i64 0, .slice none 0 0], .int .i64 code])) (zer7 Y n2)) := Lib.hid (fun Y x0 x1 x2 x3 x4 x5 x6 code h2 hr hb =>
    finT (st7 h2 _ _ _ _ _ _ _) hr (fun X _ => trajV_nil X) (hb.trans (set7_below Y n2 W.heap.size (Nat.le_of_eq HN2.out.symm) _ _ _ _ _ _ _)))
  generalize openRes s.data.toList 3 = ores at HO HR HC0
  go_wp2_with fail
  refine HO.out.mono ?_
  clear HO
  rintro e W2 ⟨he, hb2⟩
  obtain ⟨c, orr⟩ := ores
  rcases orr with _ | r
  · simp only at he
    subst he
    have hc0 := HC0.out c rfl
    have hcb : (c != 0) = true := by simp [hc0]
    have hx2 := HX2.out.keep hb2
    have HB2 := Lib.hid (below_call HB.out hb2)
    have HRN : Hid (res = (trajZ, c)) := Lib.hid HR.out.symm
    have HF := Lib.hid (HZE.out W2 _ _ _ _ _ _ _ c hx2 HRN.out HB2.out)
    have l2 := hx2.lt
    obtain ⟨y0, z0, y1, z1, y2, z2, y3, z3, y4, z4, y5, z5, y6, z6⟩ := facts7 hx2 (.slice none 0 0) (.slice none 0 0) (.int .i64 0) (.int .i64 0) (.int .i64 0) (.int .i64 0)
    unfold zer7 set7 at HF
    clear hb2 hx2
    go_wp2
    clear y0 z0 y1 z1 y2 z2 y3 z3 y4 z4 y5 z5 y6 z6 l2
    generalize ((((((W2.setCell ⟨n2, 0, none⟩ (.slice none 0 0)).setCell ⟨n2, 1, none⟩ (.slice none 0 0)).setCell ⟨n2, 2, none⟩ (.int .i64 0)).setCell ⟨n2, 3, none⟩ (.int .i64 0)).setCell ⟨n2, 4, none⟩ (.int .i64 0)).setCell ⟨n2, 5, none⟩ (.int .i64 0)).setCell ⟨n2, 6, none⟩ (.slice none 0 0) = X at HF ⊢
    obtain ⟨c0, c1, c2, c3, c4, c5, c6, cl, hP⟩ := HF.out
    refine bodyPost_ret (v := .tuple #[.agg #[.slice none 0 0, .slice none 0 0, .int .i64 0, .int .i64 0, .int .i64 0, .int .i64 0, .slice none 0 0], .int .i64 c]) (by simp [results, Tryz.results32, go_sem, c0, c1, c2, c3, c4, c5, c6]) rfl ?_
    exact hP
  · obtain ⟨b, gL, rfl, hbl, hgl, hS⟩ := he
    have HB2 := Lib.hid (below_call HB.out hb2)
    have HL2 := Lib.hid (HL.out.keep hb2)
    have HX22 := Lib.hid (HX2.out.keep hb2)
    have h8 := hS.lo
    have HLB : Hid (n2 + 1 ≤ b ∧ n2 + 1 ≤ gL ∧ W.heap.size = n2) := Lib.hid (by have := HZ.out; have := HN2.out; omega)
    have HR2 : Hid ((match Fm.rdTraj (Fm.splitC 10 r) with
      | some (p, q) => if (Fm.rdEnd q [] && Fm.rightP p.path) = true then (p, 0) else (trajZ, 4301)
      | none => (trajZ, 4301)) = res) := Lib.hid HR.out
    generalize Fm.splitC 10 r = Ln at hS HR2
    have HO : Hid (Fm.rdTraj Ln = Fm.rdTraj Ln) := Lib.hid rfl
    have HC := Lib.hid (numbers52 W2 b gL Ln Ln ⟨#[116, 114, 97, 106, 101, 99, 116, 111, 114, 121]⟩ 4 (by decide) false hS HL2.out)
    have hlt0 := hS.lt
    have hltg := hS.ltg
    clear hb2 HX2 HB HL HR HC0 hS hbl hgl HZ
    rw [gd_f] at HC
    go_wp2_with fail
    refine HC.out.mono ?_
    clear HC
    rintro e W3 h3
    obtain ⟨v, rfl, hnl, hni, hN, hS, hG⟩ := h3.norm
    generalize hO4 : Fm.rdN (⟨#[116, 114, 97, 106, 101, 99, 116, 111, 114, 121]⟩ : ByteArray).data.toList 4 Ln = o4 at hnl hni hN hS
    have HO4 : Hid (Fm.rdN Fm.kwTraj 4 Ln = o4) := Lib.hid hO4
    obtain ⟨ng, nx, ny, nz, hns⟩ : ∃ a b c d, nsOf 4 o4 = [a, b, c, d] := by
      match hh : nsOf 4 o4, hnl with
      | [a, b, c, d], _ => exact ⟨a, b, c, d, rfl⟩
    rw [hns] at hN
    have HNS := Lib.hid hns
    obtain ⟨oa, cap, rfl, hcap, hs⟩ := hN.now
    obtain ⟨g, off, rfl, hra⟩ := hs (by simp [pvals])
    obtain ⟨x0, x1, x2, x3, glt⟩ := NumV.four hN.now
    have HXA : Hid (∀ X, W3.grownBy X (some b) → X.cell? ⟨g, off, none⟩ = some (.int .i64 ng) ∧ X.cell? ⟨g, off + 1, none⟩ = some (.int .i64 nx) ∧ X.cell? ⟨g, off + 2, none⟩ = some (.int .i64 ny) ∧ X.cell? ⟨g, off + 3, none⟩ = some (.int .i64 nz) ∧ g < X.heap.size) := Lib.hid (fun X hX => NumV.four (New.keep hN (grown_ag hX W2.heap.size hlt0)).now)
    have HG3 := Lib.hid hG
    have HS3 := Lib.hid hS
    have HL3 := Lib.hid (HL2.out.keepG hG h8)
    have HX23 := Lib.hid (HX22.out.grown hG (by have := HLB.out; omega))
    have hb3 : b < W3.heap.size := Nat.lt_of_lt_of_le hlt0 hG.size
    have hg3 : gL < W3.heap.size := Nat.lt_of_lt_of_le hltg hG.size
    clear h3 hO4 hnl hni hns hN hS hG hcap hs hra x0 x1 x2 x3 HX22 HL2
    have HC := Lib.hid (fun X (h1 : RfS X b gL Ln (qOf o4) o4.isNone) (h2 : LibW X) => path45_gen X b gL Ln (qOf o4) o4.isNone h1 h2)
    generalize hO5 : Fm.rdPath (gdl o4.isNone (qOf o4)) = o5 at HC
    have HO5 := Lib.hid hO5
    generalize hq4 : qOf o4 = q4 at HS3 HC
    generalize hbd4 : o4.isNone = bd4 at HS3 HC
    clear hO5 hq4 hbd4
    go_upto_region 5 with fail
    refine wp_region_inv (by kernel_rfl) (by kernel_rfl) (fun L a w => ∃ v7 v21 v22 v23 v24 v25 v26 v27 v28 v29 v30 v31 v32 v33 v34 v35 v36 : Value, a = { tmps := #[(Value.string s), undef, (Value.pointer (some ⟨n2, 0, none⟩)), (Value.int IntKind.i64 0), (Value.pointer (some ⟨b, 0, none⟩)), (Value.int IntKind.i64 0), (Value.slice (some ⟨g, off, none⟩) 4 cap), v7, undef, undef, (Value.tuple #[Value.pointer (some ⟨b, 0, none⟩), Value.int IntKind.i64 0]), (Value.string s), (Value.tuple #[Value.pointer (some ⟨b, 0, none⟩), Value.int IntKind.i64 0]), (Value.pointer (some ⟨b, 0, none⟩)), (Value.int IntKind.i64 0), (Value.int IntKind.i64 0), (Value.bool false), undef, undef, (Value.pointer (some ⟨b, 0, none⟩)), (Value.slice (some ⟨g, off, none⟩) 4 cap), v21, v22, v23, v24, v25, v26, v27, v28, v29, v30, v31, v32, v33, v34, v35, v36, undef, undef, undef, undef, undef, undef, undef, undef, undef, undef, undef, undef, undef, undef, undef, undef, undef, undef, undef, undef, undef, undef, undef, undef, undef, undef, undef, undef, undef, undef, undef, undef, undef, undef, undef, undef, undef, undef, undef, undef, undef, undef, undef, undef, undef, undef, undef, undef, undef], defers := [] } ∧ Rt5K b gL g off cap ng nx ny nz Ln q4 bd4 o5 W3 L v7 v21 v22 v23 v24 v25 v26 v27 v28 v29 v30 v31 v32 v33 v34 v35 v36 w) ?_ ?_ ?_
    · exact ⟨_, _, _, _, _, _, _, _, _, _, _, _, _, _, _, _, _, rfl, ⟨⟨fun _ => HS3.out.keep (below_drew W3 1), fun _ k h => (by cases h), grown_of_below (below_drew W3 1)⟩, nofun, nofun, nofun, nofun, nofun, nofun, nofun, nofun, nofun, nofun, nofun, nofun, nofun, nofun, nofun, nofun, nofun, nofun, nofun, nofun, nofun, nofun, nofun, nofun, nofun, nofun, nofun, nofun, nofun, nofun, nofun, nofun, nofun, nofun, nofun⟩⟩
    · intro iq oq ho L a w hL hd hJ
      obtain ⟨v7, v21, v22, v23, v24, v25, v26, v27, v28, v29, v30, v31, v32, v33, v34, v35, v36, rfl, k⟩ := hJ
      have hiq : iq < 18 := by have := (Array.getElem?_eq_some_iff.1 ho).1; simpa using this
      match iq, hiq, ho, hL with
      | 0, _, ho, hL =>
        have ho2 := ho
        simp only [List.getElem?_toArray, List.getElem?_cons_zero, List.getElem?_cons_succ, Option.some.injEq] at ho
        subst ho
        refine wpOp_step ho2 (fun K hK => ?_)
        go_simp
        exact hK _ _ ⟨_, _, _, _, _, _, _, _, _, _, _, _, _, _, _, _, _, rfl, ⟨k.wf, fun _ => rfl, k.f1, k.f2, k.f3, k.f4, k.f5, k.f6, k.f7, k.f8, k.f9, k.f10, k.f11, k.f12, k.f13, k.f14, k.f15, k.f16, k.f17, fun h => up_or (k.c1_0 h), fun h => up_or (k.c2_1 h), fun h => up_or (k.c4_3 h), fun h => up_or (k.c5_4 h), fun h => up_or (k.c7_6 h), fun h => up_or (k.c8_7 h), fun h => up_or (k.c10_9 h), fun h => up_or (k.c11_10 h), fun h => up_or (k.c12_5 h), fun h => up_or (k.c12_8 h), fun h => up_or (k.c12_11 h), fun h => up_or (k.c14_13 h), fun h => up_or (k.c15_2 h), fun h => up_or (k.c15_12 h), fun h => up_or (k.c15_14 h), fun h => up_or (k.c17_16 h), fun h => up_or (k.c17_15 h)⟩⟩
      | 1, _, ho, hL =>
        have ho2 := ho
        simp only [List.getElem?_toArray, List.getElem?_cons_zero, List.getElem?_cons_succ, Option.some.injEq] at ho
        subst ho
        refine wpOp_step ho2 (fun K hK => ?_)
        obtain rfl := k.f0 (hd ⟨0, .data⟩ (by simp) rfl)
        go_simp
        exact hK _ _ ⟨_, _, _, _, _, _, _, _, _, _, _, _, _, _, _, _, _, rfl, ⟨k.wf, k.f0, fun _ => rfl, k.f2, k.f3, k.f4, k.f5, k.f6, k.f7, k.f8, k.f9, k.f10, k.f11, k.f12, k.f13, k.f14, k.f15, k.f16, k.f17, fun _ => up_or (hd ⟨0, .data⟩ (by simp) rfl), fun h => up_or (k.c2_1 h), fun h => up_or (k.c4_3 h), fun h => up_or (k.c5_4 h), fun h => up_or (k.c7_6 h), fun h => up_or (k.c8_7 h), fun h => up_or (k.c10_9 h), fun h => up_or (k.c11_10 h), fun h => up_or (k.c12_5 h), fun h => up_or (k.c12_8 h), fun h => up_or (k.c12_11 h), fun h => up_or (k.c14_13 h), fun h => up_or (k.c15_2 h), fun h => up_or (k.c15_12 h), fun h => up_or (k.c15_14 h), fun h => up_or (k.c17_16 h), fun h => up_or (k.c17_15 h)⟩⟩
      | 2, _, ho, hL =>
        have ho2 := ho
        simp only [List.getElem?_toArray, List.getElem?_cons_zero, List.getElem?_cons_succ, Option.some.injEq] at ho
        subst ho
        refine wpOp_step ho2 (fun K hK => ?_)
        obtain rfl := k.f1 (hd ⟨1, .data⟩ (by simp) rfl)
        obtain ⟨xx0, xx1, xx2, xx3, gw⟩ := HXA.out w k.wf.2.2
        go_simp
        exact hK _ _ ⟨_, _, _, _, _, _, _, _, _, _, _, _, _, _, _, _, _, rfl, ⟨k.wf, k.f0, k.f1, fun _ => rfl, k.f3, k.f4, k.f5, k.f6, k.f7, k.f8, k.f9, k.f10, k.f11, k.f12, k.f13, k.f14, k.f15, k.f16, k.f17, fun h => up_or (k.c1_0 h), fun _ => up_or (hd ⟨1, .data⟩ (by simp) rfl), fun h => up_or (k.c4_3 h), fun h => up_or (k.c5_4 h), fun h => up_or (k.c7_6 h), fun h => up_or (k.c8_7 h), fun h => up_or (k.c10_9 h), fun h => up_or (k.c11_10 h), fun h => up_or (k.c12_5 h), fun h => up_or (k.c12_8 h), fun h => up_or (k.c12_11 h), fun h => up_or (k.c14_13 h), fun h => up_or (k.c15_2 h), fun h => up_or (k.c15_12 h), fun h => up_or (k.c15_14 h), fun h => up_or (k.c17_16 h), fun h => up_or (k.c17_15 h)⟩⟩
      | 3, _, ho, hL =>
        have ho2 := ho
        simp only [List.getElem?_toArray, List.getElem?_cons_zero, List.getElem?_cons_succ, Option.some.injEq] at ho
        subst ho
        refine wpOp_step ho2 (fun K hK => ?_)
        go_simp
        exact hK _ _ ⟨_, _, _, _, _, _, _, _, _, _, _, _, _, _, _, _, _, rfl, ⟨k.wf, k.f0, k.f1, k.f2, fun _ => rfl, k.f4, k.f5, k.f6, k.f7, k.f8, k.f9, k.f10, k.f11, k.f12, k.f13, k.f14, k.f15, k.f16, k.f17, fun h => up_or (k.c1_0 h), fun h => up_or (k.c2_1 h), fun h => up_or (k.c4_3 h), fun h => up_or (k.c5_4 h), fun h => up_or (k.c7_6 h), fun h => up_or (k.c8_7 h), fun h => up_or (k.c10_9 h), fun h => up_or (k.c11_10 h), fun h => up_or (k.c12_5 h), fun h => up_or (k.c12_8 h), fun h => up_or (k.c12_11 h), fun h => up_or (k.c14_13 h), fun h => up_or (k.c15_2 h), fun h => up_or (k.c15_12 h), fun h => up_or (k.c15_14 h), fun h => up_or (k.c17_16 h), fun h => up_or (k.c17_15 h)⟩⟩
      | 4, _, ho, hL =>
        have ho2 := ho
        simp only [List.getElem?_toArray, List.getElem?_cons_zero, List.getElem?_cons_succ, Option.some.injEq] at ho
        subst ho
        refine wpOp_step ho2 (fun K hK => ?_)
        obtain rfl := k.f3 (hd ⟨3, .data⟩ (by simp) rfl)
        go_simp
        exact hK _ _ ⟨_, _, _, _, _, _, _, _, _, _, _, _, _, _, _, _, _, rfl, ⟨k.wf, k.f0, k.f1, k.f2, k.f3, fun _ => rfl, k.f5, k.f6, k.f7, k.f8, k.f9, k.f10, k.f11, k.f12, k.f13, k.f14, k.f15, k.f16, k.f17, fun h => up_or (k.c1_0 h), fun h => up_or (k.c2_1 h), fun _ => up_or (hd ⟨3, .data⟩ (by simp) rfl), fun h => up_or (k.c5_4 h), fun h => up_or (k.c7_6 h), fun h => up_or (k.c8_7 h), fun h => up_or (k.c10_9 h), fun h => up_or (k.c11_10 h), fun h => up_or (k.c12_5 h), fun h => up_or (k.c12_8 h), fun h => up_or (k.c12_11 h), fun h => up_or (k.c14_13 h), fun h => up_or (k.c15_2 h), fun h => up_or (k.c15_12 h), fun h => up_or (k.c15_14 h), fun h => up_or (k.c17_16 h), fun h => up_or (k.c17_15 h)⟩⟩
      | 5, _, ho, hL =>
        have ho2 := ho
        simp only [List.getElem?_toArray, List.getElem?_cons_zero, List.getElem?_cons_succ, Option.some.injEq] at ho
        subst ho
        refine wpOp_step ho2 (fun K hK => ?_)
        obtain rfl := k.f4 (hd ⟨4, .data⟩ (by simp) rfl)
        obtain ⟨xx0, xx1, xx2, xx3, gw⟩ := HXA.out w k.wf.2.2
        go_simp
        exact hK _ _ ⟨_, _, _, _, _, _, _, _, _, _, _, _, _, _, _, _, _, rfl, ⟨k.wf, k.f0, k.f1, k.f2, k.f3, k.f4, fun _ => rfl, k.f6, k.f7, k.f8, k.f9, k.f10, k.f11, k.f12, k.f13, k.f14, k.f15, k.f16, k.f17, fun h => up_or (k.c1_0 h), fun h => up_or (k.c2_1 h), fun h => up_or (k.c4_3 h), fun _ => up_or (hd ⟨4, .data⟩ (by simp) rfl), fun h => up_or (k.c7_6 h), fun h => up_or (k.c8_7 h), fun h => up_or (k.c10_9 h), fun h => up_or (k.c11_10 h), fun h => up_or (k.c12_5 h), fun h => up_or (k.c12_8 h), fun h => up_or (k.c12_11 h), fun h => up_or (k.c14_13 h), fun h => up_or (k.c15_2 h), fun h => up_or (k.c15_12 h), fun h => up_or (k.c15_14 h), fun h => up_or (k.c17_16 h), fun h => up_or (k.c17_15 h)⟩⟩
      | 6, _, ho, hL =>
        have ho2 := ho
        simp only [List.getElem?_toArray, List.getElem?_cons_zero, List.getElem?_cons_succ, Option.some.injEq] at ho
        subst ho
        refine wpOp_step ho2 (fun K hK => ?_)
        go_simp
        exact hK _ _ ⟨_, _, _, _, _, _, _, _, _, _, _, _, _, _, _, _, _, rfl, ⟨k.wf, k.f0, k.f1, k.f2, k.f3, k.f4, k.f5, fun _ => rfl, k.f7, k.f8, k.f9, k.f10, k.f11, k.f12, k.f13, k.f14, k.f15, k.f16, k.f17, fun h => up_or (k.c1_0 h), fun h => up_or (k.c2_1 h), fun h => up_or (k.c4_3 h), fun h => up_or (k.c5_4 h), fun h => up_or (k.c7_6 h), fun h => up_or (k.c8_7 h), fun h => up_or (k.c10_9 h), fun h => up_or (k.c11_10 h), fun h => up_or (k.c12_5 h), fun h => up_or (k.c12_8 h), fun h => up_or (k.c12_11 h), fun h => up_or (k.c14_13 h), fun h => up_or (k.c15_2 h), fun h => up_or (k.c15_12 h), fun h => up_or (k.c15_14 h), fun h => up_or (k.c17_16 h), fun h => up_or (k.c17_15 h)⟩⟩
      | 7, _, ho, hL =>
        have ho2 := ho
        simp only [List.getElem?_toArray, List.getElem?_cons_zero, List.getElem?_cons_succ, Option.some.injEq] at ho
        subst ho
        refine wpOp_step ho2 (fun K hK => ?_)
        obtain rfl := k.f6 (hd ⟨6, .data⟩ (by simp) rfl)
        go_simp
        exact hK _ _ ⟨_, _, _, _, _, _, _, _, _, _, _, _, _, _, _, _, _, rfl, ⟨k.wf, k.f0, k.f1, k.f2, k.f3, k.f4, k.f5, k.f6, fun _ => rfl, k.f8, k.f9, k.f10, k.f11, k.f12, k.f13, k.f14, k.f15, k.f16, k.f17, fun h => up_or (k.c1_0 h), fun h => up_or (k.c2_1 h), fun h => up_or (k.c4_3 h), fun h => up_or (k.c5_4 h), fun _ => up_or (hd ⟨6, .data⟩ (by simp) rfl), fun h => up_or (k.c8_7 h), fun h => up_or (k.c10_9 h), fun h => up_or (k.c11_10 h), fun h => up_or (k.c12_5 h), fun h => up_or (k.c12_8 h), fun h => up_or (k.c12_11 h), fun h => up_or (k.c14_13 h), fun h => up_or (k.c15_2 h), fun h => up_or (k.c15_12 h), fun h => up_or (k.c15_14 h), fun h => up_or (k.c17_16 h), fun h => up_or (k.c17_15 h)⟩⟩
      | 8, _, ho, hL =>
        have ho2 := ho
        simp only [List.getElem?_toArray, List.getElem?_cons_zero, List.getElem?_cons_succ, Option.some.injEq] at ho
        subst ho
        refine wpOp_step ho2 (fun K hK => ?_)
        obtain rfl := k.f7 (hd ⟨7, .data⟩ (by simp) rfl)
        obtain ⟨xx0, xx1, xx2, xx3, gw⟩ := HXA.out w k.wf.2.2
        go_simp
        exact hK _ _ ⟨_, _, _, _, _, _, _, _, _, _, _, _, _, _, _, _, _, rfl, ⟨k.wf, k.f0, k.f1, k.f2, k.f3, k.f4, k.f5, k.f6, k.f7, fun _ => rfl, k.f9, k.f10, k.f11, k.f12, k.f13, k.f14, k.f15, k.f16, k.f17, fun h => up_or (k.c1_0 h), fun h => up_or (k.c2_1 h), fun h => up_or (k.c4_3 h), fun h => up_or (k.c5_4 h), fun h => up_or (k.c7_6 h), fun _ => up_or (hd ⟨7, .data⟩ (by simp) rfl), fun h => up_or (k.c10_9 h), fun h => up_or (k.c11_10 h), fun h => up_or (k.c12_5 h), fun h => up_or (k.c12_8 h), fun h => up_or (k.c12_11 h), fun h => up_or (k.c14_13 h), fun h => up_or (k.c15_2 h), fun h => up_or (k.c15_12 h), fun h => up_or (k.c15_14 h), fun h => up_or (k.c17_16 h), fun h => up_or (k.c17_15 h)⟩⟩
      | 9, _, ho, hL =>
        have ho2 := ho
        simp only [List.getElem?_toArray, List.getElem?_cons_zero, List.getElem?_cons_succ, Option.some.injEq] at ho
        subst ho
        refine wpOp_step ho2 (fun K hK => ?_)
        go_simp
        exact hK _ _ ⟨_, _, _, _, _, _, _, _, _, _, _, _, _, _, _, _, _, rfl, ⟨k.wf, k.f0, k.f1, k.f2, k.f3, k.f4, k.f5, k.f6, k.f7, k.f8, fun _ => rfl, k.f10, k.f11, k.f12, k.f13, k.f14, k.f15, k.f16, k.f17, fun h => up_or (k.c1_0 h), fun h => up_or (k.c2_1 h), fun h => up_or (k.c4_3 h), fun h => up_or (k.c5_4 h), fun h => up_or (k.c7_6 h), fun h => up_or (k.c8_7 h), fun h => up_or (k.c10_9 h), fun h => up_or (k.c11_10 h), fun h => up_or (k.c12_5 h), fun h => up_or (k.c12_8 h), fun h => up_or (k.c12_11 h), fun h => up_or (k.c14_13 h), fun h => up_or (k.c15_2 h), fun h => up_or (k.c15_12 h), fun h => up_or (k.c15_14 h), fun h => up_or (k.c17_16 h), fun h => up_or (k.c17_15 h)⟩⟩
      | 10, _, ho, hL =>
        have ho2 := ho
        simp only [List.getElem?_toArray, List.getElem?_cons_zero, List.getElem?_cons_succ, Option.some.injEq] at ho
        subst ho
        refine wpOp_step ho2 (fun K hK => ?_)
        obtain rfl := k.f9 (hd ⟨9, .data⟩ (by simp) rfl)
        go_simp
        exact hK _ _ ⟨_, _, _, _, _, _, _, _, _, _, _, _, _, _, _, _, _, rfl, ⟨k.wf, k.f0, k.f1, k.f2, k.f3, k.f4, k.f5, k.f6, k.f7, k.f8, k.f9, fun _ => rfl, k.f11, k.f12, k.f13, k.f14, k.f15, k.f16, k.f17, fun h => up_or (k.c1_0 h), fun h => up_or (k.c2_1 h), fun h => up_or (k.c4_3 h), fun h => up_or (k.c5_4 h), fun h => up_or (k.c7_6 h), fun h => up_or (k.c8_7 h), fun _ => up_or (hd ⟨9, .data⟩ (by simp) rfl), fun h => up_or (k.c11_10 h), fun h => up_or (k.c12_5 h), fun h => up_or (k.c12_8 h), fun h => up_or (k.c12_11 h), fun h => up_or (k.c14_13 h), fun h => up_or (k.c15_2 h), fun h => up_or (k.c15_12 h), fun h => up_or (k.c15_14 h), fun h => up_or (k.c17_16 h), fun h => up_or (k.c17_15 h)⟩⟩
      | 11, _, ho, hL =>
        have ho2 := ho
        simp only [List.getElem?_toArray, List.getElem?_cons_zero, List.getElem?_cons_succ, Option.some.injEq] at ho
        subst ho
        refine wpOp_step ho2 (fun K hK => ?_)
        obtain rfl := k.f10 (hd ⟨10, .data⟩ (by simp) rfl)
        obtain ⟨xx0, xx1, xx2, xx3, gw⟩ := HXA.out w k.wf.2.2
        go_simp
        exact hK _ _ ⟨_, _, _, _, _, _, _, _, _, _, _, _, _, _, _, _, _, rfl, ⟨k.wf, k.f0, k.f1, k.f2, k.f3, k.f4, k.f5, k.f6, k.f7, k.f8, k.f9, k.f10, fun _ => rfl, k.f12, k.f13, k.f14, k.f15, k.f16, k.f17, fun h => up_or (k.c1_0 h), fun h => up_or (k.c2_1 h), fun h => up_or (k.c4_3 h), fun h => up_or (k.c5_4 h), fun h => up_or (k.c7_6 h), fun h => up_or (k.c8_7 h), fun h => up_or (k.c10_9 h), fun _ => up_or (hd ⟨10, .data⟩ (by simp) rfl), fun h => up_or (k.c12_5 h), fun h => up_or (k.c12_8 h), fun h => up_or (k.c12_11 h), fun h => up_or (k.c14_13 h), fun h => up_or (k.c15_2 h), fun h => up_or (k.c15_12 h), fun h => up_or (k.c15_14 h), fun h => up_or (k.c17_16 h), fun h => up_or (k.c17_15 h)⟩⟩
      | 12, _, ho, hL =>
        have ho2 := ho
        simp only [List.getElem?_toArray, List.getElem?_cons_zero, List.getElem?_cons_succ, Option.some.injEq] at ho
        subst ho
        refine wpOp_step ho2 (fun K hK => ?_)
        obtain rfl := k.f5 (hd ⟨5, .data⟩ (by simp) rfl)
        obtain rfl := k.f8 (hd ⟨8, .data⟩ (by simp) rfl)
        obtain rfl := k.f11 (hd ⟨11, .data⟩ (by simp) rfl)
        go_simp
        exact hK _ _ ⟨_, _, _, _, _, _, _, _, _, _, _, _, _, _, _, _, _, rfl, ⟨k.wf, k.f0, k.f1, k.f2, k.f3, k.f4, k.f5, k.f6, k.f7, k.f8, k.f9, k.f10, k.f11, fun _ => rfl, k.f13, k.f14, k.f15, k.f16, k.f17, fun h => up_or (k.c1_0 h), fun h => up_or (k.c2_1 h), fun h => up_or (k.c4_3 h), fun h => up_or (k.c5_4 h), fun h => up_or (k.c7_6 h), fun h => up_or (k.c8_7 h), fun h => up_or (k.c10_9 h), fun h => up_or (k.c11_10 h), fun _ => up_or (hd ⟨5, .data⟩ (by simp) rfl), fun _ => up_or (hd ⟨8, .data⟩ (by simp) rfl), fun _ => up_or (hd ⟨11, .data⟩ (by simp) rfl), fun h => up_or (k.c14_13 h), fun h => up_or (k.c15_2 h), fun h => up_or (k.c15_12 h), fun h => up_or (k.c15_14 h), fun h => up_or (k.c17_16 h), fun h => up_or (k.c17_15 h)⟩⟩
      | 13, _, ho, hL =>
        have ho2 := ho
        simp only [List.getElem?_toArray, List.getElem?_cons_zero, List.getElem?_cons_succ, Option.some.injEq] at ho
        subst ho
        refine wpOp_step ho2 (fun K hK => ?_)
        go_simp
        exact hK _ _ ⟨_, _, _, _, _, _, _, _, _, _, _, _, _, _, _, _, _, rfl, ⟨k.wf, k.f0, k.f1, k.f2, k.f3, k.f4, k.f5, k.f6, k.f7, k.f8, k.f9, k.f10, k.f11, k.f12, fun _ => rfl, k.f14, k.f15, k.f16, k.f17, fun h => up_or (k.c1_0 h), fun h => up_or (k.c2_1 h), fun h => up_or (k.c4_3 h), fun h => up_or (k.c5_4 h), fun h => up_or (k.c7_6 h), fun h => up_or (k.c8_7 h), fun h => up_or (k.c10_9 h), fun h => up_or (k.c11_10 h), fun h => up_or (k.c12_5 h), fun h => up_or (k.c12_8 h), fun h => up_or (k.c12_11 h), fun h => up_or (k.c14_13 h), fun h => up_or (k.c15_2 h), fun h => up_or (k.c15_12 h), fun h => up_or (k.c15_14 h), fun h => up_or (k.c17_16 h), fun h => up_or (k.c17_15 h)⟩⟩
      | 14, _, ho, hL =>
        have ho2 := ho
        simp only [List.getElem?_toArray, List.getElem?_cons_zero, List.getElem?_cons_succ, Option.some.injEq] at ho
        subst ho
        refine wpOp_step ho2 (fun K hK => ?_)
        obtain rfl := k.f13 (hd ⟨13, .data⟩ (by simp) rfl)
        have h17 : L 17 = false := by
          cases h : L 17 with
          | false => rfl
          | true => exact absurd (hL.symm.trans (k.c15_14 (k.c17_15 h))) (by decide)
        have hS0 := k.wf.1 hL
        have hg0 := k.wf.2.2
        have hcall := HC.out w hS0 (HL3.out.keepG hg0 h8)
        have h15 : L 15 = false := by
          cases h : L 15 with
          | false => rfl
          | true => exact absurd (hL.symm.trans (k.c15_14 h)) (by decide)
        have hp0 : ∀ j, w.heap.size ≤ j → v7 ≠ .pointer (some ⟨j, 0, none⟩) := by
          intro j hj
          cases h16 : L 16 with
          | false => exact k.wf.2.1 h16 j
          | true =>
            obtain ⟨nA, rfl, hbx, -⟩ := k.f16 h16 h17
            intro e
            injection e with e
            injection e with e
            injection e with e
            have := hbx.lt
            omega
        have hf16 : ∀ X, w.grownBy X (some b) → (L 16 = true → L 17 = false → ∃ nA, v7 = .pointer (some ⟨nA, 0, none⟩) ∧ Bx X nA [.slice none 0 0, .slice none 0 0, .int .i64 0, .int .i64 0, .int .i64 0, .int .i64 0, .slice none 0 0] 41 ∧ W3.heap.size ≤ nA) := fun X hX h e => (k.f16 h e).elim fun n h => ⟨n, h.1, h.2.1.grown hX (by have := h.2.2; omega), h.2.2⟩
        go_simp
        refine hcall.mono ?_
        rintro e X hx
        obtain ⟨ao, lo, co, ae, le, ce, rfl, hN, hS, hG⟩ := hx.path
        exact hK _ _ ⟨_, _, _, _, _, _, _, _, _, _, _, _, _, _, _, _, _, rfl, ⟨⟨nofun, k.wf.2.1, grown_trans hg0 hG⟩, k.f0, k.f1, k.f2, k.f3, k.f4, k.f5, k.f6, k.f7, k.f8, k.f9, k.f10, k.f11, k.f12, k.f13, fun _ _ => ⟨hS, ao, lo, co, ae, le, ce, Iv w.heap.size X.heap.size, rfl, fun j hj => ⟨Nat.le_trans hg0.size hj.1, hj.2, hp0 j hj.1⟩, hN⟩, fun h => absurd (h15.symm.trans h) (by decide), hf16 X hG, fun h => absurd (h17.symm.trans h) (by decide), fun h => up_or (k.c1_0 h), fun h => up_or (k.c2_1 h), fun h => up_or (k.c4_3 h), fun h => up_or (k.c5_4 h), fun h => up_or (k.c7_6 h), fun h => up_or (k.c8_7 h), fun h => up_or (k.c10_9 h), fun h => up_or (k.c11_10 h), fun h => up_or (k.c12_5 h), fun h => up_or (k.c12_8 h), fun h => up_or (k.c12_11 h), fun _ => up_or (hd ⟨13, .data⟩ (by simp) rfl), fun h => up_or (k.c15_2 h), fun h => up_or (k.c15_12 h), fun h => up_or (k.c15_14 h), fun h => up_or (k.c17_16 h), fun h => up_or (k.c17_15 h)⟩⟩
      | 15, _, ho, hL =>
        have ho2 := ho
        simp only [List.getElem?_toArray, List.getElem?_cons_zero, List.getElem?_cons_succ, Option.some.injEq] at ho
        subst ho
        refine wpOp_step ho2 (fun K hK => ?_)
        obtain rfl := k.f2 (hd ⟨2, .data⟩ (by simp) rfl)
        obtain rfl := k.f12 (hd ⟨12, .data⟩ (by simp) rfl)
        have h17 : L 17 = false := by
          cases h : L 17 with
          | false => rfl
          | true => exact absurd (hL.symm.trans (k.c17_15 h)) (by decide)
        obtain ⟨hS, ao, lo, co, ae, le, ce, S, rfl, hS1, hS2⟩ := k.f14 (hd ⟨14, .data⟩ (by simp) rfl) h17
        go_simp
        exact hK _ _ ⟨_, _, _, _, _, _, _, _, _, _, _, _, _, _, _, _, _, rfl, ⟨k.wf, k.f0, k.f1, k.f2, k.f3, k.f4, k.f5, k.f6, k.f7, k.f8, k.f9, k.f10, k.f11, k.f12, k.f13, fun _ _ => ⟨hS, ao, lo, co, ae, le, ce, S, rfl, hS1, hS2⟩, fun _ _ => ⟨ao, lo, co, ae, le, ce, S, rfl, hS1, hS2⟩, k.f16, k.f17, fun h => up_or (k.c1_0 h), fun h => up_or (k.c2_1 h), fun h => up_or (k.c4_3 h), fun h => up_or (k.c5_4 h), fun h => up_or (k.c7_6 h), fun h => up_or (k.c8_7 h), fun h => up_or (k.c10_9 h), fun h => up_or (k.c11_10 h), fun h => up_or (k.c12_5 h), fun h => up_or (k.c12_8 h), fun h => up_or (k.c12_11 h), fun h => up_or (k.c14_13 h), fun _ => up_or (hd ⟨2, .data⟩ (by simp) rfl), fun _ => up_or (hd ⟨12, .data⟩ (by simp) rfl), fun _ => up_or (hd ⟨14, .data⟩ (by simp) rfl), fun h => up_or (k.c17_16 h), fun h => up_or (k.c17_15 h)⟩⟩
      | 16, _, ho, hL =>
        have ho2 := ho
        simp only [List.getElem?_toArray, List.getElem?_cons_zero, List.getElem?_cons_succ, Option.some.injEq] at ho
        subst ho
        refine wpOp_step ho2 (fun K hK => ?_)
        have h17 : L 17 = false := by
          cases h : L 17 with
          | false => rfl
          | true => exact absurd (hL.symm.trans (k.c17_16 h)) (by decide)
        have hb : Below w.heap.size w (w.alloc (.cells #[.slice none 0 0, .slice none 0 0, .int .i64 0, .int .i64 0, .int .i64 0, .int .i64 0, .slice none 0 0] 41)) := (Below.refl _ _).alloc (Nat.le_refl _) _
        have hbx := Bx.new w [.slice none 0 0, .slice none 0 0, .int .i64 0, .int .i64 0, .int .i64 0, .int .i64 0, .slice none 0 0] 41
        have hsw := k.wf.2.2.size
        go_simp
        have k0 := k
        replace k := k.keep h17 hb
        have hne : ∀ j, j < w.heap.size → (.pointer (some ⟨w.heap.size, 0, none⟩) : Value) ≠ .pointer (some ⟨j, 0, none⟩) := fun j hj e => by injection e with e; injection e with e; injection e with e; omega
        exact hK _ _ ⟨_, _, _, _, _, _, _, _, _, _, _, _, _, _, _, _, _, rfl, ⟨⟨k.wf.1, nofun, k.wf.2.2⟩, k.f0, k.f1, k.f2, k.f3, k.f4, k.f5, k.f6, k.f7, k.f8, k.f9, k.f10, k.f11, k.f12, k.f13, fun h e => ⟨(k0.f14 h e).1.keep hb, (k0.f14 h e).2.elim fun a h => h.elim fun b' h => h.elim fun c h => h.elim fun d h => h.elim fun e' h => h.elim fun f' h => h.elim fun S h => ⟨a, b', c, d, e', f', S, h.1, fun j hj => ⟨(h.2.1 j hj).1, Nat.lt_of_lt_of_le (h.2.1 j hj).2.1 hb.size, hne j (h.2.1 j hj).2.1⟩, Fp.keep h.2.2 fun i hi => hb.block i (h.2.1 i hi).2.1⟩⟩, fun h e => (k0.f15 h e).elim fun a h => h.elim fun b' h => h.elim fun c h => h.elim fun d h => h.elim fun e' h => h.elim fun f' h => h.elim fun S h => ⟨a, b', c, d, e', f', S, h.1, fun j hj => ⟨(h.2.1 j hj).1, Nat.lt_of_lt_of_le (h.2.1 j hj).2.1 hb.size, hne j (h.2.1 j hj).2.1⟩, Fp.keep h.2.2 fun i hi => hb.block i (h.2.1 i hi).2.1⟩, fun _ _ => ⟨w.heap.size, rfl, hbx, hsw⟩, fun h => absurd (h17.symm.trans h) (by decide), fun h => up_or (k.c1_0 h), fun h => up_or (k.c2_1 h), fun h => up_or (k.c4_3 h), fun h => up_or (k.c5_4 h), fun h => up_or (k.c7_6 h), fun h => up_or (k.c8_7 h), fun h => up_or (k.c10_9 h), fun h => up_or (k.c11_10 h), fun h => up_or (k.c12_5 h), fun h => up_or (k.c12_8 h), fun h => up_or (k.c12_11 h), fun h => up_or (k.c14_13 h), fun h => up_or (k.c15_2 h), fun h => up_or (k.c15_12 h), fun h => up_or (k.c15_14 h), fun h => up_or (k.c17_16 h), fun h => up_or (k.c17_15 h)⟩⟩
      | 17, _, ho, hL =>
        have ho2 := ho
        simp only [List.getElem?_toArray, List.getElem?_cons_zero, List.getElem?_cons_succ, Option.some.injEq] at ho
        subst ho
        refine wpOp_step ho2 (fun K hK => ?_)
        obtain ⟨ao, lo, co, ae, le, ce, S, rfl, hS1, hS2⟩ := k.f15 (hd ⟨15, .data⟩ (by simp) rfl) hL
        obtain ⟨nA, rfl, hbx, hnA⟩ := k.f16 (hd ⟨16, .data⟩ (by simp) rfl) hL
        have hS := (k.f14 (k.c15_14 (hd ⟨15, .data⟩ (by simp) rfl)) hL).1
        have l14 := k.c15_14 (hd ⟨15, .data⟩ (by simp) rfl)
        have l16 := hd ⟨16, .data⟩ (by simp) rfl
        have bl := hbx.lt
        obtain ⟨y0, z0, y1, z1, y2, z2, y3, z3, y4, z4, y5, z5, y6, z6⟩ := facts7 hbx (.slice ao lo co) (.slice ae le ce) (.int .i64 nx) (.int .i64 ny) (.int .i64 nz) (.int .i64 ng)
        have hst := st7 hbx (.slice ao lo co) (.slice ae le ce) (.int .i64 nx) (.int .i64 ny) (.int .i64 nz) (.int .i64 ng) (.slice none 0 0)
        have hwb : Below W3.heap.size w (set7 w nA (.slice ao lo co) (.slice ae le ce) (.int .i64 nx) (.int .i64 ny) (.int .i64 nz) (.int .i64 ng) (.slice none 0 0)) := set7_below w nA W3.heap.size hnA _ _ _ _ _ _ _
        have hgr : W3.grownBy (set7 w nA (.slice ao lo co) (.slice ae le ce) (.int .i64 nx) (.int .i64 ny) (.int .i64 nz) (.int .i64 ng) (.slice none 0 0)) (some b) := grown_low2 k.wf.2.2 hwb (Nat.le_refl _)
        have hS3 : RfS (set7 w nA (.slice ao lo co) (.slice ae le ce) (.int .i64 nx) (.int .i64 ny) (.int .i64 nz) (.int .i64 ng) (.slice none 0 0)) b gL Ln (qOf o5) o5.isNone := hS.low hwb hb3 hg3
        have hszz := set7_size w nA (.slice ao lo co) (.slice ae le ce) (.int .i64 nx) (.int .i64 ny) (.int .i64 nz) (.int .i64 ng) (.slice none 0 0)
        have hblk := set7_blk w nA (.slice ao lo co) (.slice ae le ce) (.int .i64 nx) (.int .i64 ny) (.int .i64 nz) (.int .i64 ng) (.slice none 0 0)
        have hSn : ∀ j, S j → j ≠ nA := fun j hj e => (hS1 j hj).2.2 (by rw [e])
        have hS4 : ∀ j, S j → W3.heap.size ≤ j ∧ j < (set7 w nA (.slice ao lo co) (.slice ae le ce) (.int .i64 nx) (.int .i64 ny) (.int .i64 nz) (.int .i64 ng) (.slice none 0 0)).heap.size ∧ j ≠ nA := fun j hj => ⟨(hS1 j hj).1, by rw [hszz]; exact (hS1 j hj).2.1, hSn j hj⟩
        have hS5 := Fp.keep hS2 (W1 := set7 w nA (.slice ao lo co) (.slice ae le ce) (.int .i64 nx) (.int .i64 ny) (.int .i64 nz) (.int .i64 ng) (.slice none 0 0)) fun j hj => hblk j (hSn j hj)
        clear hS1 hS2 hS hwb hszz hblk hSn
        unfold set7 at hst hgr hS3 hS4 hS5
        go_simp
        exact hK _ _ ⟨_, _, _, _, _, _, _, _, _, _, _, _, _, _, _, _, _, rfl, ⟨⟨fun h => absurd ((show L 14 = false from h).symm.trans l14) (by decide), fun h => absurd ((show L 16 = false from h).symm.trans l16) (by decide), hgr⟩, k.f0, k.f1, k.f2, k.f3, k.f4, k.f5, k.f6, k.f7, k.f8, k.f9, k.f10, k.f11, k.f12, k.f13, fun _ => nofun, fun _ => nofun, fun _ => nofun, fun _ => ⟨nA, ao, lo, co, ae, le, ce, S, rfl, hst, hnA, hS4, hS5, hS3⟩, fun h => up_or (k.c1_0 h), fun h => up_or (k.c2_1 h), fun h => up_or (k.c4_3 h), fun h => up_or (k.c5_4 h), fun h => up_or (k.c7_6 h), fun h => up_or (k.c8_7 h), fun h => up_or (k.c10_9 h), fun h => up_or (k.c11_10 h), fun h => up_or (k.c12_5 h), fun h => up_or (k.c12_8 h), fun h => up_or (k.c12_11 h), fun h => up_or (k.c14_13 h), fun h => up_or (k.c15_2 h), fun h => up_or (k.c15_12 h), fun h => up_or (k.c15_14 h), fun _ => up_or (hd ⟨16, .data⟩ (by simp) rfl), fun _ => up_or (hd ⟨15, .data⟩ (by simp) rfl)⟩⟩
      | n + 18, h, _, _ => omega
    · intro L a w hL hJ
      obtain ⟨v7, v21, v22, v23, v24, v25, v26, v27, v28, v29, v30, v31, v32, v33, v34, v35, v36, rfl, k⟩ := hJ
      obtain ⟨n7, ao, lo, co, ae, le, ce, S, rfl, hbx7, hn7, hS4, hS5, hSr⟩ := k.f17 (hL 17 (by decide))
      obtain rfl := k.f0 (hL 0 (by decide))
      obtain rfl := k.f1 (hL 1 (by decide))
      obtain rfl := k.f2 (hL 2 (by decide))
      obtain rfl := k.f3 (hL 3 (by decide))
      obtain rfl := k.f4 (hL 4 (by decide))
      obtain rfl := k.f5 (hL 5 (by decide))
      obtain rfl := k.f6 (hL 6 (by decide))
      obtain rfl := k.f7 (hL 7 (by decide))
      obtain rfl := k.f8 (hL 8 (by decide))
      obtain rfl := k.f9 (hL 9 (by decide))
      obtain rfl := k.f10 (hL 10 (by decide))
      obtain rfl := k.f11 (hL 11 (by decide))
      obtain rfl := k.f12 (hL 12 (by decide))
      obtain rfl := k.f13 (hL 13 (by decide))
      have hgw := k.wf.2.2
      dsimp only
      clear k hL
      obtain ⟨W6, rfl⟩ : ∃ X, X = w := ⟨_, rfl⟩
      have hn7b : n7 ≠ b := by omega
      have hn7g : n7 ≠ gL := by omega
      have hlb := HLB.out
      have HX7 := Lib.hid hbx7
      have HG6 : Hid (W2.grownBy W6 (some b)) := Lib.hid (grown_trans HG3.out hgw)
      have HL6 := Lib.hid (HL3.out.keepG hgw h8)
      have HX26 := Lib.hid (HX23.out.grown hgw (by omega))
      have HSR := Lib.hid hSr
      have HSS := Lib.hid (And.intro hS4 hS5)
      have HZ6 : Hid (W3.heap.size ≤ W6.heap.size ∧ W2.heap.size ≤ W3.heap.size ∧ n7 < W6.heap.size ∧ W3.heap.size ≤ n7 ∧ n2 < W2.heap.size) := Lib.hid ⟨hgw.size, HG3.out.size, hbx7.lt, hn7, by have h1 := HB2.out.size; have h2 := HX23.out.lt; omega⟩
      have HGD5 := Lib.hid (traj_res5 HO4.out HNS.out HO5.out).1
      have HBD5 := Lib.hid (traj_res5 HO4.out HNS.out HO5.out).2
      have HLE : Hid (∀ pd q, o5 = some (pd, q) → pd.edges.length = le ∧ le ≤ 1048576) := Lib.hid (fun pd q e => by
        obtain ⟨op', np', oe', ne', e1, -, -⟩ := (hS5.now) pd q e
        injection e1 with e1
        have e2 := congrArg (fun x => x[1]?) e1
        simp at e2
        have h := (rdPath_sizes (HO5.out.trans e)).2
        exact ⟨e2.2.1.symm, by rw [e2.2.1]; exact h⟩)
      clear hbx7 hgw hSr hS4 hS5 hn7 HX23 HL3 HS3 HC HXA HO4 HNS HO5
      go_upto_block 0 with fail
      go_cut [] (fun X => ∃ (fs : List Fm.ProfD) (q : List (List UInt8)) (bd : Bool) (v : Value), Bx X n7 [.slice ao lo co, .slice ae le ce, .int .i64 nx, .int .i64 ny, .int .i64 nz, .int .i64 ng, v] 41 ∧ RowO ProfAt 44 2 W6.heap.size X v fs ∧ RfS X b gL Ln q bd ∧ Fr3 W6.heap.size b n7 W6 X ∧ (bd = false → o5.isNone = false ∧ Fm.rep Fm.rdProf le (qOf o5) = some (fs, q)) ∧ (bd = true → Fm.rdTraj Ln = none))
      case first =>
        go_wp2_with fail
        go_loopw [8] (fun i X => ∃ (k : Nat) (fs : List Fm.ProfD) (q : List (List UInt8)) (bd : Bool) (v : Value), k ≤ le ∧ i = .int .i64 (k : Nat) ∧ Bx X n7 [.slice ao lo co, .slice ae le ce, .int .i64 nx, .int .i64 ny, .int .i64 nz, .int .i64 ng, v] 41 ∧ RowO ProfAt 44 2 W6.heap.size X v fs ∧ RfS X b gL Ln q bd ∧ Fr3 W6.heap.size b n7 W6 X ∧ (bd = false → o5.isNone = false ∧ Fm.RepAt Fm.rdProf le (qOf o5) k fs q) ∧ (bd = true → Fm.rdTraj Ln = none)) (fun i _ => le - (intOf i).toNat)
        case atStart => exact ⟨0, [], qOf o5, o5.isNone, .slice none 0 0, Nat.zero_le _, rfl, HX7.out, RowO.nil _ _ _ _ _, HSR.out, Fr3.refl _ _ _ _, fun e => ⟨e, Fm.RepAt.start _ _ _⟩, fun e => HBD5.out (by cases o5 with | none => rfl | some x => cases e)⟩
        case round =>
          obtain ⟨k, fs, q, bd, v, hk, rfl, hX, hRow, hS, hF, hgood, hbad⟩ := hrel
          obtain ⟨W7, rfl⟩ : ∃ X, X = wr := ⟨_, rfl⟩
          have HF := Lib.hid hF
          have HXa := Lib.hid hX
          have HRowa := Lib.hid hRow
          have HSa := Lib.hid hS
          have HGDa := Lib.hid hgood
          have HBDa := Lib.hid hbad
          have hz6 := HZ6.out
          have HLa := Lib.hid (lib_fr3 HL6.out hF (by omega) h8 (by omega))
          obtain ⟨⟨i5, hi5, -, hX95⟩, -⟩ := id hS
          have c2 := hX95.c 2 _ rfl
          have cl := hX95.lt
          have c1 := hX.c 1 _ rfl
          have cl7 := hX.lt
          clear hF hX hRow hS hgood hbad hX95 hz6
          by_cases hlt : k < le
          · have hd : decide ((k : Int) < (le : Int)) = true := decide_eq_true (by omega)
            cases bd with
            | true =>
              go_wp2_with fail
              go_meet
              exact ⟨fs, q, true, v, HXa.out, HRowa.out, HSa.out, HF.out, nofun, fun _ => HBDa.out (by first | rfl | trivial)⟩
            | false =>
              obtain ⟨h5, hR⟩ := HGDa.out (by first | rfl | trivial)
              obtain ⟨pd, q5, ho5⟩ : ∃ pd q5, o5 = some (pd, q5) := by
                cases o5 with
                | none => cases h5
                | some x => exact ⟨x.1, x.2, rfl⟩
              have hle := (HLE.out pd q5 ho5).2
              have HR := Lib.hid hR
              have H5 := Lib.hid h5
              have HO5 := Lib.hid ho5
              clear hR h5 ho5
              have HC := Lib.hid (numbers52 W7 b gL Ln q ⟨#[112, 114, 111, 102, 105, 108, 101]⟩ 2 (by decide) false HSa.out HLa.out)
              rw [gd_f] at HC
              go_wp2_with fail
              clear c1 c2 cl cl7 hd
              refine HC.out.mono ?_
              clear HC
              rintro e W8 h8x
              obtain ⟨v9, rfl, hnl, hni, hN, hS, hG⟩ := h8x.norm
              generalize hO9 : Fm.rdN (⟨#[112, 114, 111, 102, 105, 108, 101]⟩ : ByteArray).data.toList 2 q = o9 at hnl hni hN hS
              have HO9 : Hid (Fm.rdN Fm.kwProfile 2 q = o9) := Lib.hid hO9
              obtain ⟨na, nb, hns⟩ : ∃ a b, nsOf 2 o9 = [a, b] := by
                match hh : nsOf 2 o9, hnl with
                | [a, b], _ => exact ⟨a, b, rfl⟩
              rw [hns] at hN
              have HNS := Lib.hid hns
              obtain ⟨oa9, cap9, rfl, hcap9, hs9⟩ := hN.now
              obtain ⟨g9, off9, rfl, -⟩ := hs9 (by simp [pvals])
              have hbw7 : b < W7.heap.size := HSa.out.lt
              have HXB : Hid (∀ X, W8.grownBy X (some b) → X.cell? ⟨g9, off9, none⟩ = some (.int .i64 na) ∧ X.cell? ⟨g9, off9 + 1, none⟩ = some (.int .i64 nb) ∧ g9 < X.heap.size) := Lib.hid (fun X hX => NumV.two (New.keep hN (grown_ag hX W7.heap.size hbw7)).now)
              have HG8 := Lib.hid hG
              have HS8 := Lib.hid hS
              have HL8 := Lib.hid (HLa.out.keepG hG h8)
              have HX8 := Lib.hid (HXa.out.grown hG hn7b)
              have HB8 : Hid (b < W8.heap.size ∧ gL < W8.heap.size) := Lib.hid ⟨HS8.out.lt, HS8.out.ltg⟩
              clear h8x hO9 hnl hni hns hN hS hG hcap9 hs9
              -- what will be read
              obtain ⟨q9, hq9⟩ : ∃ x, x = qOf o9 := ⟨_, rfl⟩
              obtain ⟨bd9, hbd9⟩ : ∃ x, x = o9.isNone := ⟨_, rfl⟩
              obtain ⟨bd1, hbd1⟩ : ∃ x, x = (bd9 || !Fm.cntOk na) := ⟨_, rfl⟩
              obtain ⟨o8, ho8⟩ : ∃ x, gd bd1 (Fm.rdN Fm.kwLevels (cntN na) q9) = x := ⟨_, rfl⟩
              obtain ⟨q8, hq8⟩ : ∃ x, x = qOf o8 := ⟨_, rfl⟩
              obtain ⟨bd8, hbd8⟩ : ∃ x, x = o8.isNone := ⟨_, rfl⟩
              obtain ⟨bd14, hbd14⟩ : ∃ x, x = (bd8 || !Fm.cntOk nb) := ⟨_, rfl⟩
              obtain ⟨o15, ho15⟩ : ∃ x, gd bd14 (Fm.rdN Fm.kwSteps (cntN nb) q8) = x := ⟨_, rfl⟩
              have HPR := Lib.hid (prof_res HO9.out HNS.out hbd9 hq9 hbd1 ho8 hbd8 hq8 hbd14 ho15)
              rw [← hq9, ← hbd9] at HS8
              have HBD1 := Lib.hid hbd1
              have HO8 := Lib.hid ho8
              have HQ8 := Lib.hid (And.intro hq8 hbd8)
              have HBD14 := Lib.hid hbd14
              have HO15 := Lib.hid ho15
              clear hq9 hbd9 hbd1 ho8 hq8 hbd8 hbd14 ho15
              go_upto_region 10 with fail
              have HRow8 : Hid (RowO ProfAt 44 2 W6.heap.size W8 v fs) := Lib.hid (HRowa.out.keep (grown_ag HG8.out W6.heap.size (by have := HZ6.out; omega)))
              have HLB6 : Hid (b < W6.heap.size ∧ gL < W6.heap.size ∧ n7 < W6.heap.size) := Lib.hid (by have := HZ6.out; omega)
              have HLO : Hid (W6.heap.size ≤ W8.heap.size) := Lib.hid (Nat.le_trans HF.out.size HG8.out.size)
              have hfl : fs.length = k := HR.out.2.1
              have HXL : Hid (∀ rows : List (List Value), rows.length = fs.length → rows.length + 1 ≤ 1048576) := Lib.hid (fun rows h => by omega)
              clear hfl
              refine wp_region_inv (by kernel_rfl) (by kernel_rfl) (fun L a w => ∃ v54 v55 v56 v57 v58 v59 v60 v61 v62 v63 v64 v65 v66 v67 v68 v69 v70 v71 v72 v73 v74 : Value, a = { tmps := #[(Value.string s), undef, (Value.pointer (some ⟨n2, 0, none⟩)), (Value.int IntKind.i64 0), (Value.pointer (some ⟨b, 0, none⟩)), (Value.int IntKind.i64 0), (Value.slice (some ⟨g, off, none⟩) 4 cap), (Value.pointer (some ⟨n7, 0, none⟩)), (Value.int IntKind.i64 ((k : Nat) : Int)), (Value.slice (some ⟨g9, off9, none⟩) 2 cap9), (Value.tuple #[Value.pointer (some ⟨b, 0, none⟩), Value.int IntKind.i64 0]), (Value.string s), (Value.tuple #[Value.pointer (some ⟨b, 0, none⟩), Value.int IntKind.i64 0]), (Value.pointer (some ⟨b, 0, none⟩)), (Value.int IntKind.i64 0), (Value.int IntKind.i64 0), (Value.bool false), undef, undef, (Value.pointer (some ⟨b, 0, none⟩)), (Value.slice (some ⟨g, off, none⟩) 4 cap), (Value.slice (some ⟨g, off, none⟩) 4 cap), (Value.pointer (some ⟨g, off, none⟩)), (Value.int IntKind.i64 ng), (Value.slice (some ⟨g, off, none⟩) 4 cap), (Value.pointer (some ⟨g, off + 1, none⟩)), (Value.int IntKind.i64 nx), (Value.slice (some ⟨g, off, none⟩) 4 cap), (Value.pointer (some ⟨g, off + 2, none⟩)), (Value.int IntKind.i64 ny), (Value.slice (some ⟨g, off, none⟩) 4 cap), (Value.pointer (some ⟨g, off + 3, none⟩)), (Value.int IntKind.i64 nz), (Value.agg #[Value.int IntKind.i64 nx, Value.int IntKind.i64 ny, Value.int IntKind.i64 nz]), (Value.pointer (some ⟨b, 0, none⟩)), v35, v36, (Value.int IntKind.i64 ((k : Nat) : Int)), (Value.pointer (some ⟨n7, 0, none⟩)), (Value.pointer (some ⟨n7, 1, none⟩)), (Value.slice ae le ce), (Value.int IntKind.i64 ((le : Nat) : Int)), (Value.bool true), (Value.bool true), (Value.pointer (some ⟨b, 0, none⟩)), (Value.pointer (some ⟨b, 0, none⟩)), (Value.pointer (some ⟨b, 2, none⟩)), (Value.bool false), (Value.bool true), (Value.bool true), u50, u51, (Value.pointer (some ⟨b, 0, none⟩)), (Value.slice (some ⟨g9, off9, none⟩) 2 cap9), v54, v55, v56, v57, v58, v59, v60, v61, v62, v63, v64, v65, v66, v67, v68, v69, v70, v71, v72, v73, v74, undef, undef, undef, undef, undef, undef, undef, undef, undef, undef, undef], defers := [] } ∧ Rt10K b gL n7 g9 off9 cap9 W6.heap.size na nb Ln q9 q8 (qOf o15) bd9 bd1 bd8 bd14 o15.isNone (nsOf (cntN na) o8) (nsOf (cntN nb) o15) v (.slice ao lo co) (.slice ae le ce) (.int .i64 nx) (.int .i64 ny) (.int .i64 nz) (.int .i64 ng) fs W8 L v54 v55 v56 v57 v58 v59 v60 v61 v62 v63 v64 v65 v66 v67 v68 v69 v70 v71 v72 v73 v74 w) ?_ ?_ ?_
              · exact ⟨_, _, _, _, _, _, _, _, _, _, _, _, _, _, _, _, _, _, _, _, _, rfl, ⟨⟨fun _ => HS8.out.keep (below_drew W8 1), fun _ => grown_of_below (below_drew W8 1)⟩, nofun, nofun, nofun, nofun, nofun, nofun, nofun, nofun, nofun, nofun, nofun, nofun, nofun, nofun, nofun, nofun, nofun, nofun, nofun, nofun, nofun, nofun, nofun, nofun, nofun, nofun, nofun, nofun, nofun, nofun, nofun, nofun, nofun, nofun, nofun, nofun, nofun, nofun, nofun, nofun, nofun, nofun, nofun, nofun⟩⟩
              · intro iq oq ho L a w hL hd hJ
                obtain ⟨v54, v55, v56, v57, v58, v59, v60, v61, v62, v63, v64, v65, v66, v67, v68, v69, v70, v71, v72, v73, v74, rfl, k⟩ := hJ
                have hiq : iq < 22 := by have := (Array.getElem?_eq_some_iff.1 ho).1; simpa using this
                match iq, hiq, ho, hL with
                | 0, _, ho, hL =>
                  have ho2 := ho
                  simp only [List.getElem?_toArray, List.getElem?_cons_zero, List.getElem?_cons_succ, Option.some.injEq] at ho
                  subst ho
                  refine wpOp_step ho2 (fun K hK => ?_)
                  go_simp
                  exact hK _ _ ⟨_, _, _, _, _, _, _, _, _, _, _, _, _, _, _, _, _, _, _, _, _, rfl, ⟨k.wf, fun _ => rfl, k.f1, k.f2, k.f3, k.f4, k.f5, k.f6, k.f7, k.f8, k.f9, k.f10, k.f11, k.f12, k.f13, k.f14, k.f15, k.f16, k.f17, k.f18, k.f19, k.f20, k.f21, fun h => up_or (k.c1_0 h), fun h => up_or (k.c5_4 h), fun h => up_or (k.c6_5 h), fun h => up_or (k.c7_3 h), fun h => up_or (k.c7_6 h), fun h => up_or (k.c8_2 h), fun h => up_or (k.c8_7 h), fun h => up_or (k.c12_11 h), fun h => up_or (k.c13_12 h), fun h => up_or (k.c14_10 h), fun h => up_or (k.c14_13 h), fun h => up_or (k.c14_8 h), fun h => up_or (k.c15_9 h), fun h => up_or (k.c15_14 h), fun h => up_or (k.c16_15 h), fun h => up_or (k.c17_8 h), fun h => up_or (k.c17_16 h), fun h => up_or (k.c18_17 h), fun h => up_or (k.c19_1 h), fun h => up_or (k.c19_18 h), fun h => up_or (k.c21_20 h), fun h => up_or (k.c21_19 h)⟩⟩
                | 1, _, ho, hL =>
                  have ho2 := ho
                  simp only [List.getElem?_toArray, List.getElem?_cons_zero, List.getElem?_cons_succ, Option.some.injEq] at ho
                  subst ho
                  refine wpOp_step ho2 (fun K hK => ?_)
                  obtain rfl := k.f0 (hd ⟨0, .data⟩ (by simp) rfl)
                  have e19 : L 19 = false := by
                    cases h : L 19 with
                    | false => rfl
                    | true => exact absurd (hL.symm.trans (k.c19_1 h)) (by decide)
                  have hbx := HX8.out.grown (k.wf.2 e19) hn7b
                  have c1 := hbx.c 6 _ rfl
                  have cl := hbx.lt
                  go_simp
                  exact hK _ _ ⟨_, _, _, _, _, _, _, _, _, _, _, _, _, _, _, _, _, _, _, _, _, rfl, ⟨k.wf, k.f0, fun _ => rfl, k.f2, k.f3, k.f4, k.f5, k.f6, k.f7, k.f8, k.f9, k.f10, k.f11, k.f12, k.f13, k.f14, k.f15, k.f16, k.f17, k.f18, k.f19, k.f20, k.f21, fun _ => up_or (hd ⟨0, .data⟩ (by simp) rfl), fun h => up_or (k.c5_4 h), fun h => up_or (k.c6_5 h), fun h => up_or (k.c7_3 h), fun h => up_or (k.c7_6 h), fun h => up_or (k.c8_2 h), fun h => up_or (k.c8_7 h), fun h => up_or (k.c12_11 h), fun h => up_or (k.c13_12 h), fun h => up_or (k.c14_10 h), fun h => up_or (k.c14_13 h), fun h => up_or (k.c14_8 h), fun h => up_or (k.c15_9 h), fun h => up_or (k.c15_14 h), fun h => up_or (k.c16_15 h), fun h => up_or (k.c17_8 h), fun h => up_or (k.c17_16 h), fun h => up_or (k.c18_17 h), fun h => up_or (k.c19_1 h), fun h => up_or (k.c19_18 h), fun h => up_or (k.c21_20 h), fun h => up_or (k.c21_19 h)⟩⟩
                | 2, _, ho, hL =>
                  have ho2 := ho
                  simp only [List.getElem?_toArray, List.getElem?_cons_zero, List.getElem?_cons_succ, Option.some.injEq] at ho
                  subst ho
                  refine wpOp_step ho2 (fun K hK => ?_)
                  go_simp
                  exact hK _ _ ⟨_, _, _, _, _, _, _, _, _, _, _, _, _, _, _, _, _, _, _, _, _, rfl, ⟨k.wf, k.f0, k.f1, fun _ => rfl, k.f3, k.f4, k.f5, k.f6, k.f7, k.f8, k.f9, k.f10, k.f11, k.f12, k.f13, k.f14, k.f15, k.f16, k.f17, k.f18, k.f19, k.f20, k.f21, fun h => up_or (k.c1_0 h), fun h => up_or (k.c5_4 h), fun h => up_or (k.c6_5 h), fun h => up_or (k.c7_3 h), fun h => up_or (k.c7_6 h), fun h => up_or (k.c8_2 h), fun h => up_or (k.c8_7 h), fun h => up_or (k.c12_11 h), fun h => up_or (k.c13_12 h), fun h => up_or (k.c14_10 h), fun h => up_or (k.c14_13 h), fun h => up_or (k.c14_8 h), fun h => up_or (k.c15_9 h), fun h => up_or (k.c15_14 h), fun h => up_or (k.c16_15 h), fun h => up_or (k.c17_8 h), fun h => up_or (k.c17_16 h), fun h => up_or (k.c18_17 h), fun h => up_or (k.c19_1 h), fun h => up_or (k.c19_18 h), fun h => up_or (k.c21_20 h), fun h => up_or (k.c21_19 h)⟩⟩
                | 3, _, ho, hL =>
                  have ho2 := ho
                  simp only [List.getElem?_toArray, List.getElem?_cons_zero, List.getElem?_cons_succ, Option.some.injEq] at ho
                  subst ho
                  refine wpOp_step ho2 (fun K hK => ?_)
                  go_simp
                  exact hK _ _ ⟨_, _, _, _, _, _, _, _, _, _, _, _, _, _, _, _, _, _, _, _, _, rfl, ⟨k.wf, k.f0, k.f1, k.f2, fun _ => rfl, k.f4, k.f5, k.f6, k.f7, k.f8, k.f9, k.f10, k.f11, k.f12, k.f13, k.f14, k.f15, k.f16, k.f17, k.f18, k.f19, k.f20, k.f21, fun h => up_or (k.c1_0 h), fun h => up_or (k.c5_4 h), fun h => up_or (k.c6_5 h), fun h => up_or (k.c7_3 h), fun h => up_or (k.c7_6 h), fun h => up_or (k.c8_2 h), fun h => up_or (k.c8_7 h), fun h => up_or (k.c12_11 h), fun h => up_or (k.c13_12 h), fun h => up_or (k.c14_10 h), fun h => up_or (k.c14_13 h), fun h => up_or (k.c14_8 h), fun h => up_or (k.c15_9 h), fun h => up_or (k.c15_14 h), fun h => up_or (k.c16_15 h), fun h => up_or (k.c17_8 h), fun h => up_or (k.c17_16 h), fun h => up_or (k.c18_17 h), fun h => up_or (k.c19_1 h), fun h => up_or (k.c19_18 h), fun h => up_or (k.c21_20 h), fun h => up_or (k.c21_19 h)⟩⟩
                | 4, _, ho, hL =>
                  have ho2 := ho
                  simp only [List.getElem?_toArray, List.getElem?_cons_zero, List.getElem?_cons_succ, Option.some.injEq] at ho
                  subst ho
                  refine wpOp_step ho2 (fun K hK => ?_)
                  go_simp
                  exact hK _ _ ⟨_, _, _, _, _, _, _, _, _, _, _, _, _, _, _, _, _, _, _, _, _, rfl, ⟨k.wf, k.f0, k.f1, k.f2, k.f3, fun _ => rfl, k.f5, k.f6, k.f7, k.f8, k.f9, k.f10, k.f11, k.f12, k.f13, k.f14, k.f15, k.f16, k.f17, k.f18, k.f19, k.f20, k.f21, fun h => up_or (k.c1_0 h), fun h => up_or (k.c5_4 h), fun h => up_or (k.c6_5 h), fun h => up_or (k.c7_3 h), fun h => up_or (k.c7_6 h), fun h => up_or (k.c8_2 h), fun h => up_or (k.c8_7 h), fun h => up_or (k.c12_11 h), fun h => up_or (k.c13_12 h), fun h => up_or (k.c14_10 h), fun h => up_or (k.c14_13 h), fun h => up_or (k.c14_8 h), fun h => up_or (k.c15_9 h), fun h => up_or (k.c15_14 h), fun h => up_or (k.c16_15 h), fun h => up_or (k.c17_8 h), fun h => up_or (k.c17_16 h), fun h => up_or (k.c18_17 h), fun h => up_or (k.c19_1 h), fun h => up_or (k.c19_18 h), fun h => up_or (k.c21_20 h), fun h => up_or (k.c21_19 h)⟩⟩
                | 5, _, ho, hL =>
                  have ho2 := ho
                  simp only [List.getElem?_toArray, List.getElem?_cons_zero, List.getElem?_cons_succ, Option.some.injEq] at ho
                  subst ho
                  refine wpOp_step ho2 (fun K hK => ?_)
                  obtain rfl := k.f4 (hd ⟨4, .data⟩ (by simp) rfl)
                  go_simp
                  exact hK _ _ ⟨_, _, _, _, _, _, _, _, _, _, _, _, _, _, _, _, _, _, _, _, _, rfl, ⟨k.wf, k.f0, k.f1, k.f2, k.f3, k.f4, fun _ => rfl, k.f6, k.f7, k.f8, k.f9, k.f10, k.f11, k.f12, k.f13, k.f14, k.f15, k.f16, k.f17, k.f18, k.f19, k.f20, k.f21, fun h => up_or (k.c1_0 h), fun _ => up_or (hd ⟨4, .data⟩ (by simp) rfl), fun h => up_or (k.c6_5 h), fun h => up_or (k.c7_3 h), fun h => up_or (k.c7_6 h), fun h => up_or (k.c8_2 h), fun h => up_or (k.c8_7 h), fun h => up_or (k.c12_11 h), fun h => up_or (k.c13_12 h), fun h => up_or (k.c14_10 h), fun h => up_or (k.c14_13 h), fun h => up_or (k.c14_8 h), fun h => up_or (k.c15_9 h), fun h => up_or (k.c15_14 h), fun h => up_or (k.c16_15 h), fun h => up_or (k.c17_8 h), fun h => up_or (k.c17_16 h), fun h => up_or (k.c18_17 h), fun h => up_or (k.c19_1 h), fun h => up_or (k.c19_18 h), fun h => up_or (k.c21_20 h), fun h => up_or (k.c21_19 h)⟩⟩
                | 6, _, ho, hL =>
                  have ho2 := ho
                  simp only [List.getElem?_toArray, List.getElem?_cons_zero, List.getElem?_cons_succ, Option.some.injEq] at ho
                  subst ho
                  refine wpOp_step ho2 (fun K hK => ?_)
                  obtain rfl := k.f5 (hd ⟨5, .data⟩ (by simp) rfl)
                  have e19 : L 19 = false := by
                    cases h : L 19 with
                    | false => rfl
                    | true => exact absurd (hL.symm.trans (k.c7_6 (k.c8_7 (k.c14_8 (k.c15_14 (k.c16_15 (k.c17_16 (k.c18_17 (k.c19_18 h))))))))) (by decide)
                  obtain ⟨xx0, xx1, gw⟩ := HXB.out w (k.wf.2 e19)
                  go_simp
                  exact hK _ _ ⟨_, _, _, _, _, _, _, _, _, _, _, _, _, _, _, _, _, _, _, _, _, rfl, ⟨k.wf, k.f0, k.f1, k.f2, k.f3, k.f4, k.f5, fun _ => rfl, k.f7, k.f8, k.f9, k.f10, k.f11, k.f12, k.f13, k.f14, k.f15, k.f16, k.f17, k.f18, k.f19, k.f20, k.f21, fun h => up_or (k.c1_0 h), fun h => up_or (k.c5_4 h), fun _ => up_or (hd ⟨5, .data⟩ (by simp) rfl), fun h => up_or (k.c7_3 h), fun h => up_or (k.c7_6 h), fun h => up_or (k.c8_2 h), fun h => up_or (k.c8_7 h), fun h => up_or (k.c12_11 h), fun h => up_or (k.c13_12 h), fun h => up_or (k.c14_10 h), fun h => up_or (k.c14_13 h), fun h => up_or (k.c14_8 h), fun h => up_or (k.c15_9 h), fun h => up_or (k.c15_14 h), fun h => up_or (k.c16_15 h), fun h => up_or (k.c17_8 h), fun h => up_or (k.c17_16 h), fun h => up_or (k.c18_17 h), fun h => up_or (k.c19_1 h), fun h => up_or (k.c19_18 h), fun h => up_or (k.c21_20 h), fun h => up_or (k.c21_19 h)⟩⟩
                | 7, _, ho, hL =>
                  have ho2 := ho
                  simp only [List.getElem?_toArray, List.getElem?_cons_zero, List.getElem?_cons_succ, Option.some.injEq] at ho
                  subst ho
                  refine wpOp_step ho2 (fun K hK => ?_)
                  obtain rfl := k.f3 (hd ⟨3, .data⟩ (by simp) rfl)
                  obtain rfl := k.f6 (hd ⟨6, .data⟩ (by simp) rfl)
                  have e8 : L 8 = false := by
                    cases h : L 8 with
                    | false => rfl
                    | true => exact absurd (hL.symm.trans (k.c8_7 h)) (by decide)
                  have e14 : L 14 = false := by
                    cases h : L 14 with
                    | false => rfl
                    | true => exact absurd (hL.symm.trans (k.c8_7 (k.c14_8 h))) (by decide)
                  have e15 : L 15 = false := by
                    cases h : L 15 with
                    | false => rfl
                    | true => exact absurd (hL.symm.trans (k.c8_7 (k.c14_8 (k.c15_14 h)))) (by decide)
                  have e16 : L 16 = false := by
                    cases h : L 16 with
                    | false => rfl
                    | true => exact absurd (hL.symm.trans (k.c8_7 (k.c14_8 (k.c15_14 (k.c16_15 h))))) (by decide)
                  have e19 : L 19 = false := by
                    cases h : L 19 with
                    | false => rfl
                    | true => exact absurd (hL.symm.trans (k.c8_7 (k.c14_8 (k.c15_14 (k.c16_15 (k.c17_16 (k.c18_17 (k.c19_18 h)))))))) (by decide)
                  have hS0 := k.wf.1 e19
                  have hg0 := k.wf.2 e19
                  simp only [stQ, stB, e15, e14, e8, hL, Bool.false_eq_true, if_false, if_true] at hS0
                  have hcall := count53 w b gL Ln q9 bd9 na hS0
                  go_simp
                  refine hcall.mono ?_
                  rintro e X ⟨rfl, hS, hG⟩
                  have hS' : RfS X b gL Ln (if L 15 = true then (qOf o15) else if L 8 = true then q8 else q9) (if L 15 = true then o15.isNone else if L 14 = true then bd14 else if L 8 = true then bd8 else if true = true then bd1 else bd9) := by
                    simp only [e15, e14, e8, Bool.false_eq_true, if_false, if_true]
                    rw [HBD1.out]
                    exact hS
                  exact hK _ _ ⟨_, _, _, _, _, _, _, _, _, _, _, _, _, _, _, _, _, _, _, _, _, rfl, ⟨⟨fun _ => hS', fun _ => grown_trans hg0 hG⟩, k.f0, k.f1, k.f2, k.f3, k.f4, k.f5, k.f6, fun _ => congrArg (Value.int .i64) (cntN_eq na), fun h => absurd (e8.symm.trans h) (by decide), k.f9, k.f10, k.f11, k.f12, k.f13, k.f14, fun h => absurd (e15.symm.trans h) (by decide), fun h => absurd (e16.symm.trans h) (by decide), fun h => absurd (e16.symm.trans (k.c17_16 h)) (by decide), fun h => absurd (e16.symm.trans (k.c17_16 (k.c18_17 h))) (by decide), fun h => absurd (e19.symm.trans h) (by decide), k.f20, fun h => absurd (e19.symm.trans (k.c21_19 h)) (by decide), fun h => up_or (k.c1_0 h), fun h => up_or (k.c5_4 h), fun h => up_or (k.c6_5 h), fun _ => up_or (hd ⟨3, .data⟩ (by simp) rfl), fun _ => up_or (hd ⟨6, .data⟩ (by simp) rfl), fun h => up_or (k.c8_2 h), fun h => up_or (k.c8_7 h), fun h => up_or (k.c12_11 h), fun h => up_or (k.c13_12 h), fun h => up_or (k.c14_10 h), fun h => up_or (k.c14_13 h), fun h => up_or (k.c14_8 h), fun h => up_or (k.c15_9 h), fun h => up_or (k.c15_14 h), fun h => up_or (k.c16_15 h), fun h => up_or (k.c17_8 h), fun h => up_or (k.c17_16 h), fun h => up_or (k.c18_17 h), fun h => up_or (k.c19_1 h), fun h => up_or (k.c19_18 h), fun h => up_or (k.c21_20 h), fun h => up_or (k.c21_19 h)⟩⟩
                | 8, _, ho, hL =>
                  have ho2 := ho
                  simp only [List.getElem?_toArray, List.getElem?_cons_zero, List.getElem?_cons_succ, Option.some.injEq] at ho
                  subst ho
                  refine wpOp_step ho2 (fun K hK => ?_)
                  obtain rfl := k.f2 (hd ⟨2, .data⟩ (by simp) rfl)
                  obtain rfl := k.f7 (hd ⟨7, .data⟩ (by simp) rfl)
                  have e14 : L 14 = false := by
                    cases h : L 14 with
                    | false => rfl
                    | true => exact absurd (hL.symm.trans (k.c14_8 h)) (by decide)
                  have e15 : L 15 = false := by
                    cases h : L 15 with
                    | false => rfl
                    | true => exact absurd (hL.symm.trans (k.c14_8 (k.c15_14 h))) (by decide)
                  have e16 : L 16 = false := by
                    cases h : L 16 with
                    | false => rfl
                    | true => exact absurd (hL.symm.trans (k.c14_8 (k.c15_14 (k.c16_15 h)))) (by decide)
                  have e19 : L 19 = false := by
                    cases h : L 19 with
                    | false => rfl
                    | true => exact absurd (hL.symm.trans (k.c14_8 (k.c15_14 (k.c16_15 (k.c17_16 (k.c18_17 (k.c19_18 h))))))) (by decide)
                  have l7 := hd ⟨7, .data⟩ (by simp) rfl
                  have hS0 := k.wf.1 e19
                  have hg0 := k.wf.2 e19
                  simp only [stQ, stB, e15, e14, hL, l7, Bool.false_eq_true, if_false, if_true] at hS0
                  have hcall := numbers52 w b gL Ln q9 ⟨#[108, 101, 118, 101, 108, 115]⟩ (cntN na) (cntN_le na) bd1 hS0 (HL8.out.keepG hg0 h8)
                  rw [show gd bd1 (Fm.rdN (⟨#[108, 101, 118, 101, 108, 115]⟩ : ByteArray).data.toList (cntN na) q9) = o8 from HO8.out] at hcall
                  go_simp
                  refine hcall.mono ?_
                  rintro e X hx
                  obtain ⟨v', rfl, hl, hr, hN, hS, hG⟩ := hx.norm
                  have hS' : RfS X b gL Ln (if L 15 = true then (qOf o15) else if true = true then q8 else q9) (if L 15 = true then o15.isNone else if L 14 = true then bd14 else if true = true then bd8 else if L 7 = true then bd1 else bd9) := by
                    simp only [e15, e14, Bool.false_eq_true, if_false, if_true]
                    rw [HQ8.out.1, HQ8.out.2]
                    exact hS
                  exact hK _ _ ⟨_, _, _, _, _, _, _, _, _, _, _, _, _, _, _, _, _, _, _, _, _, rfl, ⟨⟨fun _ => hS', fun _ => grown_trans hg0 hG⟩, k.f0, k.f1, k.f2, k.f3, k.f4, k.f5, k.f6, k.f7, fun _ _ => NumW.of hN hg0.size, k.f9, k.f10, k.f11, k.f12, k.f13, k.f14, fun h => absurd (e15.symm.trans h) (by decide), fun h => absurd (e16.symm.trans h) (by decide), fun h => absurd (e16.symm.trans (k.c17_16 h)) (by decide), fun h => absurd (e16.symm.trans (k.c17_16 (k.c18_17 h))) (by decide), fun h => absurd (e19.symm.trans h) (by decide), k.f20, fun h => absurd (e19.symm.trans (k.c21_19 h)) (by decide), fun h => up_or (k.c1_0 h), fun h => up_or (k.c5_4 h), fun h => up_or (k.c6_5 h), fun h => up_or (k.c7_3 h), fun h => up_or (k.c7_6 h), fun _ => up_or (hd ⟨2, .data⟩ (by simp) rfl), fun _ => up_or (hd ⟨7, .data⟩ (by simp) rfl), fun h => up_or (k.c12_11 h), fun h => up_or (k.c13_12 h), fun h => up_or (k.c14_10 h), fun h => up_or (k.c14_13 h), fun h => up_or (k.c14_8 h), fun h => up_or (k.c15_9 h), fun h => up_or (k.c15_14 h), fun h => up_or (k.c16_15 h), fun h => up_or (k.c17_8 h), fun h => up_or (k.c17_16 h), fun h => up_or (k.c18_17 h), fun h => up_or (k.c19_1 h), fun h => up_or (k.c19_18 h), fun h => up_or (k.c21_20 h), fun h => up_or (k.c21_19 h)⟩⟩
                | 9, _, ho, hL =>
                  have ho2 := ho
                  simp only [List.getElem?_toArray, List.getElem?_cons_zero, List.getElem?_cons_succ, Option.some.injEq] at ho
                  subst ho
                  refine wpOp_step ho2 (fun K hK => ?_)
                  go_simp
                  exact hK _ _ ⟨_, _, _, _, _, _, _, _, _, _, _, _, _, _, _, _, _, _, _, _, _, rfl, ⟨k.wf, k.f0, k.f1, k.f2, k.f3, k.f4, k.f5, k.f6, k.f7, k.f8, fun _ => rfl, k.f10, k.f11, k.f12, k.f13, k.f14, k.f15, k.f16, k.f17, k.f18, k.f19, k.f20, k.f21, fun h => up_or (k.c1_0 h), fun h => up_or (k.c5_4 h), fun h => up_or (k.c6_5 h), fun h => up_or (k.c7_3 h), fun h => up_or (k.c7_6 h), fun h => up_or (k.c8_2 h), fun h => up_or (k.c8_7 h), fun h => up_or (k.c12_11 h), fun h => up_or (k.c13_12 h), fun h => up_or (k.c14_10 h), fun h => up_or (k.c14_13 h), fun h => up_or (k.c14_8 h), fun h => up_or (k.c15_9 h), fun h => up_or (k.c15_14 h), fun h => up_or (k.c16_15 h), fun h => up_or (k.c17_8 h), fun h => up_or (k.c17_16 h), fun h => up_or (k.c18_17 h), fun h => up_or (k.c19_1 h), fun h => up_or (k.c19_18 h), fun h => up_or (k.c21_20 h), fun h => up_or (k.c21_19 h)⟩⟩
                | 10, _, ho, hL =>
                  have ho2 := ho
                  simp only [List.getElem?_toArray, List.getElem?_cons_zero, List.getElem?_cons_succ, Option.some.injEq] at ho
                  subst ho
                  refine wpOp_step ho2 (fun K hK => ?_)
                  go_simp
                  exact hK _ _ ⟨_, _, _, _, _, _, _, _, _, _, _, _, _, _, _, _, _, _, _, _, _, rfl, ⟨k.wf, k.f0, k.f1, k.f2, k.f3, k.f4, k.f5, k.f6, k.f7, k.f8, k.f9, fun _ => rfl, k.f11, k.f12, k.f13, k.f14, k.f15, k.f16, k.f17, k.f18, k.f19, k.f20, k.f21, fun h => up_or (k.c1_0 h), fun h => up_or (k.c5_4 h), fun h => up_or (k.c6_5 h), fun h => up_or (k.c7_3 h), fun h => up_or (k.c7_6 h), fun h => up_or (k.c8_2 h), fun h => up_or (k.c8_7 h), fun h => up_or (k.c12_11 h), fun h => up_or (k.c13_12 h), fun h => up_or (k.c14_10 h), fun h => up_or (k.c14_13 h), fun h => up_or (k.c14_8 h), fun h => up_or (k.c15_9 h), fun h => up_or (k.c15_14 h), fun h => up_or (k.c16_15 h), fun h => up_or (k.c17_8 h), fun h => up_or (k.c17_16 h), fun h => up_or (k.c18_17 h), fun h => up_or (k.c19_1 h), fun h => up_or (k.c19_18 h), fun h => up_or (k.c21_20 h), fun h => up_or (k.c21_19 h)⟩⟩
                | 11, _, ho, hL =>
                  have ho2 := ho
                  simp only [List.getElem?_toArray, List.getElem?_cons_zero, List.getElem?_cons_succ, Option.some.injEq] at ho
                  subst ho
                  refine wpOp_step ho2 (fun K hK => ?_)
                  go_simp
                  exact hK _ _ ⟨_, _, _, _, _, _, _, _, _, _, _, _, _, _, _, _, _, _, _, _, _, rfl, ⟨k.wf, k.f0, k.f1, k.f2, k.f3, k.f4, k.f5, k.f6, k.f7, k.f8, k.f9, k.f10, fun _ => rfl, k.f12, k.f13, k.f14, k.f15, k.f16, k.f17, k.f18, k.f19, k.f20, k.f21, fun h => up_or (k.c1_0 h), fun h => up_or (k.c5_4 h), fun h => up_or (k.c6_5 h), fun h => up_or (k.c7_3 h), fun h => up_or (k.c7_6 h), fun h => up_or (k.c8_2 h), fun h => up_or (k.c8_7 h), fun h => up_or (k.c12_11 h), fun h => up_or (k.c13_12 h), fun h => up_or (k.c14_10 h), fun h => up_or (k.c14_13 h), fun h => up_or (k.c14_8 h), fun h => up_or (k.c15_9 h), fun h => up_or (k.c15_14 h), fun h => up_or (k.c16_15 h), fun h => up_or (k.c17_8 h), fun h => up_or (k.c17_16 h), fun h => up_or (k.c18_17 h), fun h => up_or (k.c19_1 h), fun h => up_or (k.c19_18 h), fun h => up_or (k.c21_20 h), fun h => up_or (k.c21_19 h)⟩⟩
                | 12, _, ho, hL =>
                  have ho2 := ho
                  simp only [List.getElem?_toArray, List.getElem?_cons_zero, List.getElem?_cons_succ, Option.some.injEq] at ho
                  subst ho
                  refine wpOp_step ho2 (fun K hK => ?_)
                  obtain rfl := k.f11 (hd ⟨11, .data⟩ (by simp) rfl)
                  go_simp
                  exact hK _ _ ⟨_, _, _, _, _, _, _, _, _, _, _, _, _, _, _, _, _, _, _, _, _, rfl, ⟨k.wf, k.f0, k.f1, k.f2, k.f3, k.f4, k.f5, k.f6, k.f7, k.f8, k.f9, k.f10, k.f11, fun _ => rfl, k.f13, k.f14, k.f15, k.f16, k.f17, k.f18, k.f19, k.f20, k.f21, fun h => up_or (k.c1_0 h), fun h => up_or (k.c5_4 h), fun h => up_or (k.c6_5 h), fun h => up_or (k.c7_3 h), fun h => up_or (k.c7_6 h), fun h => up_or (k.c8_2 h), fun h => up_or (k.c8_7 h), fun _ => up_or (hd ⟨11, .data⟩ (by simp) rfl), fun h => up_or (k.c13_12 h), fun h => up_or (k.c14_10 h), fun h => up_or (k.c14_13 h), fun h => up_or (k.c14_8 h), fun h => up_or (k.c15_9 h), fun h => up_or (k.c15_14 h), fun h => up_or (k.c16_15 h), fun h => up_or (k.c17_8 h), fun h => up_or (k.c17_16 h), fun h => up_or (k.c18_17 h), fun h => up_or (k.c19_1 h), fun h => up_or (k.c19_18 h), fun h => up_or (k.c21_20 h), fun h => up_or (k.c21_19 h)⟩⟩
                | 13, _, ho, hL =>
                  have ho2 := ho
                  simp only [List.getElem?_toArray, List.getElem?_cons_zero, List.getElem?_cons_succ, Option.some.injEq] at ho
                  subst ho
                  refine wpOp_step ho2 (fun K hK => ?_)
                  obtain rfl := k.f12 (hd ⟨12, .data⟩ (by simp) rfl)
                  have e19 : L 19 = false := by
                    cases h : L 19 with
                    | false => rfl
                    | true => exact absurd (hL.symm.trans (k.c14_13 (k.c15_14 (k.c16_15 (k.c17_16 (k.c18_17 (k.c19_18 h))))))) (by decide)
                  obtain ⟨xx0, xx1, gw⟩ := HXB.out w (k.wf.2 e19)
                  go_simp
                  exact hK _ _ ⟨_, _, _, _, _, _, _, _, _, _, _, _, _, _, _, _, _, _, _, _, _, rfl, ⟨k.wf, k.f0, k.f1, k.f2, k.f3, k.f4, k.f5, k.f6, k.f7, k.f8, k.f9, k.f10, k.f11, k.f12, fun _ => rfl, k.f14, k.f15, k.f16, k.f17, k.f18, k.f19, k.f20, k.f21, fun h => up_or (k.c1_0 h), fun h => up_or (k.c5_4 h), fun h => up_or (k.c6_5 h), fun h => up_or (k.c7_3 h), fun h => up_or (k.c7_6 h), fun h => up_or (k.c8_2 h), fun h => up_or (k.c8_7 h), fun h => up_or (k.c12_11 h), fun _ => up_or (hd ⟨12, .data⟩ (by simp) rfl), fun h => up_or (k.c14_10 h), fun h => up_or (k.c14_13 h), fun h => up_or (k.c14_8 h), fun h => up_or (k.c15_9 h), fun h => up_or (k.c15_14 h), fun h => up_or (k.c16_15 h), fun h => up_or (k.c17_8 h), fun h => up_or (k.c17_16 h), fun h => up_or (k.c18_17 h), fun h => up_or (k.c19_1 h), fun h => up_or (k.c19_18 h), fun h => up_or (k.c21_20 h), fun h => up_or (k.c21_19 h)⟩⟩
                | 14, _, ho, hL =>
                  have ho2 := ho
                  simp only [List.getElem?_toArray, List.getElem?_cons_zero, List.getElem?_cons_succ, Option.some.injEq] at ho
                  subst ho
                  refine wpOp_step ho2 (fun K hK => ?_)
                  obtain rfl := k.f10 (hd ⟨10, .data⟩ (by simp) rfl)
                  obtain rfl := k.f13 (hd ⟨13, .data⟩ (by simp) rfl)
                  have e15 : L 15 = false := by
                    cases h : L 15 with
                    | false => rfl
                    | true => exact absurd (hL.symm.trans (k.c15_14 h)) (by decide)
                  have e16 : L 16 = false := by
                    cases h : L 16 with
                    | false => rfl
                    | true => exact absurd (hL.symm.trans (k.c15_14 (k.c16_15 h))) (by decide)
                  have e19 : L 19 = false := by
                    cases h : L 19 with
                    | false => rfl
                    | true => exact absurd (hL.symm.trans (k.c15_14 (k.c16_15 (k.c17_16 (k.c18_17 (k.c19_18 h)))))) (by decide)
                  have l8 := hd ⟨8, .chain⟩ (by simp) rfl
                  have hS0 := k.wf.1 e19
                  have hg0 := k.wf.2 e19
                  simp only [stQ, stB, e15, hL, l8, Bool.false_eq_true, if_false, if_true] at hS0
                  have hcall := count53 w b gL Ln q8 bd8 nb hS0
                  go_simp
                  refine hcall.mono ?_
                  rintro e X ⟨rfl, hS, hG⟩
                  have hS' : RfS X b gL Ln (if L 15 = true then (qOf o15) else if L 8 = true then q8 else q9) (if L 15 = true then o15.isNone else if true = true then bd14 else if L 8 = true then bd8 else if L 7 = true then bd1 else bd9) := by
                    simp only [e15, l8, Bool.false_eq_true, if_false, if_true]
                    rw [HBD14.out]
                    exact hS
                  exact hK _ _ ⟨_, _, _, _, _, _, _, _, _, _, _, _, _, _, _, _, _, _, _, _, _, rfl, ⟨⟨fun _ => hS', fun _ => grown_trans hg0 hG⟩, k.f0, k.f1, k.f2, k.f3, k.f4, k.f5, k.f6, k.f7, fun h e => New.keep (k.f8 h e) (grown_ag hG W8.heap.size HB8.out.1), k.f9, k.f10, k.f11, k.f12, k.f13, fun _ => congrArg (Value.int .i64) (cntN_eq nb), fun h => absurd (e15.symm.trans h) (by decide), fun h => absurd (e16.symm.trans h) (by decide), fun h => absurd (e16.symm.trans (k.c17_16 h)) (by decide), fun h => absurd (e16.symm.trans (k.c17_16 (k.c18_17 h))) (by decide), fun h => absurd (e19.symm.trans h) (by decide), k.f20, fun h => absurd (e19.symm.trans (k.c21_19 h)) (by decide), fun h => up_or (k.c1_0 h), fun h => up_or (k.c5_4 h), fun h => up_or (k.c6_5 h), fun h => up_or (k.c7_3 h), fun h => up_or (k.c7_6 h), fun h => up_or (k.c8_2 h), fun h => up_or (k.c8_7 h), fun h => up_or (k.c12_11 h), fun h => up_or (k.c13_12 h), fun _ => up_or (hd ⟨10, .data⟩ (by simp) rfl), fun _ => up_or (hd ⟨13, .data⟩ (by simp) rfl), fun _ => up_or (hd ⟨8, .chain⟩ (by simp) rfl), fun h => up_or (k.c15_9 h), fun h => up_or (k.c15_14 h), fun h => up_or (k.c16_15 h), fun h => up_or (k.c17_8 h), fun h => up_or (k.c17_16 h), fun h => up_or (k.c18_17 h), fun h => up_or (k.c19_1 h), fun h => up_or (k.c19_18 h), fun h => up_or (k.c21_20 h), fun h => up_or (k.c21_19 h)⟩⟩
                | 15, _, ho, hL =>
                  have ho2 := ho
                  simp only [List.getElem?_toArray, List.getElem?_cons_zero, List.getElem?_cons_succ, Option.some.injEq] at ho
                  subst ho
                  refine wpOp_step ho2 (fun K hK => ?_)
                  obtain rfl := k.f9 (hd ⟨9, .data⟩ (by simp) rfl)
                  obtain rfl := k.f14 (hd ⟨14, .data⟩ (by simp) rfl)
                  have e16 : L 16 = false := by
                    cases h : L 16 with
                    | false => rfl
                    | true => exact absurd (hL.symm.trans (k.c16_15 h)) (by decide)
                  have e19 : L 19 = false := by
                    cases h : L 19 with
                    | false => rfl
                    | true => exact absurd (hL.symm.trans (k.c16_15 (k.c17_16 (k.c18_17 (k.c19_18 h))))) (by decide)
                  have l14 := hd ⟨14, .data⟩ (by simp) rfl
                  have l8 := k.c14_8 l14
                  have hS0 := k.wf.1 e19
                  have hg0 := k.wf.2 e19
                  simp only [stQ, stB, hL, l14, l8, Bool.false_eq_true, if_false, if_true] at hS0
                  have hcall := numbers52 w b gL Ln q8 ⟨#[115, 116, 101, 112, 115]⟩ (cntN nb) (cntN_le nb) bd14 hS0 (HL8.out.keepG hg0 h8)
                  rw [show gd bd14 (Fm.rdN (⟨#[115, 116, 101, 112, 115]⟩ : ByteArray).data.toList (cntN nb) q8) = o15 from HO15.out] at hcall
                  go_simp
                  refine hcall.mono ?_
                  rintro e X hx
                  obtain ⟨v', rfl, hl, hr, hN, hS, hG⟩ := hx.norm
                  have hS' : RfS X b gL Ln (if true = true then (qOf o15) else if L 8 = true then q8 else q9) (if true = true then o15.isNone else if L 14 = true then bd14 else if L 8 = true then bd8 else if L 7 = true then bd1 else bd9) := hS
                  exact hK _ _ ⟨_, _, _, _, _, _, _, _, _, _, _, _, _, _, _, _, _, _, _, _, _, rfl, ⟨⟨fun _ => hS', fun _ => grown_trans hg0 hG⟩, k.f0, k.f1, k.f2, k.f3, k.f4, k.f5, k.f6, k.f7, fun h e => New.keep (k.f8 h e) (grown_ag hG W8.heap.size HB8.out.1), k.f9, k.f10, k.f11, k.f12, k.f13, k.f14, fun _ _ => ⟨NumW.of hN hg0.size, hr, by rw [hl]; exact cntN_le nb⟩, fun h => absurd (e16.symm.trans h) (by decide), fun h => absurd (e16.symm.trans (k.c17_16 h)) (by decide), fun h => absurd (e16.symm.trans (k.c17_16 (k.c18_17 h))) (by decide), fun h => absurd (e19.symm.trans h) (by decide), k.f20, fun h => absurd (e19.symm.trans (k.c21_19 h)) (by decide), fun h => up_or (k.c1_0 h), fun h => up_or (k.c5_4 h), fun h => up_or (k.c6_5 h), fun h => up_or (k.c7_3 h), fun h => up_or (k.c7_6 h), fun h => up_or (k.c8_2 h), fun h => up_or (k.c8_7 h), fun h => up_or (k.c12_11 h), fun h => up_or (k.c13_12 h), fun h => up_or (k.c14_10 h), fun h => up_or (k.c14_13 h), fun h => up_or (k.c14_8 h), fun _ => up_or (hd ⟨9, .data⟩ (by simp) rfl), fun _ => up_or (hd ⟨14, .data⟩ (by simp) rfl), fun h => up_or (k.c16_15 h), fun h => up_or (k.c17_8 h), fun h => up_or (k.c17_16 h), fun h => up_or (k.c18_17 h), fun h => up_or (k.c19_1 h), fun h => up_or (k.c19_18 h), fun h => up_or (k.c21_20 h), fun h => up_or (k.c21_19 h)⟩⟩
                | 16, _, ho, hL =>
                  have ho2 := ho
                  simp only [List.getElem?_toArray, List.getElem?_cons_zero, List.getElem?_cons_succ, Option.some.injEq] at ho
                  subst ho
                  refine wpOp_step ho2 (fun K hK => ?_)
                  have e19 : L 19 = false := by
                    cases h : L 19 with
                    | false => rfl
                    | true => exact absurd (hL.symm.trans (k.c17_16 (k.c18_17 (k.c19_18 h)))) (by decide)
                  obtain ⟨hN0, hr0, hl0⟩ := k.f15 (hd ⟨15, .data⟩ (by simp) rfl) e19
                  obtain ⟨o69, c69, rfl, -, hs69⟩ := hN0.now
                  have hcall := narrow54 w o69 c69 _ hs69 hr0 hl0
                  have hg0 := k.wf.2 e19
                  go_simp
                  refine hcall.mono ?_
                  rintro e X ⟨v', rfl, hN, hb⟩
                  have hN2 := NumW.of hN hg0.size
                  replace k := k.keep e19 hb
                  exact hK _ _ ⟨_, _, _, _, _, _, _, _, _, _, _, _, _, _, _, _, _, _, _, _, _, rfl, ⟨k.wf, k.f0, k.f1, k.f2, k.f3, k.f4, k.f5, k.f6, k.f7, k.f8, k.f9, k.f10, k.f11, k.f12, k.f13, k.f14, k.f15, fun _ _ => hN2, k.f17, k.f18, k.f19, k.f20, k.f21, fun h => up_or (k.c1_0 h), fun h => up_or (k.c5_4 h), fun h => up_or (k.c6_5 h), fun h => up_or (k.c7_3 h), fun h => up_or (k.c7_6 h), fun h => up_or (k.c8_2 h), fun h => up_or (k.c8_7 h), fun h => up_or (k.c12_11 h), fun h => up_or (k.c13_12 h), fun h => up_or (k.c14_10 h), fun h => up_or (k.c14_13 h), fun h => up_or (k.c14_8 h), fun h => up_or (k.c15_9 h), fun h => up_or (k.c15_14 h), fun _ => up_or (hd ⟨15, .data⟩ (by simp) rfl), fun h => up_or (k.c17_8 h), fun h => up_or (k.c17_16 h), fun h => up_or (k.c18_17 h), fun h => up_or (k.c19_1 h), fun h => up_or (k.c19_18 h), fun h => up_or (k.c21_20 h), fun h => up_or (k.c21_19 h)⟩⟩
                | 17, _, ho, hL =>
                  have ho2 := ho
                  simp only [List.getElem?_toArray, List.getElem?_cons_zero, List.getElem?_cons_succ, Option.some.injEq] at ho
                  subst ho
                  refine wpOp_step ho2 (fun K hK => ?_)
                  have e19 : L 19 = false := by
                    cases h : L 19 with
                    | false => rfl
                    | true => exact absurd (hL.symm.trans (k.c18_17 (k.c19_18 h))) (by decide)
                  have hN1 := k.f8 (hd ⟨8, .data⟩ (by simp) rfl) e19
                  have hN2 := k.f16 (hd ⟨16, .data⟩ (by simp) rfl) e19
                  obtain ⟨ol, cl, rfl, -, -⟩ := hN1.now
                  obtain ⟨oi, ci, rfl, -, -⟩ := hN2.now
                  have hPA := prof_new hN1 hN2
                  go_simp
                  exact hK _ _ ⟨_, _, _, _, _, _, _, _, _, _, _, _, _, _, _, _, _, _, _, _, _, rfl, ⟨k.wf, k.f0, k.f1, k.f2, k.f3, k.f4, k.f5, k.f6, k.f7, k.f8, k.f9, k.f10, k.f11, k.f12, k.f13, k.f14, k.f15, k.f16, fun _ _ => ⟨ol, cl, oi, ci, rfl, hPA⟩, k.f18, k.f19, k.f20, k.f21, fun h => up_or (k.c1_0 h), fun h => up_or (k.c5_4 h), fun h => up_or (k.c6_5 h), fun h => up_or (k.c7_3 h), fun h => up_or (k.c7_6 h), fun h => up_or (k.c8_2 h), fun h => up_or (k.c8_7 h), fun h => up_or (k.c12_11 h), fun h => up_or (k.c13_12 h), fun h => up_or (k.c14_10 h), fun h => up_or (k.c14_13 h), fun h => up_or (k.c14_8 h), fun h => up_or (k.c15_9 h), fun h => up_or (k.c15_14 h), fun h => up_or (k.c16_15 h), fun _ => up_or (hd ⟨8, .data⟩ (by simp) rfl), fun _ => up_or (hd ⟨16, .data⟩ (by simp) rfl), fun h => up_or (k.c18_17 h), fun h => up_or (k.c19_1 h), fun h => up_or (k.c19_18 h), fun h => up_or (k.c21_20 h), fun h => up_or (k.c21_19 h)⟩⟩
                | 18, _, ho, hL =>
                  have ho2 := ho
                  simp only [List.getElem?_toArray, List.getElem?_cons_zero, List.getElem?_cons_succ, Option.some.injEq] at ho
                  subst ho
                  refine wpOp_step ho2 (fun K hK => ?_)
                  have e19 : L 19 = false := by
                    cases h : L 19 with
                    | false => rfl
                    | true => exact absurd (hL.symm.trans (k.c19_18 h)) (by decide)
                  obtain ⟨ol, cl, oi, ci, rfl, hPA⟩ := k.f17 (hd ⟨17, .data⟩ (by simp) rfl) e19
                  have hb : Below w.heap.size w (w.alloc (.cells #[.slice ol (nsOf (cntN na) o8).length cl, .slice oi (nsOf (cntN nb) o15).length ci] 44)) := (Below.refl _ _).alloc (Nat.le_refl _) _
                  have hbx := Bx.new w [.slice ol (nsOf (cntN na) o8).length cl, .slice oi (nsOf (cntN nb) o15).length ci] 44
                  go_simp
                  replace k := k.keep e19 hb
                  exact hK _ _ ⟨_, _, _, _, _, _, _, _, _, _, _, _, _, _, _, _, _, _, _, _, _, rfl, ⟨k.wf, k.f0, k.f1, k.f2, k.f3, k.f4, k.f5, k.f6, k.f7, k.f8, k.f9, k.f10, k.f11, k.f12, k.f13, k.f14, k.f15, k.f16, k.f17, fun _ _ => ⟨ol, cl, oi, ci, w.heap.size, rfl, hbx, New.keep hPA (AgI.of hb)⟩, k.f19, k.f20, k.f21, fun h => up_or (k.c1_0 h), fun h => up_or (k.c5_4 h), fun h => up_or (k.c6_5 h), fun h => up_or (k.c7_3 h), fun h => up_or (k.c7_6 h), fun h => up_or (k.c8_2 h), fun h => up_or (k.c8_7 h), fun h => up_or (k.c12_11 h), fun h => up_or (k.c13_12 h), fun h => up_or (k.c14_10 h), fun h => up_or (k.c14_13 h), fun h => up_or (k.c14_8 h), fun h => up_or (k.c15_9 h), fun h => up_or (k.c15_14 h), fun h => up_or (k.c16_15 h), fun h => up_or (k.c17_8 h), fun h => up_or (k.c17_16 h), fun _ => up_or (hd ⟨17, .data⟩ (by simp) rfl), fun h => up_or (k.c19_1 h), fun h => up_or (k.c19_18 h), fun h => up_or (k.c21_20 h), fun h => up_or (k.c21_19 h)⟩⟩
                | 19, _, ho, hL =>
                  have ho2 := ho
                  simp only [List.getElem?_toArray, List.getElem?_cons_zero, List.getElem?_cons_succ, Option.some.injEq] at ho
                  subst ho
                  refine wpOp_step ho2 (fun K hK => ?_)
                  obtain rfl := k.f1 (hd ⟨1, .data⟩ (by simp) rfl)
                  obtain ⟨ol, cl, oi, ci, gB, rfl, hbx, hPA⟩ := k.f18 (hd ⟨18, .data⟩ (by simp) rfl) hL
                  have hg := k.wf.2 hL
                  have l18 := hd ⟨18, .data⟩ (by simp) rfl
                  have l15 := k.c16_15 (k.c17_16 (k.c18_17 l18))
                  have hS0 := k.wf.1 hL
                  simp only [stQ, stB, l15, Bool.false_eq_true, if_false, if_true] at hS0
                  obtain ⟨rows, hV0⟩ := HRow8.out.ex
                  have hV := hV0.keep (grown_ag hg W6.heap.size HLB6.out.1)
                  have hrl := HXL.out rows hV0.len
                  have hlx : W6.heap.size ≤ w.heap.size := Nat.le_trans HLO.out hg.size
                  obtain ⟨i0, hi0, hz0, hz1, hz2⟩ := info_parts info44
                  refine step_append_lies _ rfl (.tmp 55) (.tmp 72) 39 rfl W6.heap.size 44 i0 (.agg #[.slice none 0 0, .slice none 0 0]) 2 48 under39 hi0 hz0 hz1 hz2 rfl (by decide) _ rows.length rows.flatten (by simp [Act.eval]) hV.own ⟨gB, 0, none⟩ 1 1 [.slice ol (nsOf (cntN na) o8).length cl, .slice oi (nsOf (cntN nb) o15).length ci] (by simp [Act.eval]) rfl (World.news_of_block hbx.h) (by intro u hu; simp at hu; rcases hu with rfl | rfl <;> rfl) (by decide) (by unfold maxLen; omega) (by omega) hlx _ rfl ?_
                  intro gN cN X hown hgrow hat hltN
                  have hrow := hV0.app (grown_ag hg W6.heap.size HLB6.out.1) hPA rfl (Below.refl _ _) hown hgrow (hat.elim (fun e => .inl e.symm) (fun e => .inr (by rw [e]; rfl))) HLO.out
                  have hbn1 : Below W6.heap.size w X := grown_below hV.own hgrow hlx
                  have hbX : Bx X n7 [.slice ao lo co, .slice ae le ce, .int .i64 nx, .int .i64 ny, .int .i64 nz, .int .i64 ng, _] 41 := (HX8.out.grown hg hn7b).low hbn1 HLB6.out.2.2
                  exact hK _ _ ⟨_, _, _, _, _, _, _, _, _, _, _, _, _, _, _, _, _, _, _, _, _, rfl, ⟨⟨nofun, nofun⟩, k.f0, k.f1, k.f2, k.f3, k.f4, k.f5, k.f6, k.f7, fun _ => nofun, k.f9, k.f10, k.f11, k.f12, k.f13, k.f14, fun _ => nofun, fun _ => nofun, fun _ => nofun, fun _ => nofun, fun _ => ⟨hrow, hS0.keepA hbn1 HLB6.out.1 HLB6.out.2.1, (Fr3.grown hg HLO.out).trans (Fr3.low hbn1), fun _ => hbX⟩, k.f20, fun h => absurd (hL.symm.trans (k.c21_19 h)) (by decide), fun h => up_or (k.c1_0 h), fun h => up_or (k.c5_4 h), fun h => up_or (k.c6_5 h), fun h => up_or (k.c7_3 h), fun h => up_or (k.c7_6 h), fun h => up_or (k.c8_2 h), fun h => up_or (k.c8_7 h), fun h => up_or (k.c12_11 h), fun h => up_or (k.c13_12 h), fun h => up_or (k.c14_10 h), fun h => up_or (k.c14_13 h), fun h => up_or (k.c14_8 h), fun h => up_or (k.c15_9 h), fun h => up_or (k.c15_14 h), fun h => up_or (k.c16_15 h), fun h => up_or (k.c17_8 h), fun h => up_or (k.c17_16 h), fun h => up_or (k.c18_17 h), fun _ => up_or (hd ⟨1, .data⟩ (by simp) rfl), fun _ => up_or (hd ⟨18, .data⟩ (by simp) rfl), fun h => up_or (k.c21_20 h), fun h => up_or (k.c21_19 h)⟩⟩
                | 20, _, ho, hL =>
                  have ho2 := ho
                  simp only [List.getElem?_toArray, List.getElem?_cons_zero, List.getElem?_cons_succ, Option.some.injEq] at ho
                  subst ho
                  refine wpOp_step ho2 (fun K hK => ?_)
                  go_simp
                  exact hK _ _ ⟨_, _, _, _, _, _, _, _, _, _, _, _, _, _, _, _, _, _, _, _, _, rfl, ⟨k.wf, k.f0, k.f1, k.f2, k.f3, k.f4, k.f5, k.f6, k.f7, k.f8, k.f9, k.f10, k.f11, k.f12, k.f13, k.f14, k.f15, k.f16, k.f17, k.f18, k.f19, fun _ => rfl, k.f21, fun h => up_or (k.c1_0 h), fun h => up_or (k.c5_4 h), fun h => up_or (k.c6_5 h), fun h => up_or (k.c7_3 h), fun h => up_or (k.c7_6 h), fun h => up_or (k.c8_2 h), fun h => up_or (k.c8_7 h), fun h => up_or (k.c12_11 h), fun h => up_or (k.c13_12 h), fun h => up_or (k.c14_10 h), fun h => up_or (k.c14_13 h), fun h => up_or (k.c14_8 h), fun h => up_or (k.c15_9 h), fun h => up_or (k.c15_14 h), fun h => up_or (k.c16_15 h), fun h => up_or (k.c17_8 h), fun h => up_or (k.c17_16 h), fun h => up_or (k.c18_17 h), fun h => up_or (k.c19_1 h), fun h => up_or (k.c19_18 h), fun h => up_or (k.c21_20 h), fun h => up_or (k.c21_19 h)⟩⟩
                | 21, _, ho, hL =>
                  have ho2 := ho
                  simp only [List.getElem?_toArray, List.getElem?_cons_zero, List.getElem?_cons_succ, Option.some.injEq] at ho
                  subst ho
                  refine wpOp_step ho2 (fun K hK => ?_)
                  obtain rfl := k.f20 (hd ⟨20, .data⟩ (by simp) rfl)
                  have l19 := hd ⟨19, .data⟩ (by simp) rfl
                  obtain ⟨hr15, hS, hF, hx15⟩ := k.f19 l19
                  have hbx := hx15 hL
                  have bl := hbx.lt
                  have bf := hbx.f 6
                  have bc := hbx.c 6 _ rfl
                  obtain ⟨o46, c46, rfl, _⟩ := hr15.done
                  simp only [List.length_append, List.length_cons, List.length_nil, Nat.zero_add] at hr15
                  have hpp := hbx.putAt 6 (.slice o46 (fs.length + 1) c46)
                  go_simp
                  exact hK _ _ ⟨_, _, _, _, _, _, _, _, _, _, _, _, _, _, _, _, _, _, _, _, _, rfl, ⟨⟨fun h => absurd ((show L 19 = false from h).symm.trans l19) (by decide), fun h => absurd ((show L 19 = false from h).symm.trans l19) (by decide)⟩, k.f0, k.f1, k.f2, k.f3, k.f4, k.f5, k.f6, k.f7, fun _ h => absurd ((show L 19 = false from h).symm.trans l19) (by decide), k.f9, k.f10, k.f11, k.f12, k.f13, k.f14, fun _ h => absurd ((show L 19 = false from h).symm.trans l19) (by decide), fun _ h => absurd ((show L 19 = false from h).symm.trans l19) (by decide), fun _ h => absurd ((show L 19 = false from h).symm.trans l19) (by decide), fun _ h => absurd ((show L 19 = false from h).symm.trans l19) (by decide), fun _ => ⟨hr15.keep (AgI.set w _ HLB6.out.2.2), hS.grown3 _ (Ne.symm hn7b) (Ne.symm hn7g), hF.trans (Fr3.set w 6 _), nofun⟩, k.f20, fun _ => hpp, fun h => up_or (k.c1_0 h), fun h => up_or (k.c5_4 h), fun h => up_or (k.c6_5 h), fun h => up_or (k.c7_3 h), fun h => up_or (k.c7_6 h), fun h => up_or (k.c8_2 h), fun h => up_or (k.c8_7 h), fun h => up_or (k.c12_11 h), fun h => up_or (k.c13_12 h), fun h => up_or (k.c14_10 h), fun h => up_or (k.c14_13 h), fun h => up_or (k.c14_8 h), fun h => up_or (k.c15_9 h), fun h => up_or (k.c15_14 h), fun h => up_or (k.c16_15 h), fun h => up_or (k.c17_8 h), fun h => up_or (k.c17_16 h), fun h => up_or (k.c18_17 h), fun h => up_or (k.c19_1 h), fun h => up_or (k.c19_18 h), fun _ => up_or (hd ⟨20, .data⟩ (by simp) rfl), fun _ => up_or (hd ⟨19, .data⟩ (by simp) rfl)⟩⟩
                | n + 22, h, _, _ => omega
              · intro L a w hL hJ
                obtain ⟨v54, v55, v56, v57, v58, v59, v60, v61, v62, v63, v64, v65, v66, v67, v68, v69, v70, v71, v72, v73, v74, rfl, k⟩ := hJ
                obtain ⟨hrY, hSY, hFY, -⟩ := k.f19 (hL 19 (by decide))
                have hxY := k.f21 (hL 21 (by decide))
                obtain rfl := k.f0 (hL 0 (by decide))
                obtain rfl := k.f2 (hL 2 (by decide))
                obtain rfl := k.f3 (hL 3 (by decide))
                obtain rfl := k.f4 (hL 4 (by decide))
                obtain rfl := k.f5 (hL 5 (by decide))
                obtain rfl := k.f6 (hL 6 (by decide))
                obtain rfl := k.f7 (hL 7 (by decide))
                obtain rfl := k.f9 (hL 9 (by decide))
                obtain rfl := k.f10 (hL 10 (by decide))
                obtain rfl := k.f11 (hL 11 (by decide))
                obtain rfl := k.f12 (hL 12 (by decide))
                obtain rfl := k.f13 (hL 13 (by decide))
                obtain rfl := k.f14 (hL 14 (by decide))
                obtain rfl := k.f20 (hL 20 (by decide))
                dsimp only
                have HRY := Lib.hid hrY
                have HXY := Lib.hid hxY
                have HSY := Lib.hid hSY
                have HFY := Lib.hid (HF.out.trans ((Fr3.grown HG8.out HF.out.size).trans hFY))
                clear hrY hxY hSY hFY k hL
                have hpa := HPR.out.1
                have hpb := HPR.out.2
                go_wp2_with fail
                go_roundw
                case rel => exact ⟨k + 1, _, qOf o15, o15.isNone, _, by omega, by simp, HXY.out, HRY.out, HSY.out, HFY.out, fun e => ⟨H5.out, HR.out.step hlt (hpa e)⟩, fun e => no2' HO5.out HGD5.out HLE.out (HR.out.none hlt (hpb e))⟩
                case measure => simp [intOf]; omega
          · have hke : k = le := by omega
            subst hke
            have hd : decide ((k : Int) < (k : Int)) = false := decide_eq_false (by omega)
            go_wp2_with fail
            go_meet
            exact ⟨fs, q, bd, v, HXa.out, HRowa.out, HSa.out, HF.out, fun e => ⟨(HGDa.out e).1, (HGDa.out e).2.done⟩, HBDa.out⟩
      case rest =>
        obtain ⟨fs, q, bd, v, hX, hRow, hS, hF, hgood, hbad⟩ := hcut
        obtain ⟨W8, rfl⟩ : ∃ X, X = wc := ⟨_, rfl⟩
        obtain ⟨oF, nf, rfl, hFN, -, -⟩ := hRow.done
        have hz6 := HZ6.out
        have HL8 := Lib.hid (lib_fr3 HL6.out hF (by omega) h8 (by omega))
        have HX28 : Hid (Bx W8 n2 [.slice none 0 0, .slice none 0 0, .int .i64 0, .int .i64 0, .int .i64 0, .int .i64 0, .slice none 0 0] 41) := Lib.hid ⟨(hF.block n2 (by omega) (by omega) (by omega)).trans HX26.out.h⟩
        have HG8 : Hid (W2.grownBy W8 (some b)) := Lib.hid (hF.back HG6.out (by omega) (by omega))
        have HE := Lib.hid (ends46 W8 b gL Ln q bd hS HL8.out)
        have HTV : Hid (bd = false → ∃ pd, New W2.heap.size W8 (TrajV (.agg #[.slice ao lo co, .slice ae le ce, .int .i64 nx, .int .i64 ny, .int .i64 nz, .int .i64 ng, .slice oF fs.length nf]) ⟨ng, (nx, ny, nz), pd, fs⟩) ∧ Fm.rdTraj Ln = some (⟨ng, (nx, ny, nz), pd, fs⟩, q) ∧ pd.pts.length ≤ 1048576 ∧ pd.edges.length ≤ 1048576) := Lib.hid (fun e => by
          obtain ⟨h5, hrp⟩ := hgood e
          obtain ⟨pd, q5, ho5⟩ : ∃ pd q5, o5 = some (pd, q5) := by
            cases o5 with
            | none => cases h5
            | some x => exact ⟨x.1, x.2, rfl⟩
          obtain ⟨q4', a1, a2⟩ := HGD5.out pd q5 ho5
          have hle := (HLE.out pd q5 ho5).1
          have hsz := rdPath_sizes a2
          refine ⟨pd, fun X hX2 => ?_, Fm.rdTraj_yes a1 a2 (by rw [hle]; rw [ho5] at hrp; exact hrp), hsz⟩
          obtain ⟨op', np', oe', ne', e1, p1, p2⟩ := HSS.out.2 X (fun j hj => by
            obtain ⟨k1, k2, k3⟩ := HSS.out.1 j hj
            rw [hX2 j ⟨by omega, Nat.lt_of_lt_of_le k2 hF.size⟩]
            exact hF.block j k2 (by omega) k3) pd q5 ho5
          have p3 := hFN X fun j hj => hX2 j ⟨by have := hj.1; omega, hj.2⟩
          injection e1 with e1
          have e2 := congrArg (fun x => x[0]?) e1
          have e3 := congrArg (fun x => x[1]?) e1
          simp at e2 e3
          exact ⟨op', np', oe', ne', oF, nf, by simp [e2, e3], p1, p2, p3⟩)
        have HBDX := Lib.hid hbad
        have HX78 := Lib.hid hX
        have HLB2 : Hid (W2.heap.size ≤ n7 ∧ W2.heap.size ≤ W8.heap.size) := Lib.hid (by have := hF.size; omega)
        clear hX hRow hS hF hgood hbad hFN hz6 HSS HGD5 HBD5 HLE HX26 HL6 HSR HX7
        go_wp2_with fail
        refine HE.out.mono ?_
        clear HE
        rintro e W9 ⟨rfl, hG9⟩
        have hlb2 := HLB.out
        have hx29 := HX28.out.grown hG9 (by omega)
        have hx79 := HX78.out.grown hG9 hn7b
        have HG9 := Lib.hid (grown_trans HG8.out hG9)
        have HTV9 : Hid (bd = false → ∃ pd, New W2.heap.size W9 (TrajV (.agg #[.slice ao lo co, .slice ae le ce, .int .i64 nx, .int .i64 ny, .int .i64 nz, .int .i64 ng, .slice oF fs.length nf]) ⟨ng, (nx, ny, nz), pd, fs⟩) ∧ Fm.rdTraj Ln = some (⟨ng, (nx, ny, nz), pd, fs⟩, q) ∧ pd.pts.length ≤ 1048576 ∧ pd.edges.length ≤ 1048576) := Lib.hid (fun e => (HTV.out e).elim fun pd h => ⟨pd, New.keep h.1 (grown_ag hG9 _ hlt0), h.2⟩)
        have hbW9 : Below W.heap.size W W9 := HB2.out.trans ⟨HG9.out.os, HG9.out.tape, HG9.out.output, HG9.out.size, fun k hk => HG9.out.block k (Nat.lt_of_lt_of_le hk HB2.out.size) (fun e => by injection e with e; omega)⟩
        clear hG9 HTV HX28 HX78 HG8 HL8
        cases hval : (!bd && Fm.rdEnd q []) with
        | false =>
          have HRN : Hid (res = (trajZ, 4301)) := Lib.hid (by
            rw [← HR2.out]
            cases hbd : bd with
            | true => rw [HBDX.out hbd]
            | false =>
              obtain ⟨pd, -, ho, -⟩ := HTV9.out hbd
              rw [ho]
              simp only
              rw [hbd, Bool.not_false, Bool.true_and] at hval
              rw [hval]
              rfl)
          clear hval
          have HF := Lib.hid (HZE.out W9 _ _ _ _ _ _ _ 4301 hx29 HRN.out hbW9)
          have l2 := hx29.lt
          obtain ⟨y0, z0, y1, z1, y2, z2, y3, z3, y4, z4, y5, z5, y6, z6⟩ := facts7 hx29 (.slice none 0 0) (.slice none 0 0) (.int .i64 0) (.int .i64 0) (.int .i64 0) (.int .i64 0)
          unfold zer7 set7 at HF
          clear hx29 hx79
          go_wp2
          clear y0 z0 y1 z1 y2 z2 y3 z3 y4 z4 y5 z5 y6 z6 l2
          generalize ((((((W9.setCell ⟨n2, 0, none⟩ (.slice none 0 0)).setCell ⟨n2, 1, none⟩ (.slice none 0 0)).setCell ⟨n2, 2, none⟩ (.int .i64 0)).setCell ⟨n2, 3, none⟩ (.int .i64 0)).setCell ⟨n2, 4, none⟩ (.int .i64 0)).setCell ⟨n2, 5, none⟩ (.int .i64 0)).setCell ⟨n2, 6, none⟩ (.slice none 0 0) = X at HF ⊢
          obtain ⟨c0, c1, c2, c3, c4, c5, c6, cl, hP⟩ := HF.out
          refine bodyPost_ret (v := .tuple #[.agg #[.slice none 0 0, .slice none 0 0, .int .i64 0, .int .i64 0, .int .i64 0, .int .i64 0, .slice none 0 0], .int .i64 4301]) (by simp [results, Tryz.results32, go_sem, c0, c1, c2, c3, c4, c5, c6]) rfl ?_
          exact hP
        | true =>
          have hbd : bd = false := by cases h : bd with | false => rfl | true => rw [h] at hval; cases hval
          obtain ⟨pd, hN, ho, hsz1, hsz2⟩ := HTV9.out hbd
          rw [hbd, Bool.not_false, Bool.true_and] at hval
          have HR3 : Hid ((if Fm.rightP pd = true then (⟨ng, (nx, ny, nz), pd, fs⟩, (0 : Int)) else (trajZ, 4301)) = res) := Lib.hid (by
            rw [← HR2.out, ho]
            simp only
            rw [hval, Bool.true_and])
          obtain ⟨op', np', oe', ne', f', nf', e1, p1, p2, -⟩ := hN.now
          have hPAT := PathV.at (p := pd) ⟨op', np', oe', ne', rfl, p1, p2⟩
          injection e1 with e1
          have e2 := congrArg (fun x => x[0]?) e1
          have e3 := congrArg (fun x => x[1]?) e1
          simp at e2 e3
          obtain ⟨rfl, rfl, rfl⟩ := e2
          obtain ⟨rfl, rfl, rfl⟩ := e3
          have H22 := Lib.hid (right22 W9 _ pd hPAT (by omega) (by omega))
          have HN9 := Lib.hid hN
          have HX79 := Lib.hid hx79
          have HX29 := Lib.hid hx29
          have HBW := Lib.hid hbW9
          have a0 := hx79.c 0 _ rfl
          have a1 := hx79.c 1 _ rfl
          have al := hx79.lt
          clear hval hN hx79 hx29 hbW9 hbd ho hsz1 hsz2 hPAT p1 p2 e1
          cases hrp : Fm.rightP pd with
          | false =>
            rw [hrp] at H22
            have HRN : Hid (res = (trajZ, 4301)) := Lib.hid (by rw [← HR3.out, hrp]; rfl)
            go_wp2_with fail
            refine H22.out.mono ?_
            rintro e Y ⟨rfl, hbY⟩
            have hx2Y := HX29.out.keep hbY
            have hbWY := below_call HBW.out hbY
            clear H22 a0 a1 al
            have HF := Lib.hid (HZE.out Y _ _ _ _ _ _ _ 4301 hx2Y HRN.out hbWY)
            have l2 := hx2Y.lt
            obtain ⟨y0, z0, y1, z1, y2, z2, y3, z3, y4, z4, y5, z5, y6, z6⟩ := facts7 hx2Y (.slice none 0 0) (.slice none 0 0) (.int .i64 0) (.int .i64 0) (.int .i64 0) (.int .i64 0)
            unfold zer7 set7 at HF
            clear hx2Y hbWY hbY
            go_wp2
            clear y0 z0 y1 z1 y2 z2 y3 z3 y4 z4 y5 z5 y6 z6 l2
            generalize ((((((Y.setCell ⟨n2, 0, none⟩ (.slice none 0 0)).setCell ⟨n2, 1, none⟩ (.slice none 0 0)).setCell ⟨n2, 2, none⟩ (.int .i64 0)).setCell ⟨n2, 3, none⟩ (.int .i64 0)).setCell ⟨n2, 4, none⟩ (.int .i64 0)).setCell ⟨n2, 5, none⟩ (.int .i64 0)).setCell ⟨n2, 6, none⟩ (.slice none 0 0) = X at HF ⊢
            obtain ⟨c0, c1, c2, c3, c4, c5, c6, cl, hP⟩ := HF.out
            refine bodyPost_ret (v := .tuple #[.agg #[.slice none 0 0, .slice none 0 0, .int .i64 0, .int .i64 0, .int .i64 0, .int .i64 0, .slice none 0 0], .int .i64 4301]) (by simp [results, Tryz.results32, go_sem, c0, c1, c2, c3, c4, c5, c6]) rfl ?_
            exact hP
          | true =>
            rw [hrp] at H22
            have HRN : Hid (res = (⟨ng, (nx, ny, nz), pd, fs⟩, 0)) := Lib.hid (by rw [← HR3.out, hrp]; rfl)
            go_wp2_with fail
            refine H22.out.mono ?_
            rintro e Y ⟨rfl, hbY⟩
            have hx2Y := HX29.out.keep hbY
            have hx7Y := HX79.out.keep hbY
            have hbWY := below_call HBW.out hbY
            have HNY := Lib.hid (New.keep HN9.out (AgI.of hbY))
            clear H22 a0 a1 al
            have a0 := hx7Y.c 0 _ rfl
            have a1 := hx7Y.c 1 _ rfl
            have a2 := hx7Y.c 2 _ rfl
            have a3 := hx7Y.c 3 _ rfl
            have a4 := hx7Y.c 4 _ rfl
            have a5 := hx7Y.c 5 _ rfl
            have a6 := hx7Y.c 6 _ rfl
            have al := hx7Y.lt
            have l2 := hx2Y.lt
            obtain ⟨y0, z0, y1, z1, y2, z2, y3, z3, y4, z4, y5, z5, y6, z6⟩ := facts7 hx2Y (.slice ao pd.pts.length co) (.slice ae pd.edges.length ce) (.int .i64 nx) (.int .i64 ny) (.int .i64 nz) (.int .i64 ng)
            have hnw := HN2.out
            have hz2 := HB2.out.size
            have hlw : n2 < W2.heap.size := by have := HZ6.out; omega
            have HF := Lib.hid (finT (X := set7 Y n2 (.slice ao pd.pts.length co) (.slice ae pd.edges.length ce) (.int .i64 nx) (.int .i64 ny) (.int .i64 nz) (.int .i64 ng) (.slice oF fs.length nf)) (W := W) (st7 hx2Y _ _ _ _ _ _ _) HRN.out (fun Z hZ => HNY.out Z fun j hj => by
              have h1 := hj.1; have h2 := hj.2
              rw [hZ j ⟨by omega, by rw [set7_size]; exact h2⟩]
              exact set7_blk Y n2 _ _ _ _ _ _ _ j (by omega)) (hbWY.trans (set7_below Y n2 W.heap.size (Nat.le_of_eq hnw.symm) _ _ _ _ _ _ _)))
            unfold set7 at HF
            clear hx2Y hx7Y hbWY hbY HNY hnw hz2 hlw hlb2
            go_wp2
            clear y0 z0 y1 z1 y2 z2 y3 z3 y4 z4 y5 z5 y6 z6 l2 a0 a1 a2 a3 a4 a5 a6 al
            generalize ((((((Y.setCell ⟨n2, 0, none⟩ (.slice ao pd.pts.length co)).setCell ⟨n2, 1, none⟩ (.slice ae pd.edges.length ce)).setCell ⟨n2, 2, none⟩ (.int .i64 nx)).setCell ⟨n2, 3, none⟩ (.int .i64 ny)).setCell ⟨n2, 4, none⟩ (.int .i64 nz)).setCell ⟨n2, 5, none⟩ (.int .i64 ng)).setCell ⟨n2, 6, none⟩ (.slice oF fs.length nf) = X at HF ⊢
            obtain ⟨c0, c1, c2, c3, c4, c5, c6, cl, hP⟩ := HF.out
            refine bodyPost_ret (v := .tuple #[.agg #[.slice ao pd.pts.length co, .slice ae pd.edges.length ce, .int .i64 nx, .int .i64 ny, .int .i64 nz, .int .i64 ng, .slice oF fs.length nf], .int .i64 0]) (by simp [results, Tryz.results32, go_sem, c0, c1, c2, c3, c4, c5, c6]) rfl ?_
            exact hP
end Go.Proofs.Ng
