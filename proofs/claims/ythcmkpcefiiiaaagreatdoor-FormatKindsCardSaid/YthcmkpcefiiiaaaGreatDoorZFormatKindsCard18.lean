/-
  Texts put together: Ea.
-/
import Derived.Test.YthcmkpcefiiiaaaGreatDoorZFormatKindsCard4
set_option linter.unusedVariables false
/-
  Trajectories in memory; walks: the writer's trajectory.
-/
namespace Go.Proofs.Ng
open Go.RowKit

/-- A profile in memory. -/
def ProfAt (W : World) (r : List Value) (x : Fm.ProfD) : Prop := ∃ ol nl os ns, r = [.slice ol x.levels.length nl, .slice os x.steps.length ns] ∧ Sl W ol 1 (pvals x.levels) ∧ Sl W os 1 (pvals x.steps)
structure Profs (W : World) (oa : Option Addr) (l : List Fm.ProfD) : Prop where
  ex : ∃ rows : List (List Value), rows.length = l.length ∧ Sl W oa 2 rows ∧ ∀ (k : Nat) (r : List Value) (x : Fm.ProfD), rows[k]? = some r → l[k]? = some x → ProfAt W r x
def TrajAt (W : World) (v : Value) (t : Fm.TrajD) : Prop := ∃ op np oe ne f nf, v = .agg #[.slice op t.path.pts.length np, .slice oe t.path.edges.length ne, .int .i64 t.grav.1, .int .i64 t.grav.2.1, .int .i64 t.grav.2.2, .int .i64 t.grid, .slice f t.profs.length nf] ∧ Pts W op t.path.pts ∧ Edges W oe t.path.edges ∧ Profs W f t.profs
theorem ProfAt.keep {W W' : World} {r : List Value} {u : Fm.ProfD} (h : ProfAt W r u) (hb : Below W.heap.size W W') : ProfAt W' r u := by
  obtain ⟨ol, nl, os, ns, e, h1, h2⟩ := h
  exact ⟨ol, nl, os, ns, e, h1.keep hb, h2.keep hb⟩
theorem Profs.keep {W W' : World} {oa : Option Addr} {l : List Fm.ProfD} (h : Profs W oa l) (hb : Below W.heap.size W W') : Profs W' oa l := by
  obtain ⟨rows, h1, h2, h3⟩ := h.ex
  exact ⟨rows, h1, h2.keep hb, fun k r u hr hu => (h3 k r u hr hu).keep hb⟩
theorem TrajAt.keep {W W' : World} {v : Value} {t : Fm.TrajD} (h : TrajAt W v t) (hb : Below W.heap.size W W') : TrajAt W' v t := by
  obtain ⟨op, np, oe, ne, f, nf, e, h1, h2, h3⟩ := h
  exact ⟨op, np, oe, ne, f, nf, e, h1.keep hb, h2.keep hb, h3.keep hb⟩
theorem Profs.get {W : World} {oa : Option Addr} {l : List Fm.ProfD} (h : Profs W oa l) {k : Nat} {u : Fm.ProfD} (hk : l[k]? = some u) :
    ∃ b off ol nl os ns, oa = some ⟨b, off, none⟩ ∧ b < W.heap.size ∧ W.cell? ⟨b, off + k * 2, none⟩ = some (.slice ol u.levels.length nl) ∧ W.cell? ⟨b, off + k * 2 + 1, none⟩ = some (.slice os u.steps.length ns) ∧ Sl W ol 1 (pvals u.levels) ∧ Sl W os 1 (pvals u.steps) := by
  obtain ⟨rows, h1, h2, h3⟩ := h.ex
  have hlt := (List.getElem?_eq_some_iff.1 hk).1
  obtain ⟨r, hr⟩ : ∃ r, rows[k]? = some r := ⟨_, List.getElem?_eq_getElem (by rw [h1]; exact hlt)⟩
  obtain ⟨ol, nl, os, ns, rfl, hs, hu⟩ := h3 k r u hr hk
  obtain ⟨b, off, e, ha⟩ := h2 (by rintro rfl; simp at hr)
  exact ⟨b, off, ol, nl, os, ns, e, ha.lt, ha.c k _ hr 0 _ rfl, ha.c k _ hr 1 _ rfl, hs, hu⟩
/-- Numbers within a box. -/
theorem Ns.box {W : World} {base b n : Nat} {cs : List Value} {ty : TypeId} (h : Bx W n cs ty) (ht : ty ≠ 5) (hne : n ≠ b) (off : Nat) (ns : List Int) (hc : ∀ i x, ns[i]? = some x → cs[off + i]? = some (.int .i64 x)) : Ns W base b (some ⟨n, off, none⟩) ns := by
  intro _
  refine ⟨n, off, rfl, ⟨h.lt, fun i r hi k v hv => ?_⟩, .inr ⟨hne, _, _, _, h.h, ht⟩⟩
  have hi' : ns[i]?.map (fun p => [Value.int .i64 p]) = some r := by simpa [pvals] using hi
  rw [Option.map_eq_some_iff] at hi'
  obtain ⟨x, hx, rfl⟩ := hi'
  have hk0 : k = 0 := by
    rcases Nat.eq_zero_or_pos k with h | h
    · exact h
    · rw [List.getElem?_eq_none (by simp; omega)] at hv; cases hv
  subst hk0
  simp at hv
  subst hv
  have := h.c (off + i) _ (hc i x hx)
  simpa using this
theorem profT_eq (x : Fm.ProfD) : Fm.profT x = Fm.lineT Fm.kwProfile [(x.levels.length : Nat), (x.steps.length : Nat)] ++ Fm.lineT Fm.kwLevels x.levels ++ Fm.lineT Fm.kwSteps x.steps := rfl
theorem trajT_eq (t : Fm.TrajD) : Fm.trajT t = Fm.kwTraj ++ numsT [t.grid] ++ numsT (Fm.vecL t.grav) ++ [10] ++ Fm.pathT t.path ++ flT Fm.profT t.profs := by
  unfold Fm.trajT
  rw [lineT_eq, show t.grid :: Fm.vecL t.grav = [t.grid] ++ Fm.vecL t.grav from rfl, numsT_app]
  simp only [List.append_assoc]
  rfl
theorem profT_pos (x : Fm.ProfD) : 1 ≤ (Fm.profT x).length := by
  rw [profT_eq, List.length_append, List.length_append]
  have := lineT_pos Fm.kwProfile [(x.levels.length : Nat), (x.steps.length : Nat)]
  omega
end Go.Proofs.Ng
