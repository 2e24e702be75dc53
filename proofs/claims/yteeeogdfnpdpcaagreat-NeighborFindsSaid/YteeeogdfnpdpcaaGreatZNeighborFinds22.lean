/-
  Texts put together: Ck Cg Cl Ch.
-/
import Derived.Test.YteeeogdfnpdpcaaGreatZNeighborFinds13
import Derived.Test.YteeeogdfnpdpcaaGreatZNeighborFinds14
import Derived.Test.YteeeogdfnpdpcaaGreatZNeighborFinds17
import Derived.Test.YteeeogdfnpdpcaaGreatZNeighborFinds18
set_option linter.unusedVariables false
section
/-
  Walks: the maker's Configs.
-/
namespace Go.Proofs.Ng
open Go.RowKit

theorem info31 : (Tryz.prog.info? 28).map (fun i => (i.zero, i.size, i.bytes)) = some (some (.slice none 0 0), 1, 24) := by kernel_rfl
theorem under22 : Tryz.prog.underlying 26 = some (.slice 28) := by kernel_rfl
/-- A row of points that grows. -/
structure PtsO (W : World) (base : Nat) (v : Value) (pts : List (List Int)) : Prop where
  ex : ∃ vs : List Value, vs.length = pts.length ∧ W.ownsRow base 28 1 v vs.length vs ∧ ∀ (k : Nat) (u : Value) (xs : List Int), vs[k]? = some u → pts[k]? = some xs → xs ≠ [] ∧ ∃ b off cap, u = .slice (some ⟨b, off, none⟩) xs.length cap ∧ RowsAt W b off 1 (pvals xs) ∧ base ≤ b ∧ v.ownBlock ≠ some b
theorem PtsO.nil (W : World) (base : Nat) : PtsO W base (.slice none 0 0) [] := ⟨[], rfl, World.ownsRow_nil _ _ _ _, fun k u xs h => by simp at h⟩
theorem PtsO.keep {W W' : World} {base : Nat} {v : Value} {pts : List (List Int)} (h : PtsO W base v pts) (hb : Below W.heap.size W W') : PtsO W' base v pts := by
  obtain ⟨vs, h1, h2, h3⟩ := h.ex
  refine ⟨vs, h1, own_keep h2 hb, fun k u xs hu hx => ?_⟩
  obtain ⟨a, b, off, cap, e, hr, h4, h5⟩ := h3 k u xs hu hx
  exact ⟨a, b, off, cap, e, hr.keep hb, h4, h5⟩
theorem PtsO.keepG {W W' : World} {base nS : Nat} {v : Value} {pts : List (List Int)} (h : PtsO W base v pts) (hg : W.grownBy W' (some nS)) (hn : nS < base) : PtsO W' base v pts := by
  obtain ⟨vs, h1, h2, h3⟩ := h.ex
  refine ⟨vs, h1, own_blk h2 fun g _ hl hb => hg.block g hl (fun e => by injection e with e; omega), fun k u xs hu hx => ?_⟩
  obtain ⟨a, b, off, cap, e, hr, h4, h5⟩ := h3 k u xs hu hx
  exact ⟨a, b, off, cap, e, hr.keepG hg (by omega), h4, h5⟩
theorem PtsO.low {W W' : World} {base : Nat} {v : Value} {pts : List (List Int)} (h : PtsO W base v pts) {r : Option Nat} (hg : W.grownBy W' r) (hr : ∀ g, r = some g → W.heap.size ≤ g) : PtsO W' base v pts := h.keep ⟨hg.os, hg.tape, hg.output, hg.size, fun k hk => hg.block k hk (fun e => by have := hr k e.symm; omega)⟩
/-- The row's values. -/
structure PtsV (W : World) (base : Nat) (v : Value) (pts : List (List Int)) (vs : List Value) : Prop where
  len : vs.length = pts.length
  own : W.ownsRow base 28 1 v pts.length vs
  row : ∀ (k : Nat) (u : Value) (xs : List Int), vs[k]? = some u → pts[k]? = some xs → xs ≠ [] ∧ ∃ b off cap, u = .slice (some ⟨b, off, none⟩) xs.length cap ∧ RowsAt W b off 1 (pvals xs) ∧ base ≤ b ∧ v.ownBlock ≠ some b
theorem PtsO.vals {W : World} {base : Nat} {v : Value} {pts : List (List Int)} (h : PtsO W base v pts) : ∃ vs, PtsV W base v pts vs := by
  obtain ⟨vs, h1, h2, h3⟩ := h.ex
  exact ⟨vs, h1, by rw [← h1]; exact h2, h3⟩
/-- One point more. -/
theorem PtsV.app {W W1 : World} {base b off cap : Nat} {v v' : Value} {pts : List (List Int)} {xs : List Int} {vs : List Value} (h : PtsV W base v pts vs) (hx : xs ≠ []) (hr : RowsAt W b off 1 (pvals xs)) (hb : base ≤ b) (hne : v.ownBlock ≠ some b)
    (ho : W1.ownsRow base 28 1 v' (pts.length + 1) (vs ++ [.slice (some ⟨b, off, none⟩) xs.length cap])) (hg : W.grownBy W1 v.ownBlock) (hv : v'.ownBlock = v.ownBlock ∨ v'.ownBlock = some W.heap.size) : PtsO W1 base v' (pts ++ [xs]) := by
  obtain ⟨h1, h2, h3⟩ := h
  have keep : ∀ {b off : Nat} {xs : List Int}, RowsAt W b off 1 (pvals xs) → v.ownBlock ≠ some b → RowsAt W1 b off 1 (pvals xs) ∧ v'.ownBlock ≠ some b := by
    intro b off xs hr hne
    refine ⟨⟨Nat.lt_of_lt_of_le hr.lt hg.size, fun i r hi k u hu => ?_⟩, ?_⟩
    · rw [← hr.c i r hi k u hu]
      simp [World.cell?, hg.block b hr.lt (fun e => hne e.symm)]
    · rcases hv with e | e
      · rw [e]; exact hne
      · rw [e]; intro e2; injection e2 with e2; have := hr.lt; omega
  refine ⟨vs ++ [.slice (some ⟨b, off, none⟩) xs.length cap], by simp [h1], by rw [List.length_append, h1]; exact ho, fun k u ys hu hy => ?_⟩
  rcases Nat.lt_or_ge k vs.length with hlt | hge
  · rw [List.getElem?_append_left hlt] at hu
    rw [List.getElem?_append_left (by omega)] at hy
    obtain ⟨a, b', off', cap', e, hr', h4, h5⟩ := h3 k u ys hu hy
    obtain ⟨k1, k2⟩ := keep hr' h5
    exact ⟨a, b', off', cap', e, k1, h4, k2⟩
  · have hk : k = vs.length := by
      have := (List.getElem?_eq_some_iff.1 hu).1
      simp at this; omega
    subst hk
    rw [List.getElem?_append_right (Nat.le_refl _), Nat.sub_self] at hu
    rw [h1, List.getElem?_append_right (Nat.le_refl _), Nat.sub_self] at hy
    simp at hu hy
    subst hu hy
    obtain ⟨k1, k2⟩ := keep hr hne
    exact ⟨hx, b, off, cap, rfl, k1, hb, k2⟩
/-- What it is in the end: a slice of points. -/
theorem PtsO.done {W : World} {base : Nat} {v : Value} {pts : List (List Int)} (h : PtsO W base v pts) : ∃ oa ca, v = .slice oa pts.length ca ∧ Pts W oa pts ∧ pts.length ≤ ca ∧ ∀ a, oa = some a → base ≤ a.block := by
  obtain ⟨vs, h1, h2, h3⟩ := h.ex
  have e : (vs.map fun u => [u]).flatten = vs := by
    clear h1 h2 h3
    induction vs with
    | nil => rfl
    | cons a r ih => simpa using ih
  obtain ⟨oa, ca, rfl, hs⟩ := own_rows (rows := vs.map fun u => [u]) (n := 1) (by intro r hr; simp at hr; obtain ⟨j, _, rfl⟩ := hr; rfl) (by rw [List.length_map, e]; exact h2)
  rw [List.length_map, h1] at h2 ⊢
  refine ⟨oa, ca, rfl, ⟨vs, h1, hs, fun k u xs hu hx => ?_⟩, (own_cap h2).1, own_fresh h2⟩
  obtain ⟨_, b, off, cap, e, hr, _, _⟩ := h3 k u xs hu hx
  exact ⟨_, cap, e, fun _ => ⟨b, off, rfl, hr⟩⟩
theorem PtsO.fresh {W W'' : World} {base : Nat} {v : Value} {pts : List (List Int)} (h : PtsO W base v pts) (hag : ∀ g, base ≤ g → g < W.heap.size → W''.heap[g]? = W.heap[g]?) : PtsO W'' base v pts := by
  obtain ⟨vs, h1, h2, h3⟩ := h.ex
  refine ⟨vs, h1, own_blk h2 fun g _ hl hb => hag g hb hl, fun k u xs hu hx => ?_⟩
  obtain ⟨a, b, off, cap, e, hr, h4, h5⟩ := h3 k u xs hu hx
  refine ⟨a, b, off, cap, e, ⟨?_, fun i r hi k v hv => ?_⟩, h4, h5⟩
  · have e2 := hag b h4 hr.lt
    rcases Nat.lt_or_ge b W''.heap.size with h | h
    · exact h
    · rw [Array.getElem?_eq_none h, Array.getElem?_eq_getElem hr.lt] at e2; cases e2
  · rw [← hr.c i r hi k v hv]
    simp [World.cell?, hag b h4 hr.lt]
/-- What Configs answers. -/
def CfgsP (js : List JV) (n : Nat) (w : World) (e : Ending) (W' : World) : Prop := ∃ (pts : List (List Int)) (oa : Option Addr) (ca : Nat), e = .returned (.slice oa pts.length ca) ∧ pts.length = n ∧ (∀ xs ∈ pts, xs.length = js.length ∧ inTo js xs) ∧ (∀ W'', (∀ g, w.heap.size ≤ g → g < W'.heap.size → W''.heap[g]? = W'.heap[g]?) → Pts W'' oa pts) ∧ Below w.heap.size w W'
/-- The world of Configs. -/
structure CsI (w Wb : World) (n3 nS : Nat) (rv : List Value) (os : Option Addr) (cap : Nat) (xs : List Int) (v : Value) (pts : List (List Int)) (W : World) : Prop where
  bel : Below w.heap.size w W
  r3 : Row W n3 rv
  src : Src W nS os cap xs
  pt : PtsO W Wb.heap.size v pts
  hb : Wb.heap.size ≤ W.heap.size
  h3 : w.heap.size ≤ n3
  h4 : n3 < nS
  h5 : nS < Wb.heap.size
theorem CsI.keep {w Wb W W' : World} {n3 nS : Nat} {rv : List Value} {os : Option Addr} {cap : Nat} {xs : List Int} {v : Value} {pts : List (List Int)} (h : CsI w Wb n3 nS rv os cap xs v pts W) (hb : Below W.heap.size W W') : CsI w Wb n3 nS rv os cap xs v pts W' :=
  ⟨below_call h.bel hb, h.r3.keep hb, h.src.keepB hb, h.pt.keep hb, Nat.le_trans h.hb hb.size, h.h3, h.h4, h.h5⟩
theorem CsI.call {w Wb W W' : World} {n3 nS : Nat} {rv : List Value} {os : Option Addr} {cap : Nat} {xs : List Int} {v : Value} {pts : List (List Int)} (h : CsI w Wb n3 nS rv os cap xs v pts W) (hg : W.grownBy W' (some nS)) (hS : Src W' nS os cap xs) : CsI w Wb n3 nS rv os cap xs v pts W' := by
  have h3 := h.h3; have h4 := h.h4; have h5 := h.h5
  have ne : ∀ k, k ≠ nS → k < W.heap.size → W'.heap[k]? = W.heap[k]? := fun k hk hl => hg.block k hl (fun e => hk (by injection e))
  refine ⟨⟨hg.os.trans h.bel.os, hg.tape.trans h.bel.tape, hg.output.trans h.bel.output, Nat.le_trans h.bel.size hg.size, fun k hk => (ne k (by omega) (Nat.lt_of_lt_of_le hk h.bel.size)).trans (h.bel.block k hk)⟩, ?_, hS, h.pt.keepG hg h5, Nat.le_trans h.hb hg.size, h3, h4, h5⟩
  have e := ne n3 (by omega) h.r3.lt
  refine ⟨fun j v hj => ?_, Nat.lt_of_lt_of_le h.r3.lt hg.size⟩
  rw [← h.r3.c j v hj]
  simp [World.cell?, e]
/-- Behind an append to a row that is newer than the points. -/
theorem CsI.raw {w Wb W W1 : World} {n3 nS base : Nat} {rv : List Value} {os : Option Addr} {cap : Nat} {xs : List Int} {v u : Value} {pts : List (List Int)} {ys : List Value} (h : CsI w Wb n3 nS rv os cap xs v pts W) (hi : Sl Wb os 1 (pvals xs)) (ho : W.ownsRow base 3 1 u ys.length ys) (hg : W.grownBy W1 u.ownBlock) (hbs : Wb.heap.size ≤ base) (hbw : base ≤ W.heap.size) (hp : ∀ W', Below base W W' → PtsO W' Wb.heap.size v pts) : CsI w Wb n3 nS rv os cap xs v pts W1 := by
  have h3 := h.h3; have h4 := h.h4; have h5 := h.h5
  have B := grown_below ho hg hbw
  exact ⟨h.bel.trans (B.mono (by have := h.bel.size; omega)), h.r3.low (by omega) B, h.src.low hi h5 (B.mono hbs), hp _ B, Nat.le_trans h.hb hg.size, h3, h4, h5⟩
end Go.Proofs.Ng
end

section
/-
  Walks: below: laws on append; the walk.
-/
namespace Go.Proofs.Ng
open Go.RowKit

section
variable {P : Program} (w : World)
theorem wp_append_none {o : Oper} {a : Act} {K : Act → World → Prop} {Q : Exit → Act → World → Prop} (s x : Operand) (t : TypeId)
    (ho : o.op = .call { callee := .builtin .append, args := #[s, x], argTypes := #[t, t] }) (base : Nat) (e : TypeId) (i : TypeInfo) (size : Nat) (ht : P.underlying t = some (.slice e)) (hi : P.info? e = some i)
    (v : Value) (n : Nat) (xs : List Value) (hs : a.eval s = v) (hown : w.ownsRow base e size v n xs) (hx : a.eval x = .slice none 0 0) (h : K (a.put o.dst v) w) : o.wp P a w K Q := by
  have hr := run_append_owned_none (P := P) w base t o.type e i size ht hi v n xs hown
  unfold Oper.wp execOp
  simp only [ho, resolve, invoke, builtin, Sem.run_bind, Sem.run_pure, Result.andThen_ok, List.map_toArray, List.map_cons, List.map_nil, hs, hx, hr]
  exact h
theorem wpList_append_none {ops : Array Oper} {rest : List Oper} {o : Oper} {a : Act} {Q : Exit → Act → World → Prop} (hgd : o.guard = none) (s x : Operand) (t : TypeId)
    (ho : o.op = .call { callee := .builtin .append, args := #[s, x], argTypes := #[t, t] }) (base : Nat) (e : TypeId) (i : TypeInfo) (size : Nat) (ht : P.underlying t = some (.slice e)) (hi : P.info? e = some i)
    (v : Value) (n : Nat) (xs : List Value) (hs : a.eval s = v) (hown : w.ownsRow base e size v n xs) (hx : a.eval x = .slice none 0 0) (h : wpList P ops Q rest (a.put o.dst v) w) : wpList P ops Q (o :: rest) a w :=
  wpList_plain hgd fun _ hK => wp_append_none w s x t ho base e i size ht hi v n xs hs hown hx (hK _ _ h)
theorem step_append_none {ops : Array Oper} {o : Oper} {a : Act} {K : Act → World → Prop} {Q : Exit → Act → World → Prop} {E : Prop} (hgd : o.guard = none) (s x : Operand) (t : TypeId)
    (ho : o.op = .call { callee := .builtin .append, args := #[s, x], argTypes := #[t, t] }) (base : Nat) (e : TypeId) (i : TypeInfo) (size : Nat) (ht : P.underlying t = some (.slice e)) (hi : P.info? e = some i)
    (v : Value) (n : Nat) (xs : List Value) (hs : a.eval s = v) (hown : w.ownsRow base e size v n xs) (hx : a.eval x = .slice none 0 0) (h : K (a.put o.dst v) w) :
    if Region.wanted o (yielded ops a.tmps) = true then Oper.wp P o a w K Q else E := by
  have hw : Region.wanted o (yielded ops a.tmps) = true := by simp [Region.wanted, hgd]
  rw [if_pos hw]
  exact wp_append_none w s x t ho base e i size ht hi v n xs hs hown hx h
end
/-- A slice that was built whole owns its row. -/
theorem own_built {w : World} {base g n : Nat} {e : TypeId} {cs : List Value} (hc : w.heap[g]? = some (.cells cs.toArray e)) (hb : base ≤ g) (hn : cs.length = n) (hm : n ≤ maxLen) : w.ownsRow base e 1 (.slice (some ⟨g, 0, none⟩) n n) n cs :=
  ⟨by omega, .inr ⟨g, n, cs.toArray, rfl, hb, hc, Nat.le_refl _, hm, by simp [hn], by simp [← hn]⟩⟩
/-- A new slice of numbers; nil where there is none. -/
def IntsP (l : List Int) (w : World) (e : Ending) (W : World) : Prop := ∃ (oa : Option Addr) (ca : Nat), e = .returned (.slice oa l.length ca) ∧ l.length ≤ ca ∧ (l = [] → oa = none ∧ ca = 0) ∧ Sl W oa 1 (pvals l) ∧ Below w.heap.size w W ∧ ∀ a, oa = some a → w.heap.size ≤ a.block
theorem pvals_one (l : List Int) : ∀ r ∈ pvals l, r.length = 1 := by intro r hr; simp [pvals] at hr; obtain ⟨j, _, rfl⟩ := hr; rfl
theorem own_ints {W W' : World} {v : Value} {l : List Int} (hl : l ≠ []) (ho : W'.ownsRow W.heap.size 3 1 v l.length (pflat l)) (hb : Below W.heap.size W W') : IntsP l W (.returned v) W' := by
  rw [← pvals_flat] at ho
  obtain ⟨oa, ca, rfl, hs⟩ := own_rows (pvals_one l) (by rw [pvals_len]; exact ho)
  rw [pvals_len] at ho ⊢
  exact ⟨oa, ca, rfl, (own_cap ho).1, fun h => absurd h hl, hs, hb, own_fresh ho⟩
/-- The cells of a slice of numbers, for an append. -/
theorem ints_news {W : World} {b off : Nat} {l : List Int} (h : RowsAt W b off 1 (pvals l)) : ∀ (j : Nat) (u : Value), (pflat l)[j]? = some u → W.cell? ((⟨b, off, none⟩ : Addr).add j) = some u := by
  intro j u hu
  unfold pflat at hu
  rw [List.getElem?_map, Option.map_eq_some_iff] at hu
  obtain ⟨x, hx, rfl⟩ := hu
  have := h.c j _ (pvals_get hx) 0 _ rfl
  have e : (⟨b, off, none⟩ : Addr).add j = ⟨b, off + j, none⟩ := by unfold Addr.add; split <;> simp_all
  rw [e]
  simpa using this
theorem pflat_cell (l : List Int) : ∀ u ∈ pflat l, u.oneCell' = true := by
  intro u hu
  simp [pflat] at hu
  obtain ⟨x, _, rfl⟩ := hu
  rfl
theorem pflat_len (l : List Int) : (pflat l).length = l.length := by simp [pflat]
theorem ints_nil {w W : World} {e : Ending} (h : IntsP [] w e W) : e = .returned (.slice none 0 0) ∧ Below w.heap.size w W := by
  obtain ⟨oa, ca, rfl, _, h2, _, h4, _⟩ := h
  obtain ⟨rfl, rfl⟩ := h2 rfl
  exact ⟨rfl, h4⟩
theorem ints_some {w W : World} {e : Ending} {l : List Int} (hl : l ≠ []) (h : IntsP l w e W) : ∃ b off ca, e = .returned (.slice (some ⟨b, off, none⟩) l.length ca) ∧ RowsAt W b off 1 (pvals l) ∧ Below w.heap.size w W ∧ w.heap.size ≤ b := by
  obtain ⟨oa, ca, rfl, _, _, h3, h4, h5⟩ := h
  obtain ⟨b, off, rfl, hr⟩ := h3 (by simpa [pvals] using hl)
  exact ⟨b, off, ca, rfl, hr, h4, h5 _ rfl⟩
/-- A slice of one that was built before a call, or behind it. -/
theorem one_before {W Xa : World} {x : Int} (hb : Below (W.drew.alloc (.cells #[.int .i64 x] 3)).heap.size (W.drew.alloc (.cells #[.int .i64 x] 3)) Xa) : Xa.ownsRow W.heap.size 3 1 (.slice (some ⟨W.heap.size, 0, none⟩) 1 1) 1 (pflat [x]) ∧ Below W.heap.size W Xa := by
  refine ⟨own_keep (own_built (heap_alloc_new W.drew _) (Nat.le_refl _) rfl (by unfold maxLen; omega)) hb, ?_⟩
  have h1 : Below W.heap.size W (W.drew.alloc (.cells #[.int .i64 x] 3)) := (Below.refl _ _).drew.alloc (Nat.le_refl _) _
  exact below_call h1 hb
theorem one_behind {W Xa : World} {x : Int} (hb : Below W.drew.heap.size W.drew Xa) : (Xa.alloc (.cells #[.int .i64 x] 3)).ownsRow W.heap.size 3 1 (.slice (some ⟨Xa.heap.size, 0, none⟩) 1 1) 1 (pflat [x]) ∧ Below W.heap.size W (Xa.alloc (.cells #[.int .i64 x] 3)) := by
  have h1 : Below W.heap.size W Xa := (Below.refl _ _).drew.trans hb
  exact ⟨own_built (heap_alloc_new Xa _) h1.size rfl (by unfold maxLen; omega), h1.alloc h1.size _⟩
def ptOf (t : List Nd) (j : Nat) : Int := (t[j]?.map Nd.pt).getD 0
def belowI (t : List Nd) (f : Nat) (i : Int) : List Int := (belowP t f i).map (ptOf t)
theorem belowI_neg (t : List Nd) (f : Nat) {i : Int} (h : i < 0) : belowI t f i = [] := by unfold belowI; rw [belowP_neg _ _ h]; rfl
theorem belowI_at {t : List Nd} {f i : Nat} {x : Nd} (h : t[i]? = some x) : belowI t (f + 1) (i : Nat) = x.pt :: (belowI t f x.lo ++ belowI t f x.hi) := by
  unfold belowI
  rw [belowP_at h]
  simp [ptOf, h]
theorem belowI_ne {t : List Nd} {f i : Nat} {x : Nd} (h : t[i]? = some x) : belowI t (f + 1) (i : Nat) ≠ [] := by rw [belowI_at h]; simp
set_option maxRecDepth 100000 in
set_option maxHeartbeats 4000000 in
theorem below35 {w0 : World} {ot : Option Addr} {ct : Nat} {t : List Nd} (hT : Sl w0 ot 4 (t.map Nd.vals)) (hup : Up t) (hn : t.length ≤ 1024) (hlen : ∀ (f : Nat) (i : Int), i < t.length → (t.length : Int) ≤ f + i ∨ i < 0 → (belowI t f i).length ≤ t.length) :
    ∀ (f : Nat) (i : Int) (W : World), -1 ≤ i → i < t.length → (t.length : Int) ≤ f + i ∨ i < 0 → Below w0.heap.size w0 W →
    Calls Tryz.prog 106 #[.slice ot t.length ct, .int .i64 i] W (IntsP (belowI t f i) W) := by
  intro f
  have neg : ∀ (f : Nat) (i : Int) (W : World), i < 0 → Calls Tryz.prog 106 #[.slice ot t.length ct, .int .i64 i] W (IntsP (belowI t f i) W) := by
    intro f i W h
    rw [belowI_neg t f h]
    have hd : decide (i < 0) = true := decide_eq_true h
    clear h
    go_enter Tryz.func106, Tryz.ntmps106
    go_wp2
    go_ret
    exact ⟨none, 0, rfl, Nat.le_refl _, fun _ => ⟨rfl, rfl⟩, fun h => absurd rfl h, Below.refl _ _, fun a h => by cases h⟩
  induction f with
  | zero =>
    intro i W h1 h2 h3 hB
    exact neg 0 i W (by omega)
  | succ f ih =>
    intro i W h1 h2 h3 hB
    by_cases h0 : i < 0
    · exact neg (f + 1) i W h0
    · clear neg
      obtain ⟨k, rfl⟩ : ∃ k : Nat, i = (k : Nat) := ⟨i.toNat, by omega⟩
      obtain ⟨x, hx⟩ : ∃ x, t[k]? = some x := ⟨_, List.getElem?_eq_getElem (by omega)⟩
      obtain ⟨hl, hh⟩ := hup k x hx
      have hle := hlen (f + 1) (k : Nat) h2 h3
      rw [belowI_at hx] at hle ⊢
      unfold inR at hl hh
      obtain ⟨bt, offt, rfl, hTr⟩ := hT (map_ne (k := k) (by omega))
      have hTr2 := hTr.keep hB
      obtain ⟨xp, xa, xl, xh⟩ := x
      simp only at hl hh hle ⊢
      have x0 : W.cell? ⟨bt, offt + k * 4, none⟩ = some (.int .i64 xp) := hTr2.c k _ (map_get hx) 0 _ rfl
      have x2 : W.cell? ⟨bt, offt + k * 4 + 2, none⟩ = some (.int .i64 xl) := hTr2.c k _ (map_get hx) 2 _ rfl
      have x3 : W.cell? ⟨bt, offt + k * 4 + 3, none⟩ = some (.int .i64 xh) := hTr2.c k _ (map_get hx) 3 _ rfl
      have lt0 := hTr2.lt
      have hlow := fun X hX => ih xl X (by omega) (by omega) (by omega) (below_call hB hX)
      have hhigh := fun X hX => ih xh X (by omega) (by omega) (by omega) (below_call hB hX)
      have hkl : (k : Int) < (t.length : Int) := by omega
      generalize belowI t f xl = L at hlow hle ⊢
      generalize belowI t f xh = R at hhigh hle ⊢
      simp only [List.length_cons, List.length_append] at hle
      have HLO := Lib.hid hlow
      have HX := Lib.hid hx
      have HHI := Lib.hid hhigh
      have HT0 := Lib.hid hTr2
      have HB0 := Lib.hid hB
      have HLL := Lib.hid hle
      clear hlow hhigh ih hl hh hTr hTr2 hx hlen hT hB h0 h1 h2 h3 hle
      go_enter Tryz.func106, Tryz.ntmps106
      go_upto_region 3 with fail
      obtain ⟨i0, hi, hz0, hz1, hz2⟩ := info_parts info3
      go_cut [5] (fun y X => X.ownsRow W.heap.size 3 1 y (1 + L.length) (pflat (xp :: L)) ∧ Below W.heap.size W X)
      case first =>
        by_cases hL : L = []
        · subst hL
          go_region_law (first
            | (go_simp
               go_at_call 106
               refine (HLO.out _ (by first | exact (Below.refl _ _).drew | exact (Below.refl _ _).drew.alloc (Nat.le_refl _) _)).mono ?_
               intro e Xa hxa
               obtain ⟨rfl, hb⟩ := ints_nil hxa
               have hw : Below W.heap.size W Xa := by first | exact (one_before hb).2 | exact (Below.refl _ _).drew.trans hb
               have c0 : Xa.cell? ⟨bt, offt + k * 4, none⟩ = some (.int .i64 xp) := (HT0.out.keep hw).c k _ (map_get HX.out) 0 _ rfl
               have lt1 := (HT0.out.keep hw).lt
               clear hw)
            | (refine step_append_none _ rfl (.tmp 13) (.tmp 20) 29 rfl W.heap.size 3 i0 1 under24 hi _ 1 (pflat [xp]) rfl (one_before hb).1 (by simp [Act.eval]) ?_
               have hf := one_before hb)
            | (refine step_append_none _ rfl (.tmp 13) (.tmp 20) 29 rfl W.heap.size 3 i0 1 under24 hi _ 1 (pflat [xp]) rfl (one_behind hb).1 (by simp [Act.eval]) ?_
               have hf := one_behind (x := xp) hb))
          all_goals
            go_wp2_with fail
            go_meet
            exact hf
        · have hmx : 1 + L.length ≤ 1024 := by have := HLL.out; omega
          have hL0 : 0 < L.length := List.length_pos_iff.2 hL
          have HNE := Lib.hid hL
          clear hL
          go_region_law (first
            | (go_simp
               go_at_call 106
               refine (HLO.out _ (by first | exact (Below.refl _ _).drew | exact (Below.refl _ _).drew.alloc (Nat.le_refl _) _)).mono ?_
               intro e Xa hxa
               obtain ⟨b, off, ca, rfl, hr, hb, hbl⟩ := ints_some HNE.out hxa
               have hw : Below W.heap.size W Xa := by first | exact (one_before hb).2 | exact (Below.refl _ _).drew.trans hb
               have c0 : Xa.cell? ⟨bt, offt + k * 4, none⟩ = some (.int .i64 xp) := (HT0.out.keep hw).c k _ (map_get HX.out) 0 _ rfl
               have lt1 := (HT0.out.keep hw).lt
               clear hw)
            | (refine step_append_lies _ rfl (.tmp 13) (.tmp 20) 29 rfl W.heap.size 3 i0 (.int .i64 0) 1 8 under24 hi hz0 hz1 hz2 rfl (by decide) _ 1 (pflat [xp]) rfl (one_before hb).1 ⟨b, off, none⟩ L.length ca (pflat L) (by simp [Act.eval]) (by rw [pflat_len, Nat.mul_one]) (ints_news hr) (pflat_cell L) hL0 (by unfold maxLen; omega) (by omega) (one_before hb).2.size _ rfl ?_
               intro g cg W3 hown hgrow hat hlt3
               have hf : W3.ownsRow W.heap.size 3 1 (.slice (some ⟨g, 0, none⟩) (1 + L.length) cg) (1 + L.length) (pflat (xp :: L)) ∧ Below W.heap.size W W3 := ⟨hown, (one_before hb).2.trans (grown_below (one_before hb).1 hgrow (one_before hb).2.size)⟩
               clear hown hgrow hat)
            | (refine step_append_lies _ rfl (.tmp 13) (.tmp 20) 29 rfl W.heap.size 3 i0 (.int .i64 0) 1 8 under24 hi hz0 hz1 hz2 rfl (by decide) _ 1 (pflat [xp]) rfl (one_behind hb).1 ⟨b, off, none⟩ L.length ca (pflat L) (by simp [Act.eval]) (by rw [pflat_len, Nat.mul_one]) (ints_news (hr.keep ((Below.refl _ _).alloc (Nat.le_refl _) _))) (pflat_cell L) hL0 (by unfold maxLen; omega) (by omega) (one_behind (x := xp) hb).2.size _ rfl ?_
               intro g cg W3 hown hgrow hat hlt3
               have hf : W3.ownsRow W.heap.size 3 1 (.slice (some ⟨g, 0, none⟩) (1 + L.length) cg) (1 + L.length) (pflat (xp :: L)) ∧ Below W.heap.size W W3 := ⟨hown, (one_behind hb).2.trans (grown_below (one_behind hb).1 hgrow (one_behind (x := xp) hb).2.size)⟩
               clear hown hgrow hat))
          all_goals
            go_wp2_with fail
            go_meet
            exact hf
      case rest =>
        obtain ⟨hown, hb⟩ := hcut
        obtain ⟨g5, c5, rfl⟩ := own_some hown (by omega)
        have hT5 := HT0.out.keep hb
        have x0 := hT5.c k _ (map_get HX.out) 0 _ rfl
        have x3 : wc.cell? ⟨bt, offt + k * 4 + 3, none⟩ = some (.int .i64 xh) := hT5.c k _ (map_get HX.out) 3 _ rfl
        have lt0 := hT5.lt
        have HR := Lib.hid (HHI.out wc hb)
        have HOW := Lib.hid hown
        have HB := Lib.hid hb
        clear hown hb hT5 x0 HLO HHI HT0
        by_cases hR : R = []
        · subst hR
          go_wp2_with fail
          refine HR.out.mono ?_
          intro e Xa hxa
          obtain ⟨rfl, hb⟩ := ints_nil hxa
          have ho := own_keep HOW.out hb
          have HF : Hid (IntsP (xp :: L) W (.returned (.slice (some ⟨g5, 0, none⟩) (1 + L.length) c5)) Xa) := Lib.hid (own_ints (W := W) (l := xp :: L) (by simp) (by rw [show (xp :: L).length = 1 + L.length by rw [List.length_cons, Nat.add_comm]]; exact ho) (below_call HB.out hb))
          have HO := Lib.hid ho
          clear ho hxa hb
          go_wp2_with (at_builtin; refine wpList_append_none _ rfl _ _ 29 rfl W.heap.size 3 i0 1 under24 hi _ (1 + L.length) (pflat (xp :: L)) rfl HO.out (by simp [Act.eval]) ?_)
          go_ret
          rw [List.append_nil]
          exact HF.out
        · have hmx : 1 + L.length + R.length ≤ 1024 := by have := HLL.out; omega
          have hL0 : 0 < R.length := List.length_pos_iff.2 hR
          have HNE := Lib.hid hR
          clear hR
          go_wp2_with fail
          refine HR.out.mono ?_
          intro e Xa hxa
          obtain ⟨b, off, ca, rfl, hr, hb, hbl⟩ := ints_some HNE.out hxa
          have HO := Lib.hid (own_keep HOW.out hb)
          have HB2 := Lib.hid (below_call HB.out hb)
          have HRR := Lib.hid hr
          clear hxa hb hr
          go_wp2_with (at_builtin; refine wpList_append_lies _ rfl _ _ 29 rfl W.heap.size 3 i0 (.int .i64 0) 1 8 under24 hi hz0 hz1 hz2 rfl (by decide) _ (1 + L.length) (pflat (xp :: L)) rfl HO.out ⟨b, off, none⟩ R.length ca (pflat R) (by simp [Act.eval]) (by rw [pflat_len, Nat.mul_one]) (ints_news HRR.out) (pflat_cell R) hL0 (by unfold maxLen; omega) (by omega) HB2.out.size _ rfl ?_)
          intro g cg W3 hown hgrow hat hlt3
          have e1 : pflat (xp :: L) ++ pflat R = pflat (xp :: (L ++ R)) := by simp [pflat]
          have e2 : (xp :: (L ++ R)).length = 1 + L.length + R.length := by simp; omega
          have HF : Hid (IntsP (xp :: (L ++ R)) W (.returned (.slice (some ⟨g, 0, none⟩) (1 + L.length + R.length) cg)) W3) := Lib.hid (own_ints (W := W) (l := xp :: (L ++ R)) (by simp) (by rw [e2, ← e1]; exact hown) (HB2.out.trans (grown_below HO.out hgrow HB2.out.size)))
          clear hown hgrow hat
          go_wp2_with fail
          go_ret
          exact HF.out
end Go.Proofs.Ng
end

section
/-
  Walks: the maker's Configs: the walk.
-/
namespace Go.Proofs.Ng
open Go.RowKit

set_option maxRecDepth 100000 in
set_option maxHeartbeats 4000000 in
theorem configs22 (oa om os : Option Addr) (cj cm cap n : Nat) (js : List JV) (nm : Nat) (xs : List Int) (w : World) (hn : n ≤ 1000) (hj1 : 1 ≤ js.length) (hj : js.length ≤ 100) (hbd : ∀ (k : Nat) (j : JV), js[k]? = some j → -1000000000 ≤ j.lo ∧ j.lo ≤ j.hi ∧ j.hi ≤ 1000000000) (hJ : Sl w oa 12 (js.map JV.vals)) (hI : Sl w os 1 (pvals xs)) (hl : xs.length ≤ 9223372036854775807) :
    Calls Tryz.prog 21 #[.agg #[.slice oa js.length cj, .slice om nm cm], .int .i64 (n : Nat), .slice os xs.length cap] w (CfgsP js n w) := by
  have HBD := Lib.hid hbd
  have HJ := Lib.hid hJ
  clear hbd hJ
  go_enter Tryz.func21, Tryz.ntmps21
  go_wp2_with fail
  have hB0 : Below w.heap.size w (w.alloc (.cells #[.slice oa js.length cj, .slice om nm cm] 25)) := (Below.refl _ _).alloc (Nat.le_refl _) _
  have r0 := Row.new w [.slice oa js.length cj, .slice om nm cm] 25
  have hI0 := hI.keep hB0
  generalize (w.alloc (.cells #[.slice oa js.length cj, .slice om nm cm] 25)) = W0 at hB0 r0 hI0 ⊢
  generalize hn3 : w.heap.size = n3 at r0 ⊢
  have HN := Lib.hid hn3
  clear hn3
  refine (from_any os cap xs.length W0).mono ?_
  rintro e W1 ⟨rfl, rfl⟩
  have hS := src_new W0 os cap xs hI0 hl
  have hB1 : Below W0.heap.size W0 (W0.alloc (.cells #[.slice os xs.length cap, .int .i64 0] 107)) := (Below.refl _ _).alloc (Nat.le_refl _) _
  have hC : CsI w (W0.alloc (.cells #[.slice os xs.length cap, .int .i64 0] 107)) n3 W0.heap.size [.slice oa js.length cj, .slice om nm cm] os cap xs (.slice none 0 0) [] (W0.alloc (.cells #[.slice os xs.length cap, .int .i64 0] 107)) :=
    ⟨below_call hB0 hB1, r0.keep hB1, hS, PtsO.nil _ _, Nat.le_refl _, Nat.le_of_eq HN.out, r0.lt, src_lt hS⟩
  clear hB0 hB1 hS r0 hI0 HN hI
  generalize (W0.alloc (.cells #[.slice os xs.length cap, .int .i64 0] 107)) = W1 at hC ⊢
  generalize W0.heap.size = nS at hC ⊢
  have HI1 := Lib.hid hC.src.ints
  go_wp2_with fail
  go_loopw [8, 9] (fun v i W => ∃ pts : List (List Int), pts.length ≤ n ∧ i = .int .i64 (pts.length : Nat) ∧ CsI w W1 n3 nS [.slice oa js.length cj, .slice om nm cm] os cap xs v pts W ∧ ∀ p ∈ pts, p.length = js.length ∧ inTo js p) (fun _ i _ => n - (intOf i).toNat)
  case atStart => exact ⟨[], by simp, rfl, hC, by simp⟩
  case round =>
    clear hC
    obtain ⟨pts, hk, rfl, hC, hgood⟩ := hrel
    obtain ⟨Wr, rfl⟩ : ∃ X, X = wr := ⟨_, rfl⟩
    have HGO := Lib.hid hgood
    clear hgood
    by_cases hlt : pts.length < n
    · have hi0 := hC.src.ints
      have HI0 := Lib.hid hi0
      have h5 := hC.h5
      have hbw := hC.hb
      have hsr := hC.src
      have HC := Lib.hid hC
      have hkn : (pts.length : Int) < (n : Int) := by omega
      clear hC hi0
      go_wp2_with fail
      go_loopw [10, 11] (fun u i W => ∃ ys : List Int, ys.length ≤ 2 * js.length ∧ i = .int .i64 (ys.length : Nat) ∧ Wr.grownBy W (some nS) ∧ Src W nS os cap xs ∧ W.ownsRow Wr.heap.size 3 1 u ys.length (pflat ys)) (fun _ i _ => 2 * js.length - (intOf i).toNat)
      case atStart => exact ⟨[], by simp, rfl, World.grownBy.refl _ _, hsr, World.ownsRow_nil _ _ _ _⟩
      case round =>
        clear hsr
        obtain ⟨ys, hy, rfl, hg, hsr, hown⟩ := hrel
        obtain ⟨Wb, rfl⟩ : ∃ X, X = wr := ⟨_, rfl⟩
        have hCb := HC.out.call hg hsr
        have s0 : Wb.cell? ⟨n3, 0, none⟩ = some (.slice oa js.length cj) := hCb.r3.c 0 _ rfl
        have s1 : Wb.cell? ⟨n3, 1, none⟩ = some (.slice om nm cm) := hCb.r3.c 1 _ rfl
        have l3 := hCb.r3.lt
        have hw2 : IntKind.i64.wrap (2 * (js.length : Int)) = 2 * (js.length : Int) := IntWalk.i64_in _ (by omega)
        by_cases hly : ys.length < 2 * js.length
        · have hyn : (ys.length : Int) < 2 * (js.length : Int) := by omega
          have hyd : decide ((ys.length : Int) < 2 * (js.length : Int)) = true := decide_eq_true hyn
          have HG := Lib.hid hg
          have HO := Lib.hid hown
          clear hCb hg hown
          go_wp2_with fail
          refine (next_any _ nS os cap xs 1048576 hsr (by omega) (by omega)).mono ?_
          rintro e W2 ⟨z, z1, z2, rfl, hg2, hS2⟩
          have hg3 := grown_trans HG.out hg2
          have ho2 := own_blk (W' := W2) HO.out (fun g _ hl hb => hg2.block g hl (fun e => by injection e with e; omega))
          have hb2 : Below W2.heap.size W2 (W2.alloc (.cells #[.int .i64 z] 3)) := (Below.refl _ _).alloc (Nat.le_refl _) _
          have HO2 := Lib.hid (own_keep ho2 hb2)
          have HG3 := Lib.hid (grown_trans hg3 (grown_of_below hb2))
          have HS3 := Lib.hid (hS2.keepB hb2)
          obtain ⟨i0, hi, hz0, hz1, hz2⟩ := info_parts info3
          clear hg2 hS2 hg3 ho2 hb2 HO HG s0 s1 l3 hsr
          go_wp2_with (at_builtin; refine wpList_append_own _ rfl _ _ 29 rfl Wr.heap.size 3 i0 (.int .i64 0) 1 8 under24 hi hz0 hz1 hz2 rfl (by decide) _ _ _ rfl HO2.out ⟨W2.heap.size, 0, none⟩ 1 1 [.int .i64 z] rfl rfl ?c1 ?c2 ?c3 ?c4 ?c5 ?_)
          case c1 => exact new_cells _ _ _
          case c2 => intro u hu; simp at hu; subst hu; rfl
          case c3 => unfold maxLen; omega
          case c4 => omega
          case c5 => exact HG3.out.size
          intro v' w' hown' hgrow _
          have B := grown_below HO2.out hgrow HG3.out.size
          have hg4 := grown_chain HG3.out hgrow (fun g hg => .inr (own_lt HO2.out g hg).2)
          have HG4 := Lib.hid hg4
          have HS4 := Lib.hid (HS3.out.low HI0.out (by omega) B)
          have HO4 : Hid (w'.ownsRow Wr.heap.size 3 1 v' (ys ++ [z]).length (pflat (ys ++ [z]))) := Lib.hid (by
            rw [List.length_append, pflat, List.map_append]; exact hown')
          clear hown' hgrow B hg4 HO2 HG3 HS3 hi hz0 hz1 hz2
          go_wp2_with fail
          go_roundw
          case rel => exact ⟨ys ++ [z], by simp; omega, by simp, HG4.out, HS4.out, HO4.out⟩
          case measure => simp [intOf]; omega
        · have hyn : ¬ ((ys.length : Int) < 2 * (js.length : Int)) := by omega
          have hyd : decide ((ys.length : Int) < 2 * (js.length : Int)) = false := decide_eq_false hyn
          obtain ⟨oy, cy, rfl, hY⟩ := own_rows (pvals_one ys) (by rw [pvals_len, pvals_flat]; exact hown)
          rw [pvals_len] at hown ⊢
          have hcfg := config_new oa om oy cj cm cy js nm ys Wb hj HBD.out (HJ.out.keep hCb.bel) hY (by omega)
          have HCF := Lib.hid hcfg
          have HCB := Lib.hid hCb
          clear hcfg hCb hg hown hY hsr
          go_wp2_with fail
          with_reducible refine HCF.out.mono ?_
          rintro e W3 ⟨p, o3, c3, rfl, hpl, hin, hSp, hb3, hfr⟩
          have hpne : p ≠ [] := fun e => by rw [e] at hpl; simp at hpl; omega
          obtain ⟨b3, off3, rfl, hr3⟩ := hSp (by simpa [pvals] using hpne)
          have hlow := hfr _ rfl
          have hC3 := HCB.out.keep hb3
          have hb4 : Below W3.heap.size W3 (W3.alloc (.cells #[.slice (some ⟨b3, off3, none⟩) p.length c3] 28)) := (Below.refl _ _).alloc (Nat.le_refl _) _
          have hC4 := hC3.keep hb4
          have hr4 := hr3.keep hb4
          obtain ⟨i0, hi, hz0, hz1, hz2⟩ := info_parts info31
          obtain ⟨vs, hvs⟩ := hC4.pt.vals
          have HPT := Lib.hid hvs
          have hvb : ∀ g, Value.ownBlock _ = some g → g < Wb.heap.size := fun g hg => by
            obtain ⟨vs, hvs⟩ := HCB.out.pt.vals
            exact (own_lt hvs.own g hg).1
          have HVB := Lib.hid hvb
          have HR4 := Lib.hid hr4
          have HC4 := Lib.hid hC4
          have HLO := Lib.hid hlow
          have HP := Lib.hid (show p.length = js.length ∧ inTo js p from ⟨hpl, hin⟩)
          have HNE := Lib.hid hpne
          clear hvs hC3 hC4 hb3 hb4 hr3 hr4 hvb hSp hfr hlow hpne hin hpl HCF
          go_wp2_with (at_builtin; refine wpList_append_own_at _ rfl _ _ 26 rfl W1.heap.size 28 i0 (.slice none 0 0) 1 24 under22 hi hz0 hz1 hz2 rfl (by decide) _ _ _ rfl HPT.out.own ⟨W3.heap.size, 0, none⟩ 1 1 [.slice (some ⟨b3, off3, none⟩) p.length c3] rfl rfl ?c1 ?c2 ?c3 ?c4 ?c5 ?_)
          case c1 => exact new_cells _ _ _
          case c2 => intro u hu; simp at hu; subst hu; rfl
          case c3 => unfold maxLen; omega
          case c4 => omega
          case c5 => exact HC4.out.hb
          intro v1 W5 ho5 hg5 hn5 hob5
          have B := grown_below HPT.out.own hg5 HC4.out.hb
          have hsz : (W3.alloc (.cells #[.slice (some ⟨b3, off3, none⟩) p.length c3] 28)).heap.size = W3.heap.size + 1 := by simp
          have hpt5 := HPT.out.app (cap := c3) HNE.out HR4.out (by have := HLO.out; have := HCB.out.hb; omega) (fun e => by have := HVB.out _ e; have := HLO.out; omega) ho5 hg5 (by rw [hsz]; exact hob5)
          have HC5 : Hid (CsI w W1 n3 nS [.slice oa js.length cj, .slice om nm cm] os cap xs v1 (pts ++ [p]) W5) := Lib.hid ⟨HC4.out.bel.trans (B.mono (by have := HC4.out.h3; have := HC4.out.h4; omega)), HC4.out.r3.low (by have := HC4.out.h4; omega) B, HC4.out.src.low HI1.out h5 B, hpt5, Nat.le_trans HC4.out.hb hg5.size, HC4.out.h3, HC4.out.h4, h5⟩
          clear B hsz hpt5 ho5 hg5 hn5 hob5 HPT HC4 HR4 hi hz0 hz1 hz2
          go_wp2_with fail
          go_roundw
          case rel =>
            refine ⟨pts ++ [p], by simp; omega, by simp, HC5.out, fun q hq => ?_⟩
            rw [List.mem_append, List.mem_singleton] at hq
            rcases hq with hq | rfl
            · exact HGO.out q hq
            · exact HP.out
          case measure => simp [intOf]; omega
    · have hke : pts.length = n := by omega
      have hpt := hC.pt
      obtain ⟨o', c', rfl, -, -, -⟩ := hpt.done
      have HF : Hid (CfgsP js n w (.returned (.slice o' n c')) Wr) := Lib.hid ⟨pts, o', c', by rw [hke], hke, HGO.out, fun W'' hag => by
        have h1 := hC.h3; have h2 := hC.h4; have h3 := hC.h5
        obtain ⟨o2, c2, e, hP, -, -⟩ := (hpt.fresh (W'' := W'') fun g hg hl => hag g (by omega) hl).done
        injection e with e _ _
        subst e
        exact hP, hC.bel⟩
      have hkn : ¬ ((pts.length : Int) < (n : Int)) := by omega
      clear hC hpt
      go_wp2_with fail
      go_ret
      exact HF.out
end Go.Proofs.Ng
end

section
/-
  Walks: the reference's ValidTree: plain facts.
-/
namespace Go.Proofs.Ng
open Go.RowKit

theorem mem_belowI {t : List Nd} (hup : Up t) {f : Nat} {i p : Int} (h1 : i < t.length) (h2 : (t.length : Int) ≤ f + i ∨ i < 0) : p ∈ belowI t f i ↔ ∃ (j : Nat) (y : Nd), t[j]? = some y ∧ y.pt = p ∧ 0 ≤ i ∧ Dn t i.toNat j := by
  unfold belowI
  rw [List.mem_map]
  constructor
  · rintro ⟨j, hj, rfl⟩
    rw [mem_belowP hup f i j h1 h2] at hj
    have hl := hj.2.lt hup (by omega)
    exact ⟨j, t[j], List.getElem?_eq_getElem hl, by simp [ptOf, hl], hj.1, hj.2⟩
  · rintro ⟨j, y, hy, rfl, h0, hd⟩
    exact ⟨j, (mem_belowP hup f i j h1 h2).2 ⟨h0, hd⟩, by simp [ptOf, hy]⟩
theorem belowI_len {d : Nat} {t : List Nd} (h : KdS d t) (f : Nat) (i : Int) (h1 : i < t.length) (h2 : (t.length : Int) ≤ f + i ∨ i < 0) : (belowI t f i).length ≤ t.length := by
  unfold belowI
  rw [List.length_map]
  exact belowP_len h.up h.uniq h.diff f i h1 h2
/-- The elements are points. -/
theorem belowI_pt {d : Nat} {t : List Nd} (h : KdS d t) {f : Nat} {i : Int} (h1 : i < t.length) (h2 : (t.length : Int) ≤ f + i ∨ i < 0) {m : Nat} {p : Int} (hm : (belowI t f i)[m]? = some p) : ∃ q : Nat, p = (q : Nat) ∧ q < t.length := by
  obtain ⟨j, y, hy, rfl, _, _⟩ := (mem_belowI h.up h1 h2).1 (List.mem_of_getElem? hm)
  have := h.ok j y hy
  have a := this.p0
  have b := this.p1
  exact ⟨y.pt.toNat, by omega, by omega⟩
/-- All nodes below u are on their side. -/
def SideU (pts : List (List Int)) (t : List Nd) (u : Nat) : Prop := ∀ (x : Nd) (j : Nat) (y : Nd), t[u]? = some x → t[j]? = some y → Side pts t u x j y
theorem sideU_iff {d : Nat} {pts : List (List Int)} {t : List Nd} (h : KdS d t) {u a pu : Nat} {xl xh : Int} (hx : t[u]? = some ⟨(pu : Nat), (a : Nat), xl, xh⟩) :
    SideU pts t u ↔ (∀ q : Nat, ((q : Nat) : Int) ∈ belowI t t.length xl → bef pts a q pu = true) ∧ (∀ q : Nat, ((q : Nat) : Int) ∈ belowI t t.length xh → bef pts a pu q = true) := by
  have ho := h.ok u _ hx
  have hl := ho.lo
  have hh := ho.hi
  simp only at hl hh
  unfold inR at hl hh
  have ml := fun p => mem_belowI h.up (f := t.length) (i := xl) (p := p) (by omega) (by omega)
  have mh := fun p => mem_belowI h.up (f := t.length) (i := xh) (p := p) (by omega) (by omega)
  constructor
  · intro hs
    refine ⟨fun q hq => ?_, fun q hq => ?_⟩
    · obtain ⟨j, y, hy, hp, h0, hd⟩ := (ml _).1 hq
      have := (hs _ j y hx hy).1 xl.toNat (by simp only; omega) hd
      rw [hp] at this
      simpa using this
    · obtain ⟨j, y, hy, hp, h0, hd⟩ := (mh _).1 hq
      have := (hs _ j y hx hy).2 xh.toNat (by simp only; omega) hd
      rw [hp] at this
      simpa using this
  · rintro ⟨h1, h2⟩ x j y hx' hy
    rw [hx] at hx'; injection hx' with hx'; subst hx'
    have hy0 := (h.ok j y hy).p0
    refine ⟨fun c e hd => ?_, fun c e hd => ?_⟩
    · simp only at e ⊢
      simp only [Int.toNat_natCast]
      exact h1 _ ((ml _).2 ⟨j, y, hy, by omega, by omega, by rw [e]; exact hd⟩)
    · simp only at e ⊢
      simp only [Int.toNat_natCast]
      exact h2 _ ((mh _).2 ⟨j, y, hy, by omega, by omega, by rw [e]; exact hd⟩)
theorem kdO_of {pts : List (List Int)} {t : List Nd} (h : ∀ u, u < t.length → SideU pts t u) : KdO pts t := fun u x j y hx hy => h u (List.getElem?_eq_some_iff.1 hx).1 x j y hx hy
/-- The links that have been counted. -/
def cnK (cn ch : List Int) (k : Nat) : List Int := (ch.take k).foldl cn1 cn
theorem cnK_zero (cn ch : List Int) : cnK cn ch 0 = cn := rfl
theorem cnK_two (cn : List Int) (a b : Int) : cnK cn [a, b] 2 = cn1 (cn1 cn a) b := rfl
theorem cnK_succ {cn ch : List Int} {k : Nat} {c : Int} (h : ch[k]? = some c) : cnK cn ch (k + 1) = cn1 (cnK cn ch k) c := by
  unfold cnK; rw [List.take_add_one, h]; simp
theorem cnK_len (cn ch : List Int) (k : Nat) : (cnK cn ch k).length = cn.length := by
  unfold cnK
  generalize ch.take k = l
  induction l generalizing cn with
  | nil => rfl
  | cons a r ih => rw [List.foldl_cons, ih, cn1_len]
/-- The counts stay small. -/
theorem cn1_le {cn : List Int} {c : Int} {j : Nat} {v : Int} (B : Int) (h : ∀ (j : Nat) (v : Int), cn[j]? = some v → 0 ≤ v ∧ v ≤ B) (hj : (cn1 cn c)[j]? = some v) : 0 ≤ v ∧ v ≤ B + 1 := by
  unfold cn1 at hj
  split at hj
  · have := h j v hj; omega
  · rw [List.getElem?_set] at hj
    split at hj
    · rename_i h1
      split at hj
      · rename_i h2
        injection hj with hj
        obtain ⟨u, hu⟩ : ∃ u, cn[c.toNat]? = some u := ⟨_, List.getElem?_eq_getElem (by omega)⟩
        rw [hu] at hj
        simp only [Option.getD_some] at hj
        have := h _ u hu
        omega
      · cases hj
    · have := h j v hj; omega
theorem cntL_le (t : List Nd) (c : Nat) : cntL t c ≤ 2 * t.length := by
  unfold cntL
  induction t with
  | nil => simp
  | cons a r ih =>
    rw [List.map_cons, List.sum_cons, List.length_cons]
    have : lk1 c a ≤ 2 := by unfold lk1; split <;> split <;> omega
    omega
theorem RefI.small {d i : Nat} {t : List Nd} {us : List Bool} {cn : List Int} (h : RefI d t i us cn) (j : Nat) (v : Int) (hj : cn[j]? = some v) : 0 ≤ v ∧ v ≤ 2 * t.length := by
  have hl := (List.getElem?_eq_some_iff.1 hj).1
  have := h.cn j (by rw [← h.lc]; exact hl)
  rw [hj] at this
  injection this with this
  have h2 := cntL_le (t.take i) j
  have h3 : (t.take i).length ≤ t.length := by rw [List.length_take]; omega
  omega
theorem cnK_le {cn ch : List Int} (B : Int) (h : ∀ (j : Nat) (v : Int), cn[j]? = some v → 0 ≤ v ∧ v ≤ B) : ∀ (k : Nat), k ≤ ch.length → ∀ (j : Nat) (v : Int), (cnK cn ch k)[j]? = some v → 0 ≤ v ∧ v ≤ B + k
  | 0, _, j, v, hj => by have := h j v hj; omega
  | k + 1, hk, j, v, hj => by
    obtain ⟨c, hc⟩ : ∃ c, ch[k]? = some c := ⟨_, List.getElem?_eq_getElem (by omega)⟩
    rw [cnK_succ hc] at hj
    have := cn1_le (B + k) (fun j v hv => cnK_le B h k (by omega) j v hv) hj
    omega
def ChR (n i : Nat) (ch : List Int) (k : Nat) : Prop := ∀ (j : Nat) (c : Int), j < k → ch[j]? = some c → inR i n c
theorem ChR.next {n i : Nat} {ch : List Int} {k : Nat} {c : Int} (h : ChR n i ch k) (hc : ch[k]? = some c) (h1 : inR i n c) : ChR n i ch (k + 1) := by
  intro j c' hj hc'
  by_cases e : j = k
  · subst e; rw [hc] at hc'; injection hc' with hc'; subst hc'; exact h1
  · exact h j c' (by omega) hc'
end Go.Proofs.Ng
end

