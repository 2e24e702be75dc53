/-
  Texts put together: Cg Cl Cc.
-/
import Derived.Test.YteeeogdfnpdpcaaZNeighborTrees14
import Derived.Laws.MakeOwn
set_option linter.unusedVariables false
section
/-
  Walks: below: laws on append; the walk.
-/
namespace Go.Proofs.Ng
open Go.RowKit

section
variable {P : Program} (w : World)
theorem wp_append_none {o : Oper} {a : Act} {K : Act → World → Prop} {Q : Exit → Act → World → Prop} (s x : Operand) (t : TypeId)
    (ho : o.op = .call { callee := .builtin .append, args := #[s, x], argTypes := #[t, t] }) (base : Nat) (e : TypeId) (i : TypeInfo) (size : Nat) (ht : P.underlying t = some (.slice e)) (hi : P.info? e = some i)
    (v : Value) (n : Nat) (xs : List Value) (hs : a.eval s = v) (hown : w.ownsRow base e size v n xs) (hx : a.eval x = .slice none 0 0) (h : K (a.put o.dst v) w) : o.wp P a w K Q := by
  have hr := run_append_owned_none (P := P) w base t o.type e i size ht hi v n xs hown
  unfold Oper.wp execOp
  simp only [ho, resolve, invoke, builtin, Sem.run_bind, Sem.run_pure, Result.andThen_ok, List.map_toArray, List.map_cons, List.map_nil, hs, hx, hr]
  exact h
theorem wpList_append_none {ops : Array Oper} {rest : List Oper} {o : Oper} {a : Act} {Q : Exit → Act → World → Prop} (hgd : o.guard = none) (s x : Operand) (t : TypeId)
    (ho : o.op = .call { callee := .builtin .append, args := #[s, x], argTypes := #[t, t] }) (base : Nat) (e : TypeId) (i : TypeInfo) (size : Nat) (ht : P.underlying t = some (.slice e)) (hi : P.info? e = some i)
    (v : Value) (n : Nat) (xs : List Value) (hs : a.eval s = v) (hown : w.ownsRow base e size v n xs) (hx : a.eval x = .slice none 0 0) (h : wpList P ops Q rest (a.put o.dst v) w) : wpList P ops Q (o :: rest) a w :=
  wpList_plain hgd fun _ hK => wp_append_none w s x t ho base e i size ht hi v n xs hs hown hx (hK _ _ h)
theorem step_append_none {ops : Array Oper} {o : Oper} {a : Act} {K : Act → World → Prop} {Q : Exit → Act → World → Prop} {E : Prop} (hgd : o.guard = none) (s x : Operand) (t : TypeId)
    (ho : o.op = .call { callee := .builtin .append, args := #[s, x], argTypes := #[t, t] }) (base : Nat) (e : TypeId) (i : TypeInfo) (size : Nat) (ht : P.underlying t = some (.slice e)) (hi : P.info? e = some i)
    (v : Value) (n : Nat) (xs : List Value) (hs : a.eval s = v) (hown : w.ownsRow base e size v n xs) (hx : a.eval x = .slice none 0 0) (h : K (a.put o.dst v) w) :
    if Region.wanted o (yielded ops a.tmps) = true then Oper.wp P o a w K Q else E := by
  have hw : Region.wanted o (yielded ops a.tmps) = true := by simp [Region.wanted, hgd]
  rw [if_pos hw]
  exact wp_append_none w s x t ho base e i size ht hi v n xs hs hown hx h
end
/-- A slice that was built whole owns its row. -/
theorem own_built {w : World} {base g n : Nat} {e : TypeId} {cs : List Value} (hc : w.heap[g]? = some (.cells cs.toArray e)) (hb : base ≤ g) (hn : cs.length = n) (hm : n ≤ maxLen) : w.ownsRow base e 1 (.slice (some ⟨g, 0, none⟩) n n) n cs :=
  ⟨by omega, .inr ⟨g, n, cs.toArray, rfl, hb, hc, Nat.le_refl _, hm, by simp [hn], by simp [← hn]⟩⟩
/-- A new slice of numbers; nil where there is none. -/
def IntsP (l : List Int) (w : World) (e : Ending) (W : World) : Prop := ∃ (oa : Option Addr) (ca : Nat), e = .returned (.slice oa l.length ca) ∧ l.length ≤ ca ∧ (l = [] → oa = none ∧ ca = 0) ∧ Sl W oa 1 (pvals l) ∧ Below w.heap.size w W ∧ ∀ a, oa = some a → w.heap.size ≤ a.block
theorem pvals_one (l : List Int) : ∀ r ∈ pvals l, r.length = 1 := by intro r hr; simp [pvals] at hr; obtain ⟨j, _, rfl⟩ := hr; rfl
theorem own_ints {W W' : World} {v : Value} {l : List Int} (hl : l ≠ []) (ho : W'.ownsRow W.heap.size 3 1 v l.length (pflat l)) (hb : Below W.heap.size W W') : IntsP l W (.returned v) W' := by
  rw [← pvals_flat] at ho
  obtain ⟨oa, ca, rfl, hs⟩ := own_rows (pvals_one l) (by rw [pvals_len]; exact ho)
  rw [pvals_len] at ho ⊢
  exact ⟨oa, ca, rfl, (own_cap ho).1, fun h => absurd h hl, hs, hb, own_fresh ho⟩
/-- The cells of a slice of numbers, for an append. -/
theorem ints_news {W : World} {b off : Nat} {l : List Int} (h : RowsAt W b off 1 (pvals l)) : ∀ (j : Nat) (u : Value), (pflat l)[j]? = some u → W.cell? ((⟨b, off, none⟩ : Addr).add j) = some u := by
  intro j u hu
  unfold pflat at hu
  rw [List.getElem?_map, Option.map_eq_some_iff] at hu
  obtain ⟨x, hx, rfl⟩ := hu
  have := h.c j _ (pvals_get hx) 0 _ rfl
  have e : (⟨b, off, none⟩ : Addr).add j = ⟨b, off + j, none⟩ := by unfold Addr.add; split <;> simp_all
  rw [e]
  simpa using this
theorem pflat_cell (l : List Int) : ∀ u ∈ pflat l, u.oneCell' = true := by
  intro u hu
  simp [pflat] at hu
  obtain ⟨x, _, rfl⟩ := hu
  rfl
theorem pflat_len (l : List Int) : (pflat l).length = l.length := by simp [pflat]
theorem ints_nil {w W : World} {e : Ending} (h : IntsP [] w e W) : e = .returned (.slice none 0 0) ∧ Below w.heap.size w W := by
  obtain ⟨oa, ca, rfl, _, h2, _, h4, _⟩ := h
  obtain ⟨rfl, rfl⟩ := h2 rfl
  exact ⟨rfl, h4⟩
theorem ints_some {w W : World} {e : Ending} {l : List Int} (hl : l ≠ []) (h : IntsP l w e W) : ∃ b off ca, e = .returned (.slice (some ⟨b, off, none⟩) l.length ca) ∧ RowsAt W b off 1 (pvals l) ∧ Below w.heap.size w W ∧ w.heap.size ≤ b := by
  obtain ⟨oa, ca, rfl, _, _, h3, h4, h5⟩ := h
  obtain ⟨b, off, rfl, hr⟩ := h3 (by simpa [pvals] using hl)
  exact ⟨b, off, ca, rfl, hr, h4, h5 _ rfl⟩
/-- A slice of one that was built before a call, or behind it. -/
theorem one_before {W Xa : World} {x : Int} (hb : Below (W.drew.alloc (.cells #[.int .i64 x] 3)).heap.size (W.drew.alloc (.cells #[.int .i64 x] 3)) Xa) : Xa.ownsRow W.heap.size 3 1 (.slice (some ⟨W.heap.size, 0, none⟩) 1 1) 1 (pflat [x]) ∧ Below W.heap.size W Xa := by
  refine ⟨own_keep (own_built (heap_alloc_new W.drew _) (Nat.le_refl _) rfl (by unfold maxLen; omega)) hb, ?_⟩
  have h1 : Below W.heap.size W (W.drew.alloc (.cells #[.int .i64 x] 3)) := (Below.refl _ _).drew.alloc (Nat.le_refl _) _
  exact below_call h1 hb
theorem one_behind {W Xa : World} {x : Int} (hb : Below W.drew.heap.size W.drew Xa) : (Xa.alloc (.cells #[.int .i64 x] 3)).ownsRow W.heap.size 3 1 (.slice (some ⟨Xa.heap.size, 0, none⟩) 1 1) 1 (pflat [x]) ∧ Below W.heap.size W (Xa.alloc (.cells #[.int .i64 x] 3)) := by
  have h1 : Below W.heap.size W Xa := (Below.refl _ _).drew.trans hb
  exact ⟨own_built (heap_alloc_new Xa _) h1.size rfl (by unfold maxLen; omega), h1.alloc h1.size _⟩
def ptOf (t : List Nd) (j : Nat) : Int := (t[j]?.map Nd.pt).getD 0
def belowI (t : List Nd) (f : Nat) (i : Int) : List Int := (belowP t f i).map (ptOf t)
theorem belowI_neg (t : List Nd) (f : Nat) {i : Int} (h : i < 0) : belowI t f i = [] := by unfold belowI; rw [belowP_neg _ _ h]; rfl
theorem belowI_at {t : List Nd} {f i : Nat} {x : Nd} (h : t[i]? = some x) : belowI t (f + 1) (i : Nat) = x.pt :: (belowI t f x.lo ++ belowI t f x.hi) := by
  unfold belowI
  rw [belowP_at h]
  simp [ptOf, h]
theorem belowI_ne {t : List Nd} {f i : Nat} {x : Nd} (h : t[i]? = some x) : belowI t (f + 1) (i : Nat) ≠ [] := by rw [belowI_at h]; simp
set_option maxRecDepth 100000 in
set_option maxHeartbeats 4000000 in
theorem below35 {w0 : World} {ot : Option Addr} {ct : Nat} {t : List Nd} (hT : Sl w0 ot 4 (t.map Nd.vals)) (hup : Up t) (hn : t.length ≤ 1024) (hlen : ∀ (f : Nat) (i : Int), i < t.length → (t.length : Int) ≤ f + i ∨ i < 0 → (belowI t f i).length ≤ t.length) :
    ∀ (f : Nat) (i : Int) (W : World), -1 ≤ i → i < t.length → (t.length : Int) ≤ f + i ∨ i < 0 → Below w0.heap.size w0 W →
    Calls Try.prog 35 #[.slice ot t.length ct, .int .i64 i] W (IntsP (belowI t f i) W) := by
  intro f
  have neg : ∀ (f : Nat) (i : Int) (W : World), i < 0 → Calls Try.prog 35 #[.slice ot t.length ct, .int .i64 i] W (IntsP (belowI t f i) W) := by
    intro f i W h
    rw [belowI_neg t f h]
    have hd : decide (i < 0) = true := decide_eq_true h
    clear h
    go_enter Try.func35, Try.ntmps35
    go_wp2
    go_ret
    exact ⟨none, 0, rfl, Nat.le_refl _, fun _ => ⟨rfl, rfl⟩, fun h => absurd rfl h, Below.refl _ _, fun a h => by cases h⟩
  induction f with
  | zero =>
    intro i W h1 h2 h3 hB
    exact neg 0 i W (by omega)
  | succ f ih =>
    intro i W h1 h2 h3 hB
    by_cases h0 : i < 0
    · exact neg (f + 1) i W h0
    · clear neg
      obtain ⟨k, rfl⟩ : ∃ k : Nat, i = (k : Nat) := ⟨i.toNat, by omega⟩
      obtain ⟨x, hx⟩ : ∃ x, t[k]? = some x := ⟨_, List.getElem?_eq_getElem (by omega)⟩
      obtain ⟨hl, hh⟩ := hup k x hx
      have hle := hlen (f + 1) (k : Nat) h2 h3
      rw [belowI_at hx] at hle ⊢
      unfold inR at hl hh
      obtain ⟨bt, offt, rfl, hTr⟩ := hT (map_ne (k := k) (by omega))
      have hTr2 := hTr.keep hB
      obtain ⟨xp, xa, xl, xh⟩ := x
      simp only at hl hh hle ⊢
      have x0 : W.cell? ⟨bt, offt + k * 4, none⟩ = some (.int .i64 xp) := hTr2.c k _ (map_get hx) 0 _ rfl
      have x2 : W.cell? ⟨bt, offt + k * 4 + 2, none⟩ = some (.int .i64 xl) := hTr2.c k _ (map_get hx) 2 _ rfl
      have x3 : W.cell? ⟨bt, offt + k * 4 + 3, none⟩ = some (.int .i64 xh) := hTr2.c k _ (map_get hx) 3 _ rfl
      have lt0 := hTr2.lt
      have hlow := fun X hX => ih xl X (by omega) (by omega) (by omega) (below_call hB hX)
      have hhigh := fun X hX => ih xh X (by omega) (by omega) (by omega) (below_call hB hX)
      have hkl : (k : Int) < (t.length : Int) := by omega
      generalize belowI t f xl = L at hlow hle ⊢
      generalize belowI t f xh = R at hhigh hle ⊢
      simp only [List.length_cons, List.length_append] at hle
      have HLO := Lib.hid hlow
      have HX := Lib.hid hx
      have HHI := Lib.hid hhigh
      have HT0 := Lib.hid hTr2
      have HB0 := Lib.hid hB
      have HLL := Lib.hid hle
      clear hlow hhigh ih hl hh hTr hTr2 hx hlen hT hB h0 h1 h2 h3 hle
      go_enter Try.func35, Try.ntmps35
      go_upto_region 3 with fail
      obtain ⟨i0, hi, hz0, hz1, hz2⟩ := info_parts info3
      go_cut [5] (fun y X => X.ownsRow W.heap.size 3 1 y (1 + L.length) (pflat (xp :: L)) ∧ Below W.heap.size W X)
      case first =>
        by_cases hL : L = []
        · subst hL
          go_region_law (first
            | (go_simp
               go_at_call 35
               refine (HLO.out _ (by first | exact (Below.refl _ _).drew | exact (Below.refl _ _).drew.alloc (Nat.le_refl _) _)).mono ?_
               intro e Xa hxa
               obtain ⟨rfl, hb⟩ := ints_nil hxa
               have hw : Below W.heap.size W Xa := by first | exact (one_before hb).2 | exact (Below.refl _ _).drew.trans hb
               have c0 : Xa.cell? ⟨bt, offt + k * 4, none⟩ = some (.int .i64 xp) := (HT0.out.keep hw).c k _ (map_get HX.out) 0 _ rfl
               have lt1 := (HT0.out.keep hw).lt
               clear hw)
            | (refine step_append_none _ rfl (.tmp 13) (.tmp 20) 24 rfl W.heap.size 3 i0 1 under24 hi _ 1 (pflat [xp]) rfl (one_before hb).1 (by simp [Act.eval]) ?_
               have hf := one_before hb)
            | (refine step_append_none _ rfl (.tmp 13) (.tmp 20) 24 rfl W.heap.size 3 i0 1 under24 hi _ 1 (pflat [xp]) rfl (one_behind hb).1 (by simp [Act.eval]) ?_
               have hf := one_behind (x := xp) hb))
          all_goals
            go_wp2_with fail
            go_meet
            exact hf
        · have hmx : 1 + L.length ≤ 1024 := by have := HLL.out; omega
          have hL0 : 0 < L.length := List.length_pos_iff.2 hL
          have HNE := Lib.hid hL
          clear hL
          go_region_law (first
            | (go_simp
               go_at_call 35
               refine (HLO.out _ (by first | exact (Below.refl _ _).drew | exact (Below.refl _ _).drew.alloc (Nat.le_refl _) _)).mono ?_
               intro e Xa hxa
               obtain ⟨b, off, ca, rfl, hr, hb, hbl⟩ := ints_some HNE.out hxa
               have hw : Below W.heap.size W Xa := by first | exact (one_before hb).2 | exact (Below.refl _ _).drew.trans hb
               have c0 : Xa.cell? ⟨bt, offt + k * 4, none⟩ = some (.int .i64 xp) := (HT0.out.keep hw).c k _ (map_get HX.out) 0 _ rfl
               have lt1 := (HT0.out.keep hw).lt
               clear hw)
            | (refine step_append_lies _ rfl (.tmp 13) (.tmp 20) 24 rfl W.heap.size 3 i0 (.int .i64 0) 1 8 under24 hi hz0 hz1 hz2 rfl (by decide) _ 1 (pflat [xp]) rfl (one_before hb).1 ⟨b, off, none⟩ L.length ca (pflat L) (by simp [Act.eval]) (by rw [pflat_len, Nat.mul_one]) (ints_news hr) (pflat_cell L) hL0 (by unfold maxLen; omega) (by omega) (one_before hb).2.size _ rfl ?_
               intro g cg W3 hown hgrow hat hlt3
               have hf : W3.ownsRow W.heap.size 3 1 (.slice (some ⟨g, 0, none⟩) (1 + L.length) cg) (1 + L.length) (pflat (xp :: L)) ∧ Below W.heap.size W W3 := ⟨hown, (one_before hb).2.trans (grown_below (one_before hb).1 hgrow (one_before hb).2.size)⟩
               clear hown hgrow hat)
            | (refine step_append_lies _ rfl (.tmp 13) (.tmp 20) 24 rfl W.heap.size 3 i0 (.int .i64 0) 1 8 under24 hi hz0 hz1 hz2 rfl (by decide) _ 1 (pflat [xp]) rfl (one_behind hb).1 ⟨b, off, none⟩ L.length ca (pflat L) (by simp [Act.eval]) (by rw [pflat_len, Nat.mul_one]) (ints_news (hr.keep ((Below.refl _ _).alloc (Nat.le_refl _) _))) (pflat_cell L) hL0 (by unfold maxLen; omega) (by omega) (one_behind (x := xp) hb).2.size _ rfl ?_
               intro g cg W3 hown hgrow hat hlt3
               have hf : W3.ownsRow W.heap.size 3 1 (.slice (some ⟨g, 0, none⟩) (1 + L.length) cg) (1 + L.length) (pflat (xp :: L)) ∧ Below W.heap.size W W3 := ⟨hown, (one_behind hb).2.trans (grown_below (one_behind hb).1 hgrow (one_behind (x := xp) hb).2.size)⟩
               clear hown hgrow hat))
          all_goals
            go_wp2_with fail
            go_meet
            exact hf
      case rest =>
        obtain ⟨hown, hb⟩ := hcut
        obtain ⟨g5, c5, rfl⟩ := own_some hown (by omega)
        have hT5 := HT0.out.keep hb
        have x0 := hT5.c k _ (map_get HX.out) 0 _ rfl
        have x3 : wc.cell? ⟨bt, offt + k * 4 + 3, none⟩ = some (.int .i64 xh) := hT5.c k _ (map_get HX.out) 3 _ rfl
        have lt0 := hT5.lt
        have HR := Lib.hid (HHI.out wc hb)
        have HOW := Lib.hid hown
        have HB := Lib.hid hb
        clear hown hb hT5 x0 HLO HHI HT0
        by_cases hR : R = []
        · subst hR
          go_wp2_with fail
          refine HR.out.mono ?_
          intro e Xa hxa
          obtain ⟨rfl, hb⟩ := ints_nil hxa
          have ho := own_keep HOW.out hb
          have HF : Hid (IntsP (xp :: L) W (.returned (.slice (some ⟨g5, 0, none⟩) (1 + L.length) c5)) Xa) := Lib.hid (own_ints (W := W) (l := xp :: L) (by simp) (by rw [show (xp :: L).length = 1 + L.length by rw [List.length_cons, Nat.add_comm]]; exact ho) (below_call HB.out hb))
          have HO := Lib.hid ho
          clear ho hxa hb
          go_wp2_with (at_builtin; refine wpList_append_none _ rfl _ _ 24 rfl W.heap.size 3 i0 1 under24 hi _ (1 + L.length) (pflat (xp :: L)) rfl HO.out (by simp [Act.eval]) ?_)
          go_ret
          rw [List.append_nil]
          exact HF.out
        · have hmx : 1 + L.length + R.length ≤ 1024 := by have := HLL.out; omega
          have hL0 : 0 < R.length := List.length_pos_iff.2 hR
          have HNE := Lib.hid hR
          clear hR
          go_wp2_with fail
          refine HR.out.mono ?_
          intro e Xa hxa
          obtain ⟨b, off, ca, rfl, hr, hb, hbl⟩ := ints_some HNE.out hxa
          have HO := Lib.hid (own_keep HOW.out hb)
          have HB2 := Lib.hid (below_call HB.out hb)
          have HRR := Lib.hid hr
          clear hxa hb hr
          go_wp2_with (at_builtin; refine wpList_append_lies _ rfl _ _ 24 rfl W.heap.size 3 i0 (.int .i64 0) 1 8 under24 hi hz0 hz1 hz2 rfl (by decide) _ (1 + L.length) (pflat (xp :: L)) rfl HO.out ⟨b, off, none⟩ R.length ca (pflat R) (by simp [Act.eval]) (by rw [pflat_len, Nat.mul_one]) (ints_news HRR.out) (pflat_cell R) hL0 (by unfold maxLen; omega) (by omega) HB2.out.size _ rfl ?_)
          intro g cg W3 hown hgrow hat hlt3
          have e1 : pflat (xp :: L) ++ pflat R = pflat (xp :: (L ++ R)) := by simp [pflat]
          have e2 : (xp :: (L ++ R)).length = 1 + L.length + R.length := by simp; omega
          have HF : Hid (IntsP (xp :: (L ++ R)) W (.returned (.slice (some ⟨g, 0, none⟩) (1 + L.length + R.length) cg)) W3) := Lib.hid (own_ints (W := W) (l := xp :: (L ++ R)) (by simp) (by rw [e2, ← e1]; exact hown) (HB2.out.trans (grown_below HO.out hgrow HB2.out.size)))
          clear hown hgrow hat
          go_wp2_with fail
          go_ret
          exact HF.out
end Go.Proofs.Ng
end

section
/-
  Walks: the maker's Configs: the walk.
-/
namespace Go.Proofs.Ng
open Go.RowKit

set_option maxRecDepth 100000 in
set_option maxHeartbeats 4000000 in
theorem configs22 (oa om os : Option Addr) (cj cm cap n : Nat) (js : List JV) (nm : Nat) (xs : List Int) (w : World) (hn : n ≤ 1000) (hj1 : 1 ≤ js.length) (hj : js.length ≤ 100) (hbd : ∀ (k : Nat) (j : JV), js[k]? = some j → -1000000000 ≤ j.lo ∧ j.lo ≤ j.hi ∧ j.hi ≤ 1000000000) (hJ : Sl w oa 12 (js.map JV.vals)) (hI : Sl w os 1 (pvals xs)) (hl : xs.length ≤ 9223372036854775807) :
    Calls Try.prog 22 #[.agg #[.slice oa js.length cj, .slice om nm cm], .int .i64 (n : Nat), .slice os xs.length cap] w (CfgsP js n w) := by
  have HBD := Lib.hid hbd
  have HJ := Lib.hid hJ
  clear hbd hJ
  go_enter Try.func22, Try.ntmps22
  go_wp2_with fail
  have hB0 : Below w.heap.size w (w.alloc (.cells #[.slice oa js.length cj, .slice om nm cm] 30)) := (Below.refl _ _).alloc (Nat.le_refl _) _
  have r0 := Row.new w [.slice oa js.length cj, .slice om nm cm] 30
  have hI0 := hI.keep hB0
  generalize (w.alloc (.cells #[.slice oa js.length cj, .slice om nm cm] 30)) = W0 at hB0 r0 hI0 ⊢
  generalize hn3 : w.heap.size = n3 at r0 ⊢
  have HN := Lib.hid hn3
  clear hn3
  refine (from_any os cap xs.length W0).mono ?_
  rintro e W1 ⟨rfl, rfl⟩
  have hS := src_new W0 os cap xs hI0 hl
  have hB1 : Below W0.heap.size W0 (W0.alloc (.cells #[.slice os xs.length cap, .int .i64 0] 105)) := (Below.refl _ _).alloc (Nat.le_refl _) _
  have hC : CsI w (W0.alloc (.cells #[.slice os xs.length cap, .int .i64 0] 105)) n3 W0.heap.size [.slice oa js.length cj, .slice om nm cm] os cap xs (.slice none 0 0) [] (W0.alloc (.cells #[.slice os xs.length cap, .int .i64 0] 105)) :=
    ⟨below_call hB0 hB1, r0.keep hB1, hS, PtsO.nil _ _, Nat.le_refl _, Nat.le_of_eq HN.out, r0.lt, src_lt hS⟩
  clear hB0 hB1 hS r0 hI0 HN hI
  generalize (W0.alloc (.cells #[.slice os xs.length cap, .int .i64 0] 105)) = W1 at hC ⊢
  generalize W0.heap.size = nS at hC ⊢
  have HI1 := Lib.hid hC.src.ints
  go_wp2_with fail
  go_loopw [8, 9] (fun v i W => ∃ pts : List (List Int), pts.length ≤ n ∧ i = .int .i64 (pts.length : Nat) ∧ CsI w W1 n3 nS [.slice oa js.length cj, .slice om nm cm] os cap xs v pts W ∧ ∀ p ∈ pts, p.length = js.length ∧ inTo js p) (fun _ i _ => n - (intOf i).toNat)
  case atStart => exact ⟨[], by simp, rfl, hC, by simp⟩
  case round =>
    clear hC
    obtain ⟨pts, hk, rfl, hC, hgood⟩ := hrel
    obtain ⟨Wr, rfl⟩ : ∃ X, X = wr := ⟨_, rfl⟩
    have HGO := Lib.hid hgood
    clear hgood
    by_cases hlt : pts.length < n
    · have hi0 := hC.src.ints
      have HI0 := Lib.hid hi0
      have h5 := hC.h5
      have hbw := hC.hb
      have hsr := hC.src
      have HC := Lib.hid hC
      have hkn : (pts.length : Int) < (n : Int) := by omega
      clear hC hi0
      go_wp2_with fail
      go_loopw [10, 11] (fun u i W => ∃ ys : List Int, ys.length ≤ 2 * js.length ∧ i = .int .i64 (ys.length : Nat) ∧ Wr.grownBy W (some nS) ∧ Src W nS os cap xs ∧ W.ownsRow Wr.heap.size 3 1 u ys.length (pflat ys)) (fun _ i _ => 2 * js.length - (intOf i).toNat)
      case atStart => exact ⟨[], by simp, rfl, World.grownBy.refl _ _, hsr, World.ownsRow_nil _ _ _ _⟩
      case round =>
        clear hsr
        obtain ⟨ys, hy, rfl, hg, hsr, hown⟩ := hrel
        obtain ⟨Wb, rfl⟩ : ∃ X, X = wr := ⟨_, rfl⟩
        have hCb := HC.out.call hg hsr
        have s0 : Wb.cell? ⟨n3, 0, none⟩ = some (.slice oa js.length cj) := hCb.r3.c 0 _ rfl
        have s1 : Wb.cell? ⟨n3, 1, none⟩ = some (.slice om nm cm) := hCb.r3.c 1 _ rfl
        have l3 := hCb.r3.lt
        have hw2 : IntKind.i64.wrap (2 * (js.length : Int)) = 2 * (js.length : Int) := IntWalk.i64_in _ (by omega)
        by_cases hly : ys.length < 2 * js.length
        · have hyn : (ys.length : Int) < 2 * (js.length : Int) := by omega
          have hyd : decide ((ys.length : Int) < 2 * (js.length : Int)) = true := decide_eq_true hyn
          have HG := Lib.hid hg
          have HO := Lib.hid hown
          clear hCb hg hown
          go_wp2_with fail
          refine (next_any _ nS os cap xs 1048576 hsr (by omega) (by omega)).mono ?_
          rintro e W2 ⟨z, z1, z2, rfl, hg2, hS2⟩
          have hg3 := grown_trans HG.out hg2
          have ho2 := own_blk (W' := W2) HO.out (fun g _ hl hb => hg2.block g hl (fun e => by injection e with e; omega))
          have hb2 : Below W2.heap.size W2 (W2.alloc (.cells #[.int .i64 z] 3)) := (Below.refl _ _).alloc (Nat.le_refl _) _
          have HO2 := Lib.hid (own_keep ho2 hb2)
          have HG3 := Lib.hid (grown_trans hg3 (grown_of_below hb2))
          have HS3 := Lib.hid (hS2.keepB hb2)
          obtain ⟨i0, hi, hz0, hz1, hz2⟩ := info_parts info3
          clear hg2 hS2 hg3 ho2 hb2 HO HG s0 s1 l3 hsr
          go_wp2_with (at_builtin; refine wpList_append_own _ rfl _ _ 24 rfl Wr.heap.size 3 i0 (.int .i64 0) 1 8 under24 hi hz0 hz1 hz2 rfl (by decide) _ _ _ rfl HO2.out ⟨W2.heap.size, 0, none⟩ 1 1 [.int .i64 z] rfl rfl ?c1 ?c2 ?c3 ?c4 ?c5 ?_)
          case c1 => exact new_cells _ _ _
          case c2 => intro u hu; simp at hu; subst hu; rfl
          case c3 => unfold maxLen; omega
          case c4 => omega
          case c5 => exact HG3.out.size
          intro v' w' hown' hgrow _
          have B := grown_below HO2.out hgrow HG3.out.size
          have hg4 := grown_chain HG3.out hgrow (fun g hg => .inr (own_lt HO2.out g hg).2)
          have HG4 := Lib.hid hg4
          have HS4 := Lib.hid (HS3.out.low HI0.out (by omega) B)
          have HO4 : Hid (w'.ownsRow Wr.heap.size 3 1 v' (ys ++ [z]).length (pflat (ys ++ [z]))) := Lib.hid (by
            rw [List.length_append, pflat, List.map_append]; exact hown')
          clear hown' hgrow B hg4 HO2 HG3 HS3 hi hz0 hz1 hz2
          go_wp2_with fail
          go_roundw
          case rel => exact ⟨ys ++ [z], by simp; omega, by simp, HG4.out, HS4.out, HO4.out⟩
          case measure => simp [intOf]; omega
        · have hyn : ¬ ((ys.length : Int) < 2 * (js.length : Int)) := by omega
          have hyd : decide ((ys.length : Int) < 2 * (js.length : Int)) = false := decide_eq_false hyn
          obtain ⟨oy, cy, rfl, hY⟩ := own_rows (pvals_one ys) (by rw [pvals_len, pvals_flat]; exact hown)
          rw [pvals_len] at hown ⊢
          have hcfg := config_new oa om oy cj cm cy js nm ys Wb hj HBD.out (HJ.out.keep hCb.bel) hY (by omega)
          have HCF := Lib.hid hcfg
          have HCB := Lib.hid hCb
          clear hcfg hCb hg hown hY hsr
          go_wp2_with fail
          with_reducible refine HCF.out.mono ?_
          rintro e W3 ⟨p, o3, c3, rfl, hpl, hin, hSp, hb3, hfr⟩
          have hpne : p ≠ [] := fun e => by rw [e] at hpl; simp at hpl; omega
          obtain ⟨b3, off3, rfl, hr3⟩ := hSp (by simpa [pvals] using hpne)
          have hlow := hfr _ rfl
          have hC3 := HCB.out.keep hb3
          have hb4 : Below W3.heap.size W3 (W3.alloc (.cells #[.slice (some ⟨b3, off3, none⟩) p.length c3] 31)) := (Below.refl _ _).alloc (Nat.le_refl _) _
          have hC4 := hC3.keep hb4
          have hr4 := hr3.keep hb4
          obtain ⟨i0, hi, hz0, hz1, hz2⟩ := info_parts info31
          obtain ⟨vs, hvs⟩ := hC4.pt.vals
          have HPT := Lib.hid hvs
          have hvb : ∀ g, Value.ownBlock _ = some g → g < Wb.heap.size := fun g hg => by
            obtain ⟨vs, hvs⟩ := HCB.out.pt.vals
            exact (own_lt hvs.own g hg).1
          have HVB := Lib.hid hvb
          have HR4 := Lib.hid hr4
          have HC4 := Lib.hid hC4
          have HLO := Lib.hid hlow
          have HP := Lib.hid (show p.length = js.length ∧ inTo js p from ⟨hpl, hin⟩)
          have HNE := Lib.hid hpne
          clear hvs hC3 hC4 hb3 hb4 hr3 hr4 hvb hSp hfr hlow hpne hin hpl HCF
          go_wp2_with (at_builtin; refine wpList_append_own_at _ rfl _ _ 22 rfl W1.heap.size 31 i0 (.slice none 0 0) 1 24 under22 hi hz0 hz1 hz2 rfl (by decide) _ _ _ rfl HPT.out.own ⟨W3.heap.size, 0, none⟩ 1 1 [.slice (some ⟨b3, off3, none⟩) p.length c3] rfl rfl ?c1 ?c2 ?c3 ?c4 ?c5 ?_)
          case c1 => exact new_cells _ _ _
          case c2 => intro u hu; simp at hu; subst hu; rfl
          case c3 => unfold maxLen; omega
          case c4 => omega
          case c5 => exact HC4.out.hb
          intro v1 W5 ho5 hg5 hn5 hob5
          have B := grown_below HPT.out.own hg5 HC4.out.hb
          have hsz : (W3.alloc (.cells #[.slice (some ⟨b3, off3, none⟩) p.length c3] 31)).heap.size = W3.heap.size + 1 := by simp
          have hpt5 := HPT.out.app (cap := c3) HNE.out HR4.out (by have := HLO.out; have := HCB.out.hb; omega) (fun e => by have := HVB.out _ e; have := HLO.out; omega) ho5 hg5 (by rw [hsz]; exact hob5)
          have HC5 : Hid (CsI w W1 n3 nS [.slice oa js.length cj, .slice om nm cm] os cap xs v1 (pts ++ [p]) W5) := Lib.hid ⟨HC4.out.bel.trans (B.mono (by have := HC4.out.h3; have := HC4.out.h4; omega)), HC4.out.r3.low (by have := HC4.out.h4; omega) B, HC4.out.src.low HI1.out h5 B, hpt5, Nat.le_trans HC4.out.hb hg5.size, HC4.out.h3, HC4.out.h4, h5⟩
          clear B hsz hpt5 ho5 hg5 hn5 hob5 HPT HC4 HR4 hi hz0 hz1 hz2
          go_wp2_with fail
          go_roundw
          case rel =>
            refine ⟨pts ++ [p], by simp; omega, by simp, HC5.out, fun q hq => ?_⟩
            rw [List.mem_append, List.mem_singleton] at hq
            rcases hq with hq | rfl
            · exact HGO.out q hq
            · exact HP.out
          case measure => simp [intOf]; omega
    · have hke : pts.length = n := by omega
      have hpt := hC.pt
      obtain ⟨o', c', rfl, -, -, -⟩ := hpt.done
      have HF : Hid (CfgsP js n w (.returned (.slice o' n c')) Wr) := Lib.hid ⟨pts, o', c', by rw [hke], hke, HGO.out, fun W'' hag => by
        have h1 := hC.h3; have h2 := hC.h4; have h3 := hC.h5
        obtain ⟨o2, c2, e, hP, -, -⟩ := (hpt.fresh (W'' := W'') fun g hg hl => hag g (by omega) hl).done
        injection e with e _ _
        subst e
        exact hP, hC.bel⟩
      have hkn : ¬ ((pts.length : Int) < (n : Int)) := by omega
      clear hC hpt
      go_wp2_with fail
      go_ret
      exact HF.out
end Go.Proofs.Ng
end

section
/-
  Walks: parents: rows of numbers and of truth values; what the walk keeps.
-/
namespace Go.Proofs.Ng
open Go.RowKit

def bls (l : List Bool) : List Value := l.map fun b => .bool b
theorem bls_get {l : List Bool} {k : Nat} {b : Bool} (h : l[k]? = some b) : (bls l)[k]? = some (.bool b) := by simp [bls, h]
theorem bls_set (l : List Bool) (k : Nat) (b : Bool) : (bls l).set k (.bool b) = bls (l.set k b) := by simp [bls, List.map_set]
theorem pfl_get {l : List Int} {k : Nat} {x : Int} (h : l[k]? = some x) : (pflat l)[k]? = some (.int .i64 x) := by simp [pflat, h]
theorem pfl_set (l : List Int) (k : Nat) (x : Int) : (pflat l).set k (.int .i64 x) = pflat (l.set k x) := by simp [pflat, List.map_set]
theorem made_zero (n : Nat) : madeCells #[Value.int .i64 0] n = (pflat (List.replicate n 0)).toArray := by
  apply Array.ext
  · simp [madeCells, pflat]
  · intro i h1 h2
    simp [madeCells, Nat.mod_one, pflat]
theorem made_false (n : Nat) : madeCells #[Value.bool false] n = (bls (List.replicate n false)).toArray := by
  apply Array.ext
  · simp [madeCells, bls]
  · intro i h1 h2
    simp [madeCells, Nat.mod_one, bls]
theorem info4 : (Try.prog.info? 4).map (fun i => (i.zero, i.size, i.bytes)) = some (some (.bool false), 1, 1) := by kernel_rfl
theorem under44 : Try.prog.underlying 44 = some (.slice 4) := by kernel_rfl
theorem run_make24 (n : Nat) (hn : n ≤ 100000) (u : World) : (Instr.makeSlice 24 (.int .i64 (n : Nat)) (.int .i64 (n : Nat))).run Try.prog u = .ok (.slice (some ⟨u.heap.size, 0, none⟩) n n) (u.alloc (.cells (pflat (List.replicate n 0)).toArray 3)) := by
  obtain ⟨i, hi, hz, hs, hb⟩ := info_parts info3
  have := run_makeSlice (P := Try.prog) u 24 3 i (.int .i64 0) under24 hi hz .i64 .i64 n n (by omega) (Int.le_refl _) (by rw [hs]; simp; omega) (by rw [hb]; simp; omega) (by omega)
  rw [hs] at this
  simp only [Int.toNat_natCast, Nat.mul_one] at this
  have hc : madeCells (Value.int .i64 0).cells n = (pflat (List.replicate n 0)).toArray := made_zero n
  rw [this, hc]
theorem run_make44 (n : Nat) (hn : n ≤ 100000) (u : World) : (Instr.makeSlice 44 (.int .i64 (n : Nat)) (.int .i64 (n : Nat))).run Try.prog u = .ok (.slice (some ⟨u.heap.size, 0, none⟩) n n) (u.alloc (.cells (bls (List.replicate n false)).toArray 4)) := by
  obtain ⟨i, hi, hz, hs, hb⟩ := info_parts info4
  have := run_makeSlice (P := Try.prog) u 44 4 i (.bool false) under44 hi hz .i64 .i64 n n (by omega) (Int.le_refl _) (by rw [hs]; simp; omega) (by rw [hb]; simp; omega) (by omega)
  rw [hs] at this
  simp only [Int.toNat_natCast, Nat.mul_one] at this
  have hc : madeCells (Value.bool false).cells n = (bls (List.replicate n false)).toArray := made_false n
  rw [this, hc]
/-- The first k are -1, the others nought. -/
def negL (n k : Nat) : List Int := (List.range n).map fun i => if i < k then -1 else 0
theorem negL_len (n k : Nat) : (negL n k).length = n := by simp [negL]
theorem negL_zero (n : Nat) : negL n 0 = List.replicate n 0 := by
  apply List.ext_getElem
  · simp [negL]
  · intro i h1 h2; simp [negL]
theorem negL_all (n : Nat) : negL n n = List.replicate n (-1) := by
  apply List.ext_getElem
  · simp [negL]
  · intro i h1 h2; simp [negL] at h1 ⊢; omega
theorem negL_set (n k : Nat) : (negL n k).set k (-1) = negL n (k + 1) := by
  apply List.ext_getElem
  · simp [negL]
  · intro i h1 h2
    simp only [negL, List.getElem_set, List.getElem_map, List.getElem_range]
    by_cases e : k = i
    · subst e; simp
    · rw [if_neg e]
      by_cases h3 : i < k
      · rw [if_pos h3, if_pos (by omega)]
      · rw [if_neg h3, if_neg (by omega)]
/-- Boxes that a call makes first. -/
theorem boxes1 (w : World) (a : List Value) (s : TypeId) : Row (w.alloc (.cells a.toArray s)) w.heap.size a ∧ Below w.heap.size w (w.alloc (.cells a.toArray s)) :=
  ⟨Row.new w a s, (Below.refl _ _).alloc (Nat.le_refl _) _⟩
theorem boxes2 (w : World) (a b : List Value) (s t : TypeId) : Row ((w.alloc (.cells a.toArray s)).alloc (.cells b.toArray t)) w.heap.size a ∧ Row ((w.alloc (.cells a.toArray s)).alloc (.cells b.toArray t)) (w.heap.size + 1) b ∧
    Below w.heap.size w ((w.alloc (.cells a.toArray s)).alloc (.cells b.toArray t)) := by
  have e : (w.alloc (.cells a.toArray s)).heap.size = w.heap.size + 1 := by simp
  have r := Row.new (w.alloc (.cells a.toArray s)) b t
  rw [e] at r
  exact ⟨(Row.new w a s).al _, r, ((Below.refl _ _).alloc (Nat.le_refl _) _).alloc (by simp) _⟩
theorem boxes3 (w : World) (a b c : List Value) (s t u : TypeId) : Row (((w.alloc (.cells a.toArray s)).alloc (.cells b.toArray t)).alloc (.cells c.toArray u)) w.heap.size a ∧ Row (((w.alloc (.cells a.toArray s)).alloc (.cells b.toArray t)).alloc (.cells c.toArray u)) (w.heap.size + 1) b ∧
    Row (((w.alloc (.cells a.toArray s)).alloc (.cells b.toArray t)).alloc (.cells c.toArray u)) (w.heap.size + 1 + 1) c ∧ Below w.heap.size w (((w.alloc (.cells a.toArray s)).alloc (.cells b.toArray t)).alloc (.cells c.toArray u)) := by
  obtain ⟨h1, h2, h3⟩ := boxes2 w a b s t
  have e : ((w.alloc (.cells a.toArray s)).alloc (.cells b.toArray t)).heap.size = w.heap.size + 1 + 1 := by simp
  have r := Row.new ((w.alloc (.cells a.toArray s)).alloc (.cells b.toArray t)) c u
  rw [e] at r
  exact ⟨h1.al _, h2.al _, r, h3.alloc (by simp; omega) _⟩
theorem Blk.al {W : World} {b : Nat} {l : List Value} (h : Blk W b l) (o : Obj) : Blk (W.alloc o) b l := h.keep ((Below.refl _ _).alloc (Nat.le_refl _) _)
/-- Blocks that a call makes first. -/
theorem blks1 (w : World) (a : List Value) (s : TypeId) : Blk (w.alloc (.cells a.toArray s)) w.heap.size a ∧ Below w.heap.size w (w.alloc (.cells a.toArray s)) :=
  ⟨Blk.new w a s, (Below.refl _ _).alloc (Nat.le_refl _) _⟩
theorem blks2 (w : World) (a b : List Value) (s t : TypeId) : Blk ((w.alloc (.cells a.toArray s)).alloc (.cells b.toArray t)) w.heap.size a ∧ Blk ((w.alloc (.cells a.toArray s)).alloc (.cells b.toArray t)) (w.heap.size + 1) b ∧
    Below w.heap.size w ((w.alloc (.cells a.toArray s)).alloc (.cells b.toArray t)) := by
  have e : (w.alloc (.cells a.toArray s)).heap.size = w.heap.size + 1 := by simp
  have r := Blk.new (w.alloc (.cells a.toArray s)) b t
  rw [e] at r
  exact ⟨(Blk.new w a s).al _, r, ((Below.refl _ _).alloc (Nat.le_refl _) _).alloc (by simp) _⟩
theorem blks3 (w : World) (a b c : List Value) (s t u : TypeId) : Blk (((w.alloc (.cells a.toArray s)).alloc (.cells b.toArray t)).alloc (.cells c.toArray u)) w.heap.size a ∧ Blk (((w.alloc (.cells a.toArray s)).alloc (.cells b.toArray t)).alloc (.cells c.toArray u)) (w.heap.size + 1) b ∧
    Blk (((w.alloc (.cells a.toArray s)).alloc (.cells b.toArray t)).alloc (.cells c.toArray u)) (w.heap.size + 1 + 1) c ∧ Below w.heap.size w (((w.alloc (.cells a.toArray s)).alloc (.cells b.toArray t)).alloc (.cells c.toArray u)) := by
  obtain ⟨h1, h2, h3⟩ := blks2 w a b s t
  have e : ((w.alloc (.cells a.toArray s)).alloc (.cells b.toArray t)).heap.size = w.heap.size + 1 + 1 := by simp
  have r := Blk.new ((w.alloc (.cells a.toArray s)).alloc (.cells b.toArray t)) c u
  rw [e] at r
  exact ⟨h1.al _, h2.al _, r, h3.alloc (by simp; omega) _⟩
/-- Two new blocks. -/
structure Two (w W : World) (g h : Nat) (la lb : List Value) : Prop where
  a : Blk W g la
  b : Blk W h lb
  bel : Below w.heap.size w W
  ne : g ≠ h
  lg : w.heap.size ≤ g
  lh : w.heap.size ≤ h
theorem Two.keep {w W W' : World} {g h : Nat} {la lb : List Value} (k : Two w W g h la lb) (hb : Below W.heap.size W W') : Two w W' g h la lb := ⟨k.a.keep hb, k.b.keep hb, below_call k.bel hb, k.ne, k.lg, k.lh⟩
theorem Two.putA {w W : World} {g h : Nat} {la lb : List Value} (k : Two w W g h la lb) (i : Nat) (v : Value) : Two w (W.setCell ⟨g, i, none⟩ v) g h (la.set i v) lb := ⟨k.a.put i v, k.b.keepG (grown_set W g i v) (fun e => k.ne e.symm), k.bel.setCell (p := ⟨g, i, none⟩) k.lg _, k.ne, k.lg, k.lh⟩
theorem Two.putB {w W : World} {g h : Nat} {la lb : List Value} (k : Two w W g h la lb) (i : Nat) (v : Value) : Two w (W.setCell ⟨h, i, none⟩ v) g h la (lb.set i v) := ⟨k.a.keepG (grown_set W h i v) k.ne, k.b.put i v, k.bel.setCell (p := ⟨h, i, none⟩) k.lh _, k.ne, k.lg, k.lh⟩
/-- The children that have been looked at. -/
def abK (ab : List Int) (i : Nat) (ch : List Int) (k : Nat) : List Int := (ch.take k).foldl (fun a c => ab1 a i c) ab
theorem abK_zero (ab : List Int) (i : Nat) (ch : List Int) : abK ab i ch 0 = ab := rfl
theorem abK_succ {ab : List Int} {i : Nat} {ch : List Int} {k : Nat} {c : Int} (h : ch[k]? = some c) : abK ab i ch (k + 1) = ab1 (abK ab i ch k) i c := by
  unfold abK; rw [List.take_add_one, h]; simp
theorem abK_len (ab : List Int) (i : Nat) (ch : List Int) (k : Nat) : (abK ab i ch k).length = ab.length := by
  unfold abK
  generalize ch.take k = l
  induction l generalizing ab with
  | nil => rfl
  | cons a r ih => rw [List.foldl_cons, ih, ab1_len]
def ChOk (n i : Nat) (ab ch : List Int) (k : Nat) : Prop := ∀ (j : Nat) (c : Int), j < k → ch[j]? = some c → inR i n c ∧ (c ≠ -1 → (abK ab i ch j)[c.toNat]? = some (-1))
theorem ChOk.next {n i : Nat} {ab ch : List Int} {k : Nat} {c : Int} (h : ChOk n i ab ch k) (hc : ch[k]? = some c) (h1 : inR i n c) (h2 : c ≠ -1 → (abK ab i ch k)[c.toNat]? = some (-1)) : ChOk n i ab ch (k + 1) := by
  intro j c' hj hc'
  by_cases e : j = k
  · subst e; rw [hc] at hc'; injection hc' with hc'; subst hc'; exact ⟨h1, h2⟩
  · exact h j c' (by omega) hc'
theorem child_low {ch : List Int} {lo hi : Int} {k : Nat} {c : Int} (hch : ch = [lo, hi]) (hc : ch[k]? = some c) : (k = 0 ∧ c = lo) ∨ (k = 1 ∧ c = hi) := by
  subst hch
  rcases k with _ | _ | k
  · simp at hc; exact .inl ⟨rfl, hc.symm⟩
  · simp at hc; exact .inr ⟨rfl, hc.symm⟩
  · simp at hc
variable {d : Nat} {t : List Nd} {i : Nat} {ab : List Int} {us : List Bool} {x : Nd}
/-- A child that has another node above it, or is out of range. -/
theorem child_out {k : Nat} {c : Int} (hx : t[i]? = some x) (hc : [x.lo, x.hi][k]? = some c) (h : ¬ inR i t.length c) : ¬ KdS d t := fun hK => by
  have ho := hK.ok i x hx
  rcases child_low rfl hc with ⟨_, rfl⟩ | ⟨_, rfl⟩
  · exact h ho.lo
  · exact h ho.hi
theorem child_two (h : ParI d t i ab us) {k : Nat} {c v : Int} (hx : t[i]? = some x) (hc : [x.lo, x.hi][k]? = some c) (hr : inR i t.length c) (hc1 : c ≠ -1) (hv : (abK ab i [x.lo, x.hi] k)[c.toNat]? = some v) (hv1 : v ≠ -1) : ¬ KdS d t := by
  unfold inR at hr
  have hlt : c.toNat < t.length := by omega
  rcases child_low rfl hc with ⟨rfl, rfl⟩ | ⟨rfl, rfl⟩
  · exact h.two hlt hv hv1 ⟨x, hx, .inl (by omega)⟩
  · by_cases e : x.lo = x.hi
    · exact fun hK => hc1 (by have := hK.diff i x hx e; omega)
    · have e1 : abK ab i [x.lo, x.hi] 1 = ab1 ab i x.lo := by rw [abK_succ (k := 0) rfl]; rfl
      rw [e1] at hv
      unfold ab1 at hv
      split at hv
      · exact h.two hlt hv hv1 ⟨x, hx, .inr (by omega)⟩
      · rw [List.getElem?_set] at hv
        split at hv
        · rename_i h1
          exact fun hK => by have := (hK.ok i x hx).lo; unfold inR at this; omega
        · exact h.two hlt hv hv1 ⟨x, hx, .inr (by omega)⟩
theorem abK_two (ab : List Int) (i : Nat) (a b : Int) : abK ab i [a, b] 2 = ab1 (ab1 ab i a) i b := rfl
/-- What parents answers. -/
def ParP (d : Nat) (t : List Nd) (w : World) (e : Ending) (W' : World) : Prop := Below w.heap.size w W' ∧
  ((¬ KdS d t ∧ e = .returned (.tuple #[.slice none 0 0, .bool false])) ∨ ∃ (g : Nat) (ab : List Int), KdS d t ∧ e = .returned (.tuple #[.slice (some ⟨g, 0, none⟩) t.length t.length, .bool true]) ∧ w.heap.size ≤ g ∧ Blk W' g (pflat ab) ∧ ∀ c : Nat, c < t.length → (ab[c]? = some (-1) ∧ c = 0) ∨ ∃ p : Nat, ab[c]? = some ((p : Nat) : Int) ∧ Lk t p c)
end Go.Proofs.Ng
end

