/-
  Texts put together: Dh Ca Di Bn Bo.
-/
import Derived.Test.YteeeogdfnpdpcaaGreatZNeighborFinds15
import Derived.Test.YteeeogdfnpdpcaaGreatZNeighborFinds14
set_option linter.unusedVariables false
section
/-
  The k nearest of those visited; walks: the closures of Nearest.
-/
namespace Go.Proofs.Ng
open Go.RowKit

/-- Farther, by distances. -/
def farD (dP : Nat → Int) (i j : Nat) : Bool := decide (dP j < dP i ∨ dP i = dP j ∧ j < i)
theorem far_eq {ds : List Int} {dP : Nat → Int} {i j : Nat} (hi : dat ds i = dP i) (hj : dat ds j = dP j) : far ds i j = farD dP i j := by unfold far farD; rw [hi, hj]
theorem farD_tr {dP : Nat → Int} {a b c : Nat} (h : farD dP a b = true) (k : farD dP b c = true) : farD dP a c = true := by
  unfold farD at *; simp only [decide_eq_true_eq] at *; omega
theorem farD_tot {dP : Nat → Int} {a b : Nat} (h : farD dP a b = false) (hne : a ≠ b) : farD dP b a = true := by
  unfold farD at *; simp only [decide_eq_true_eq, decide_eq_false_iff_not] at *; omega
/-- h: the k nearest of l. -/
def Best (k : Nat) (dP : Nat → Int) (l h : List Nat) : Prop := ∃ rest, (h ++ rest).Perm l ∧ h.length = min k l.length ∧ ∀ a ∈ h, ∀ b ∈ rest, farD dP b a = true
theorem Best.nil (k : Nat) (dP : Nat → Int) : Best k dP [] [] := ⟨[], .refl _, by simp, by simp⟩
theorem Best.more {k : Nat} {dP : Nat → Int} {l h h1 : List Nat} {p : Nat} (hb : Best k dP l h) (hp : h1.Perm (p :: h)) (hl : h1.length ≤ k) : Best k dP (l ++ [p]) h1 := by
  obtain ⟨rest, h1', h2, h3⟩ := hb
  have hl1 : h1.length = h.length + 1 := by rw [hp.length_eq]; rfl
  have hlr : h.length + rest.length = l.length := by rw [← List.length_append]; exact h1'.length_eq
  have hr : rest = [] := List.length_eq_zero_iff.1 (by omega)
  subst hr
  rw [List.append_nil] at h1'
  refine ⟨[], ?_, by simp; omega, by simp⟩
  rw [List.append_nil]
  exact hp.trans ((List.Perm.cons p h1').trans (List.perm_append_comm (l₁ := [p]) (l₂ := l)))
theorem Best.drop {k : Nat} {dP : Nat → Int} {l h h1 h2 : List Nat} {p r : Nat} (hb : Best k dP l h) (hp : h1.Perm (p :: h)) (hk : k < h1.length) (hr : (r :: h2).Perm h1) (hfar : ∀ a ∈ h1, farD dP a r = false) (hnd : (l ++ [p]).Nodup) : Best k dP (l ++ [p]) h2 := by
  obtain ⟨rest, h1', h2', h3⟩ := hb
  have hl1 : h1.length = h.length + 1 := by rw [hp.length_eq]; rfl
  have hl2 : h1.length = h2.length + 1 := by rw [← hr.length_eq]; rfl
  have hlr : h.length + rest.length = l.length := by rw [← List.length_append]; exact h1'.length_eq
  have hall : (r :: (h2 ++ rest)).Perm (l ++ [p]) := by
    have e1 : (r :: (h2 ++ rest)).Perm (h1 ++ rest) := by rw [← List.cons_append]; exact hr.append_right rest
    have e2 : (h1 ++ rest).Perm (p :: (h ++ rest)) := by rw [← List.cons_append]; exact hp.append_right rest
    exact e1.trans (e2.trans ((List.Perm.cons p h1').trans (List.perm_append_comm (l₁ := [p]) (l₂ := l))))
  have hnd2 : (r :: (h2 ++ rest)).Nodup := hall.nodup_iff.2 hnd
  refine ⟨r :: rest, List.perm_middle.trans hall, by simp; omega, fun a ha b hb => ?_⟩
  rw [List.nodup_cons] at hnd2
  have hra : a ≠ r := fun e => hnd2.1 (by rw [← e]; simp [ha])
  have ha1 : a ∈ h1 := hr.mem_iff.1 (by simp [ha])
  have hra2 : farD dP r a = true := farD_tot (hfar a ha1) hra
  rw [List.mem_cons] at hb
  rcases hb with rfl | hb
  · exact hra2
  · have ha2 := hp.mem_iff.1 ha1
    rw [List.mem_cons] at ha2
    rcases ha2 with rfl | ha2
    · -- the new one stays: the one that goes is an old one
      have hr1 : r ∈ h1 := hr.mem_iff.1 (by simp)
      have hr2 := hp.mem_iff.1 hr1
      rw [List.mem_cons] at hr2
      rcases hr2 with rfl | hr2
      · exact absurd rfl hra
      · exact farD_tr (h3 r hr2 b hb) hra2
    · exact h3 a ha2 b hb
/-- k of those visited are at most that far. -/
def CutN (k : Nat) (dP : Nat → Int) (l : List Nat) (most : Int) : Prop := ∃ h rest : List Nat, (h ++ rest).Perm l ∧ h.length = k ∧ ∀ a ∈ h, dP a ≤ most
theorem Best.cut {k : Nat} {dP : Nat → Int} {l h : List Nat} {most : Int} (hb : Best k dP l h) (hk : k ≤ h.length) (hm : ∀ a ∈ h, dP a ≤ most) : CutN k dP l most := by
  obtain ⟨rest, h1, h2, _⟩ := hb
  exact ⟨h, rest, h1, by omega, hm⟩
/-- The world of Nearest: the heap holds the nearest of those that were visited. -/
structure NW (base hB g11 gD n b12 b9 k : Nat) (dP : Nat → Int) (l : List Nat) (v : Value) (W : World) : Prop where
  ex : ∃ (ds : List Int) (h : List Nat), HpW base hB g11 gD n ds h v W ∧ IsH (far ds) h h.length ∧ Best k dP l h ∧ ∀ p ∈ l, dat ds p = dP p
  c12 : Blk W b12 [.pointer (some ⟨hB, 0, none⟩)]
  c9 : Blk W b9 [.int .i64 (k : Nat)]
  l12 : b12 < base ∧ b12 ≠ hB ∧ b12 ≠ gD
  l9 : b9 < base ∧ b9 ≠ hB ∧ b9 ≠ gD
  nd : l.Nodup
  el : ∀ p ∈ l, p < n
/-- What the closures change. -/
structure FrN (hB gD : Nat) (v v' : Value) (W W' : World) : Prop where
  os : W'.os = W.os
  tape : W'.tape = W.tape
  output : W'.output = W.output
  size : W.heap.size ≤ W'.heap.size
  block : ∀ b, b < W.heap.size → b ≠ hB → b ≠ gD → v.ownBlock ≠ some b → W'.heap[b]? = W.heap[b]?
  own : ∀ g, v'.ownBlock = some g → v.ownBlock = some g ∨ W.heap.size ≤ g
variable {base hB g11 gD n b12 b9 k : Nat} {dP : Nat → Int} {l : List Nat} {v : Value} {W : World}
theorem FrN.below {W' : World} (hb : Below W.heap.size W W') : FrN hB gD v v W W' := ⟨hb.os, hb.tape, hb.output, hb.size, fun b hl _ _ _ => hb.block b hl, fun _ h => .inl h⟩
theorem FrN.ofH {v' : Value} {W' : World} (h : FrH hB v v' W W') : FrN hB gD v v' W W' := ⟨h.os, h.tape, h.output, h.size, fun b hl h1 _ h3 => h.block b hl h1 h3, h.own⟩
theorem FrN.trans {v' v'' : Value} {A B : World} (h : FrN hB gD v v' W A) (k : FrN hB gD v' v'' A B) : FrN hB gD v v'' W B :=
  ⟨k.os.trans h.os, k.tape.trans h.tape, k.output.trans h.output, Nat.le_trans h.size k.size, fun b hl hn hd hv => (k.block b (Nat.lt_of_lt_of_le hl h.size) hn hd (fun e => by
    rcases h.own b e with h1 | h1
    · exact hv h1
    · omega)).trans (h.block b hl hn hd hv), fun g hg => by
    rcases k.own g hg with h1 | h1
    · exact h.own g h1
    · right; have := h.size; omega⟩
theorem Blk.keepN {v' : Value} {W' : World} {b : Nat} {c : List Value} (h : Blk W b c) (hf : FrN hB gD v v' W W') (h1 : b ≠ hB) (h2 : b ≠ gD) (h3 : v.ownBlock ≠ some b) : Blk W' b c := by
  have e := hf.block b h.lt h1 h2 h3
  refine ⟨fun i u hi => ?_, fun i => ?_, Nat.lt_of_lt_of_le h.lt hf.size⟩
  · rw [← h.c i u hi]; simp [World.cell?, e]
  · rw [← h.f i]; simp [World.frozen?, e]
theorem NW.keep {W' : World} (h : NW base hB g11 gD n b12 b9 k dP l v W) (hb : Below W.heap.size W W') : NW base hB g11 gD n b12 b9 k dP l v W' := by
  obtain ⟨ds, hp, h1, h2, h3, h4⟩ := h.ex
  exact ⟨⟨ds, hp, h1.keep hb, h2, h3, h4⟩, h.c12.keep hb, h.c9.keep hb, h.l12, h.l9, h.nd, h.el⟩
end Go.Proofs.Ng
end

section
/-
  The plain law of k-d trees: links, what lies below a node, valid trees.
-/
namespace Go.Proofs.Ng
open Go.RowKit

/-- Node j hangs at node i. -/
def Lk (t : List Nd) (i j : Nat) : Prop := ∃ x, t[i]? = some x ∧ (x.lo = (j : Nat) ∨ x.hi = (j : Nat))
/-- Node j is c or lies below it. -/
inductive Dn (t : List Nd) (c : Nat) : Nat → Prop
  | self : Dn t c c
  | step {i j : Nat} : Dn t c i → Lk t i j → Dn t c j
def inR (i n : Nat) (c : Int) : Prop := c = -1 ∨ ((i : Int) < c ∧ c < n)
structure NdOk (n d i : Nat) (x : Nd) : Prop where
  p0 : 0 ≤ x.pt
  p1 : x.pt < n
  a0 : 0 ≤ x.ax
  a1 : x.ax < d
  lo : inR i n x.lo
  hi : inR i n x.hi
structure KdS (d : Nat) (t : List Nd) : Prop where
  ok : ∀ (i : Nat) (x : Nd), t[i]? = some x → NdOk t.length d i x
  pts : ∀ (i j : Nat) (x y : Nd), t[i]? = some x → t[j]? = some y → x.pt = y.pt → i = j
  one : ∀ j, 1 ≤ j → j < t.length → ∃ i, Lk t i j
  uniq : ∀ i i' j, Lk t i j → Lk t i' j → i = i'
  diff : ∀ (i : Nat) (x : Nd), t[i]? = some x → x.lo = x.hi → x.lo = -1
/-- The point of node j is on the right side of node u. -/
def Side (pts : List (List Int)) (t : List Nd) (u : Nat) (x : Nd) (j : Nat) (y : Nd) : Prop :=
  (∀ c : Nat, x.lo = (c : Nat) → Dn t c j → bef pts x.ax.toNat y.pt.toNat x.pt.toNat = true) ∧ (∀ c : Nat, x.hi = (c : Nat) → Dn t c j → bef pts x.ax.toNat x.pt.toNat y.pt.toNat = true)
def KdO (pts : List (List Int)) (t : List Nd) : Prop := ∀ (u : Nat) (x : Nd) (j : Nat) (y : Nd), t[u]? = some x → t[j]? = some y → Side pts t u x j y
def KdOk (pts : List (List Int)) (t : List Nd) : Prop := vpB pts = true ∧ t.length = pts.length ∧ KdS (dimP pts) t ∧ KdO pts t

/-- All links go up. -/
def Up (t : List Nd) : Prop := ∀ (i : Nat) (x : Nd), t[i]? = some x → inR i t.length x.lo ∧ inR i t.length x.hi
theorem KdS.up {d : Nat} {t : List Nd} (h : KdS d t) : Up t := fun i x hx => ⟨(h.ok i x hx).lo, (h.ok i x hx).hi⟩
theorem Up.lk {t : List Nd} (h : Up t) {i j : Nat} (hl : Lk t i j) : i < j ∧ j < t.length := by
  obtain ⟨x, hx, hc⟩ := hl
  obtain ⟨h1, h2⟩ := h i x hx
  unfold inR at h1 h2
  rcases hc with hc | hc <;> omega
theorem Dn.le {t : List Nd} (h : Up t) {c j : Nat} (hd : Dn t c j) : c ≤ j := by
  induction hd with
  | self => exact Nat.le_refl _
  | step _ hl ih => have := h.lk hl; omega
theorem Dn.lt {t : List Nd} (h : Up t) {c j : Nat} (hc : c < t.length) (hd : Dn t c j) : j < t.length := by
  cases hd with
  | self => exact hc
  | step _ hl => exact (h.lk hl).2
theorem Dn.trans {t : List Nd} {a b c : Nat} (h : Dn t a b) (k : Dn t b c) : Dn t a c := by
  induction k with
  | self => exact h
  | step _ hl ih => exact ih.step hl
theorem Dn.head {t : List Nd} {a b : Nat} (h : Dn t a b) : a = b ∨ ∃ c, Lk t a c ∧ Dn t c b := by
  induction h with
  | self => exact .inl rfl
  | step _ hl ih =>
    rcases ih with rfl | ⟨c, h1, h2⟩
    · exact .inr ⟨_, hl, .self⟩
    · exact .inr ⟨c, h1, h2.step hl⟩
/-- Below two nodes: one of them is below the other. -/
theorem Dn.chain {t : List Nd} (hu : ∀ i i' j, Lk t i j → Lk t i' j → i = i') {a b j : Nat} (h : Dn t a j) (k : Dn t b j) : Dn t a b ∨ Dn t b a := by
  induction h with
  | self => exact .inr k
  | step h1 hl ih =>
    cases k with
    | self => exact .inl (h1.step hl)
    | step k1 kl =>
      have := hu _ _ _ hl kl
      subst this
      exact ih k1
/-- The two sides of a node have nothing in common. -/
theorem sides_apart {t : List Nd} (hup : Up t) (hu : ∀ i i' j, Lk t i j → Lk t i' j → i = i') {i a b j : Nat} (ha : Lk t i a) (hb : Lk t i b) (hab : a ≠ b) (h : Dn t a j) (k : Dn t b j) : False := by
  have key : ∀ a b : Nat, Lk t i a → Lk t i b → a ≠ b → Dn t a b → False := by
    intro a b ha hb hab h
    cases h with
    | self => exact hab rfl
    | step h1 hl =>
      have := hu _ _ _ hl hb
      subst this
      have h2 := h1.le hup
      have h3 := hup.lk ha
      omega
  rcases h.chain hu k with h1 | h1
  · exact key a b ha hb hab h1
  · exact key b a hb ha (fun e => hab e.symm) h1

/-- The nodes below, in the reference's order. -/
def belowP (t : List Nd) : Nat → Int → List Nat
  | 0, _ => []
  | f + 1, i => if i < 0 then [] else match t[i.toNat]? with
    | none => []
    | some x => i.toNat :: (belowP t f x.lo ++ belowP t f x.hi)
theorem belowP_neg (t : List Nd) (f : Nat) {i : Int} (h : i < 0) : belowP t f i = [] := by
  cases f with
  | zero => rfl
  | succ f => unfold belowP; rw [if_pos h]
theorem belowP_at {t : List Nd} {f i : Nat} {x : Nd} (h : t[i]? = some x) : belowP t (f + 1) (i : Nat) = i :: (belowP t f x.lo ++ belowP t f x.hi) := by
  rw [belowP, if_neg (by omega)]
  simp [h]
theorem mem_belowP {t : List Nd} (hup : Up t) : ∀ (f : Nat) (i : Int) (j : Nat), i < t.length → (t.length : Int) ≤ f + i ∨ i < 0 → (j ∈ belowP t f i ↔ 0 ≤ i ∧ Dn t i.toNat j)
  | 0, i, j, h1, h2 => by
    have : i < 0 := by omega
    rw [belowP_neg _ _ this]
    simp only [List.not_mem_nil, false_iff]
    omega
  | f + 1, i, j, h1, h2 => by
    by_cases h0 : i < 0
    · rw [belowP_neg _ _ h0]
      simp only [List.not_mem_nil, false_iff]
      omega
    · obtain ⟨k, rfl⟩ : ∃ k : Nat, i = (k : Nat) := ⟨i.toNat, by omega⟩
      obtain ⟨x, hx⟩ : ∃ x, t[k]? = some x := ⟨_, List.getElem?_eq_getElem (by omega)⟩
      obtain ⟨hl, hh⟩ := hup k x hx
      unfold inR at hl hh
      rw [belowP_at hx, List.mem_cons, List.mem_append, mem_belowP hup f x.lo j (by omega) (by omega), mem_belowP hup f x.hi j (by omega) (by omega)]
      simp only [Int.toNat_natCast]
      constructor
      · rintro (rfl | ⟨h3, h4⟩ | ⟨h3, h4⟩)
        · exact ⟨by omega, .self⟩
        · exact ⟨by omega, (Dn.self.step ⟨x, hx, .inl (by omega)⟩).trans h4⟩
        · exact ⟨by omega, (Dn.self.step ⟨x, hx, .inr (by omega)⟩).trans h4⟩
      · rintro ⟨-, h4⟩
        rcases h4.head with rfl | ⟨c, ⟨y, hy, hc⟩, h5⟩
        · exact .inl rfl
        · rw [hx] at hy
          injection hy with hy
          subst hy
          rcases hc with hc | hc
          · exact .inr (.inl ⟨by omega, by rw [hc]; exact h5⟩)
          · exact .inr (.inr ⟨by omega, by rw [hc]; exact h5⟩)
theorem belowP_nodup {t : List Nd} (hup : Up t) (hu : ∀ i i' j, Lk t i j → Lk t i' j → i = i') (hd : ∀ (i : Nat) (x : Nd), t[i]? = some x → x.lo = x.hi → x.lo = -1) : ∀ (f : Nat) (i : Int), i < t.length → (t.length : Int) ≤ f + i ∨ i < 0 → (belowP t f i).Nodup
  | 0, i, _, _ => List.nodup_nil
  | f + 1, i, h1, h2 => by
    by_cases h0 : i < 0
    · rw [belowP_neg _ _ h0]; exact List.nodup_nil
    · obtain ⟨k, rfl⟩ : ∃ k : Nat, i = (k : Nat) := ⟨i.toNat, by omega⟩
      obtain ⟨x, hx⟩ : ∃ x, t[k]? = some x := ⟨_, List.getElem?_eq_getElem (by omega)⟩
      obtain ⟨hl, hh⟩ := hup k x hx
      unfold inR at hl hh
      rw [belowP_at hx, List.nodup_cons, List.nodup_append]
      have ml := fun j => mem_belowP hup f x.lo j (by omega) (by omega)
      have mh := fun j => mem_belowP hup f x.hi j (by omega) (by omega)
      refine ⟨?_, belowP_nodup hup hu hd f x.lo (by omega) (by omega), belowP_nodup hup hu hd f x.hi (by omega) (by omega), ?_⟩
      · rw [List.mem_append, ml, mh]
        rintro (⟨h3, h4⟩ | ⟨h3, h4⟩)
        · have := h4.le hup; omega
        · have := h4.le hup; omega
      · intro a ha b hb
        rw [ml] at ha
        rw [mh] at hb
        rintro rfl
        refine sides_apart hup hu (i := k) (a := x.lo.toNat) (b := x.hi.toNat) ⟨x, hx, .inl (by omega)⟩ ⟨x, hx, .inr (by omega)⟩ (fun e => ?_) ha.2 hb.2
        have := hd k x hx (by omega)
        omega
theorem nodup_le : ∀ (n : Nat) (l : List Nat), l.Nodup → (∀ x ∈ l, x < n) → l.length ≤ n
  | 0, l, _, hl => by
    cases l with
    | nil => simp
    | cons a r => exact absurd (hl a (by simp)) (Nat.not_lt_zero _)
  | n + 1, l, hn, hl => by
    by_cases hm : n ∈ l
    · have h1 := nodup_le n (l.erase n) (hn.erase n) (fun x hx => by
        have h2 := (hn.mem_erase_iff).1 hx
        have h3 := hl x h2.2
        have h4 := h2.1
        omega)
      rw [List.length_erase_of_mem hm] at h1
      omega
    · have := nodup_le n l hn (fun x hx => by
        have h3 := hl x hx
        rcases Nat.lt_or_ge x n with h | h
        · exact h
        · exact absurd (show n ∈ l by have : x = n := by omega
                                      rw [← this]; exact hx) hm)
      omega
theorem belowP_len {t : List Nd} (hup : Up t) (hu : ∀ i i' j, Lk t i j → Lk t i' j → i = i') (hd : ∀ (i : Nat) (x : Nd), t[i]? = some x → x.lo = x.hi → x.lo = -1) (f : Nat) (i : Int) (h1 : i < t.length) (h2 : (t.length : Int) ≤ f + i ∨ i < 0) : (belowP t f i).length ≤ t.length := by
  refine nodup_le _ _ (belowP_nodup hup hu hd f i h1 h2) fun j hj => ?_
  rw [mem_belowP hup f i j h1 h2] at hj
  exact hj.2.lt hup (by omega)
end Go.Proofs.Ng
end

section
/-
  Walks: the closures of Nearest.
-/
namespace Go.Proofs.Ng
open Go.RowKit

variable {base hB g11 gD n b12 b9 k : Nat} {dP : Nat → Int} {l : List Nat} {v : Value} {W : World}
theorem IsH.eq {ds ds' : List Int} {h : List Nat} (hh : IsH (far ds) h h.length) (he : ∀ p ∈ h, dat ds' p = dat ds p) : IsH (far ds') h h.length := by
  intro c h0 hc
  have hp := par_lt h0
  have := hh c h0 hc
  unfold far at this ⊢
  rw [he _ (List.mem_of_getElem? (hat_some hc)), he _ (List.mem_of_getElem? (hat_some (show par c < h.length by omega)))]
  exact this
/-- A distance is stored. -/
theorem HpW.dist {ds : List Int} {h : List Nat} (kk : HpW base hB g11 gD n ds h v W) (p : Nat) (d : Int) : HpW base hB g11 gD n (ds.set p d) h v (W.setCell ⟨gD, p, none⟩ (.int .i64 d)) ∧ FrN hB gD v v W (W.setCell ⟨gD, p, none⟩ (.int .i64 d)) := by
  have o3 := kk.o3
  have hs : W.grownBy (W.setCell ⟨gD, p, none⟩ (.int .i64 d)) (some gD) := grown_set W gD p _
  refine ⟨⟨kk.obj.keepG hs kk.n2, kk.box.keepG hs kk.n3, ?_, by simp [kk.dl], own_blk kk.own fun g _ hl hb => hs.block g hl (fun e => by injection e with e; omega), kk.el, Nat.le_trans kk.hb hs.size, kk.o1, kk.o2, kk.o3, kk.n1, kk.n2, kk.n3⟩, ⟨hs.os, hs.tape, hs.output, hs.size, fun b hl _ h2 _ => hs.block b hl (fun e => h2 (by injection e)), fun g h => .inl h⟩⟩
  have := kk.dst.put p (.int .i64 d)
  have e : (pflat ds).set p (.int .i64 d) = pflat (ds.set p d) := by simp [pflat, List.map_set]
  rw [e] at this
  exact this
theorem dat_set {ds : List Int} {p : Nat} {d : Int} (hp : p < ds.length) (i : Nat) : dat (ds.set p d) i = if i = p then d else dat ds i := by
  unfold dat
  rw [List.getElem?_set]
  by_cases e : i = p
  · subst e; simp [hp]
  · rw [if_neg (fun h => e h.symm), if_neg e]
/-- What the closure that takes a point answers. -/
def TakeP (base hB g11 gD n b12 b9 k : Nat) (dP : Nat → Int) (l : List Nat) (v : Value) (W : World) (e : Ending) (W' : World) : Prop := e = .returned (.tuple #[]) ∧ ∃ v', NW base hB g11 gD n b12 b9 k dP l v' W' ∧ FrN hB gD v v' W W'
set_option maxRecDepth 100000 in
set_option maxHeartbeats 4000000 in
theorem take46 (hw : NW base hB g11 gD n b12 b9 k dP l v W) (p : Nat) (hp : p < n) (hpl : p ∉ l) (hn : n ≤ 1024) (hk1 : 1 ≤ k) (hk : k ≤ 9223372036854775807) :
    Calls Tryz.prog 46 #[.int .i64 p, .int .i64 (dP p), .pointer (some ⟨g11, 0, none⟩), .pointer (some ⟨b12, 0, none⟩), .pointer (some ⟨b9, 0, none⟩)] W (TakeP base hB g11 gD n b12 b9 k dP (l ++ [p]) v W) := by
  obtain ⟨⟨ds, h, k0, his, hbe, hda⟩, c12, c9, l12, l9, hnd, hel⟩ := hw
  have hnd2 : (l ++ [p]).Nodup := by
    rw [List.nodup_append]
    exact ⟨hnd, by simp, fun a ha b hb e => by simp at hb; subst hb; subst e; exact hpl ha⟩
  have hll : l.length + 1 ≤ n := by
    have := nodup_le n (l ++ [p]) hnd2 (fun x hx => by
      rw [List.mem_append, List.mem_singleton] at hx
      rcases hx with hx | rfl
      · exact hel x hx
      · exact hp)
    simpa using this
  have hhl : h.length ≤ l.length := by obtain ⟨_, _, h2, _⟩ := hbe; omega
  have hmem : ∀ a ∈ h, a ∈ l := by
    obtain ⟨rest, h1, _, _⟩ := hbe
    exact fun a ha => h1.mem_iff.1 (by simp [ha])
  have x0 : W.cell? ⟨g11, 0, none⟩ = some (.slice (some ⟨gD, 0, none⟩) n n) := k0.box.c 0 _ rfl
  have lx := k0.box.lt
  have x1 := dat_cell k0 hp
  have f1 := k0.dst.f p
  have lD := k0.dst.lt
  obtain ⟨k1, fr1⟩ := k0.dist p (dP p)
  have hvb : ∀ b, b < base → v.ownBlock ≠ some b := fun b hb e => by have := (own_lt k0.own b e).2; omega
  have c12a := c12.keepN fr1 l12.2.1 l12.2.2 (hvb _ l12.1)
  have c9a := c9.keepN fr1 l9.2.1 l9.2.2 (hvb _ l9.1)
  have hda2 : ∀ q ∈ l ++ [p], dat (ds.set p (dP p)) q = dP q := fun q hq => by
    rw [dat_set (by rw [k0.dl]; exact hp)]
    rw [List.mem_append, List.mem_singleton] at hq
    rcases hq with hq | rfl
    · rw [if_neg (fun e => by subst e; exact hpl hq)]; exact hda q hq
    · rw [if_pos rfl]
  have his2 : IsH (far (ds.set p (dP p))) h h.length := his.eq fun q hq => by
    rw [hda2 q (by simp [hmem q hq]), hda q (hmem q hq)]
  have hel2 : ∀ q ∈ l ++ [p], q < n := fun q hq => by
    rw [List.mem_append, List.mem_singleton] at hq
    rcases hq with hq | rfl
    · exact hel q hq
    · exact hp
  have K1 := Lib.hid k1
  have FR1 := Lib.hid fr1
  have HVB := Lib.hid hvb
  have C12 := Lib.hid c12a
  have C9 := Lib.hid c9a
  have HDA := Lib.hid hda2
  have HIS := Lib.hid his2
  have HEL := Lib.hid hel2
  have HBE := Lib.hid hbe
  have HND := Lib.hid hnd2
  have hh1 : h.length + 1 ≤ 100000 := by omega
  have HHL : Hid (h.length + 1 ≤ n) := Lib.hid (by omega)
  have HKO := Lib.hid k0.own
  clear k0 k1 fr1 hvb c12 c9 c12a c9a hda hda2 his his2 hel hel2 hbe hnd hnd2 hll hhl hmem hpl
  go_enter Tryz.func46, Tryz.ntmps46
  go_upto_region 1 with fail
  clear x0 lx x1 f1 lD
  generalize (W.setCell ⟨gD, p, none⟩ (.int .i64 (dP p))) = W1 at K1 FR1 C12 C9 ⊢
  have y0 : W1.cell? ⟨b12, 0, none⟩ = some (.pointer (some ⟨hB, 0, none⟩)) := C12.out.c 0 _ rfl
  have ly := C12.out.lt
  have HPU := Lib.hid (push47 K1.out p hp HIS.out (by omega) hh1)
  go_wp2_with fail
  clear y0 ly
  with_reducible refine HPU.out.mono ?_
  rintro e W2 ⟨rfl, h1, v1, k2, fr2, his3, hpm⟩
  have c12b := C12.out.keepN (FrN.ofH (gD := gD) fr2) l12.2.1 l12.2.2 (HVB.out _ l12.1)
  have c9b := C9.out.keepN (FrN.ofH (gD := gD) fr2) l9.2.1 l9.2.2 (HVB.out _ l9.1)
  have y0 : W2.cell? ⟨b12, 0, none⟩ = some (.pointer (some ⟨hB, 0, none⟩)) := c12b.c 0 _ rfl
  have ly := c12b.lt
  have y1 : W2.cell? ⟨b9, 0, none⟩ = some (.int .i64 (k : Nat)) := c9b.c 0 _ rfl
  have ly1 := c9b.lt
  have hlen := fun X (hX : Below W2.heap.size W2 X) => len45 (k2.keep hX)
  have HLE := Lib.hid hlen
  have K2 := Lib.hid k2
  have FR2 := Lib.hid (FR1.out.trans (FrN.ofH fr2))
  have HIS3 := Lib.hid his3
  have HPM := Lib.hid hpm
  have C12b := Lib.hid c12b
  have C9b := Lib.hid c9b
  have hl1 : h1.length = h.length + 1 := by rw [hpm.length_eq]; rfl
  have HL1 := Lib.hid hl1
  have hh2 : h1.length ≤ 100000 := by omega
  clear k2 fr2 his3 hpm c12b c9b hlen hl1 K1 FR1 C12 C9 HPU
  by_cases hgt : k < h1.length
  · have d1 : decide ((k : Int) < (h1.length : Int)) = true := decide_eq_true (by omega)
    have d1' : decide (k < h1.length) = true := decide_eq_true hgt
    have HGT := Lib.hid hgt
    clear hgt
    go_wp2_with fail
    go_quiet ((go_at_call 45; exact Calls.quiet_of_same (HLE.out _ (below_drew _ _))))
    clear y0 ly y1 ly1
    have hb3 := below_drew W2 nq
    have K3 := Lib.hid (K2.out.keep hb3)
    have C12c := Lib.hid (C12b.out.keep hb3)
    have C9c := Lib.hid (C9b.out.keep hb3)
    have FR3 := Lib.hid (FR2.out.trans (FrN.below hb3))
    clear hb3 HLE K2 C12b C9b FR2
    generalize W2.drewN nq = W3 at K3 C12c C9c FR3 ⊢
    have y0 : W3.cell? ⟨b12, 0, none⟩ = some (.pointer (some ⟨hB, 0, none⟩)) := C12c.out.c 0 _ rfl
    have ly := C12c.out.lt
    have HPO := Lib.hid (pop48 (m := h.length) K3.out HL1.out HIS3.out (by omega) (by omega))
    go_wp2_with fail
    with_reducible refine HPO.out.mono ?_
    rintro e W4 ⟨rfl, h2, v2, k4, fr4, his4, hpm4⟩
    have hv1b : ∀ b, b < base → v1.ownBlock ≠ some b := fun b hb e => by have := (own_lt K3.out.own b e).2; omega
    have hmem1 : ∀ a ∈ h1, a ∈ l ++ [p] := fun a ha => by
      have := HPM.out.mem_iff.1 ha
      rw [List.mem_cons] at this
      rcases this with rfl | h5
      · simp
      · obtain ⟨rest, h6, _, _⟩ := HBE.out
        have := h6.mem_iff.1 (show a ∈ h ++ rest by simp [h5])
        simp [this]
    have hroot : ∀ a ∈ h1, farD dP a (hat h1 0) = false := fun a ha => by
      obtain ⟨i, hi⟩ := List.getElem?_of_mem ha
      have hil := (List.getElem?_eq_some_iff.1 hi).1
      have := HIS3.out.root (far_bf _) i hil
      have e1 : hat h1 i = a := by unfold hat; rw [hi]; rfl
      rw [e1] at this
      have h0 : hat h1 0 ∈ h1 := List.mem_of_getElem? (hat_some (by omega))
      rw [far_eq (HDA.out a (hmem1 a ha)) (HDA.out _ (hmem1 _ h0))] at this
      exact this
    have HF : Hid (TakeP base hB g11 gD n b12 b9 k dP (l ++ [p]) v W (.returned (.tuple #[])) W4) := Lib.hid ⟨rfl, v2, ⟨⟨_, h2, k4, his4, HBE.out.drop HPM.out HGT.out hpm4 hroot HND.out, HDA.out⟩, C12c.out.keepN (FrN.ofH (gD := gD) fr4) l12.2.1 l12.2.2 (hv1b _ l12.1), C9c.out.keepN (FrN.ofH (gD := gD) fr4) l9.2.1 l9.2.2 (hv1b _ l9.1), l12, l9, HND.out, HEL.out⟩, FR3.out.trans (FrN.ofH fr4)⟩
    clear k4 fr4 his4 hpm4 hv1b hmem1 hroot y0 ly
    go_wp2_with fail
    refine bodyPost_end (v := .tuple #[]) (by simp [results, Tryz.results46, go_sem]) rfl ?_
    exact HF.out
  · have d1 : decide ((k : Int) < (h1.length : Int)) = false := decide_eq_false (by omega)
    have d1' : decide (k < h1.length) = false := decide_eq_false hgt
    have hle : h1.length ≤ k := by omega
    have HB1 := Lib.hid (HBE.out.more HPM.out hle)
    clear hgt hle
    go_wp2_with fail
    go_quiet ((go_at_call 45; exact Calls.quiet_of_same (HLE.out _ (below_drew _ _))))
    have hb3 := below_drew W2 nq
    have HF : Hid (TakeP base hB g11 gD n b12 b9 k dP (l ++ [p]) v W (.returned (.tuple #[])) (W2.drewN nq)) := Lib.hid ⟨rfl, v1, ⟨⟨_, h1, K2.out.keep hb3, HIS3.out, HB1.out, HDA.out⟩, C12b.out.keep hb3, C9b.out.keep hb3, l12, l9, HND.out, HEL.out⟩, FR2.out.trans (FrN.below hb3)⟩
    clear hb3
    go_wp2_with fail
    refine bodyPost_end (v := .tuple #[]) (by simp [results, Tryz.results46, go_sem]) rfl ?_
    exact HF.out
/-- What the closure that bounds answers. -/
def BndP (k : Nat) (dP : Nat → Int) (l : List Nat) (W : World) (e : Ending) (W' : World) : Prop := ∃ (most : Int) (b : Bool) (q : Nat), e = .returned (.tuple #[.int .i64 most, .bool b]) ∧ W' = W.drewN q ∧ (b = true → CutN k dP l most)
set_option maxRecDepth 100000 in
set_option maxHeartbeats 4000000 in
theorem bound44 (hw : NW base hB g11 gD n b12 b9 k dP l v W) (hn : n ≤ 1024) (hk1 : 1 ≤ k) (hk : k ≤ 9223372036854775807) :
    Calls Tryz.prog 44 #[.pointer (some ⟨b12, 0, none⟩), .pointer (some ⟨b9, 0, none⟩), .pointer (some ⟨g11, 0, none⟩)] W (BndP k dP l W) := by
  obtain ⟨⟨ds, h, k0, his, hbe, hda⟩, c12, c9, l12, l9, hnd, hel⟩ := hw
  have hll := nodup_le n l hnd hel
  have hhl : h.length ≤ l.length := by obtain ⟨_, _, h2, _⟩ := hbe; omega
  have hmem : ∀ a ∈ h, a ∈ l := by
    obtain ⟨rest, h1, _, _⟩ := hbe
    exact fun a ha => h1.mem_iff.1 (by simp [ha])
  have y0 : W.cell? ⟨b12, 0, none⟩ = some (.pointer (some ⟨hB, 0, none⟩)) := c12.c 0 _ rfl
  have ly := c12.lt
  have y1 : W.cell? ⟨b9, 0, none⟩ = some (.int .i64 (k : Nat)) := c9.c 0 _ rfl
  have ly1 := c9.lt
  have hlen := fun X (hX : Below W.heap.size W X) => len45 (k0.keep hX)
  have HLE := Lib.hid hlen
  have hhx : h.length ≤ 100000 := by omega
  by_cases hlt : h.length < k
  · have d1 : decide ((h.length : Int) < (k : Int)) = true := decide_eq_true (by omega)
    have d1' : decide (h.length < k) = true := decide_eq_true hlt
    clear hlen k0 his hbe hda c12 c9 l12 l9 hnd hel hll hhl hmem hlt
    go_enter Tryz.func44, Tryz.ntmps44
    go_wp2_with fail
    go_quiet ((go_at_call 45; exact Calls.quiet_of_same (HLE.out _ (below_drew _ _))))
    go_wp2_with fail
    refine bodyPost_ret (v := .tuple #[.int .i64 0, .bool false]) (by simp [results, Tryz.results44, go_sem]) rfl ?_
    exact ⟨0, false, nq, rfl, rfl, fun h => by cases h⟩
  · have d1 : decide ((h.length : Int) < (k : Int)) = false := decide_eq_false (by omega)
    have d1' : decide (h.length < k) = false := decide_eq_false hlt
    obtain ⟨g, c, rfl, hbg, lg, hcap⟩ := k0.form (by omega)
    have x0 : W.cell? ⟨hB, 0, none⟩ = some (.slice (some ⟨g, 0, none⟩) h.length c) := k0.obj.c 0 _ rfl
    have l0 := k0.obj.lt
    have x1 : W.cell? ⟨g, 0, none⟩ = some (.int .i64 (hat h 0 : Nat)) := hp_cell k0 (by omega)
    have x2 : W.cell? ⟨g11, 0, none⟩ = some (.slice (some ⟨gD, 0, none⟩) n n) := k0.box.c 0 _ rfl
    have l2 := k0.box.lt
    have h0 : hat h 0 ∈ h := List.mem_of_getElem? (hat_some (by omega))
    have h0n := hat_el k0 (show 0 < h.length by omega)
    have x3 := dat_cell k0 h0n
    have l3 := k0.dst.lt
    rw [hda _ (hmem _ h0)] at x3
    have HCU : Hid (CutN k dP l (dP (hat h 0))) := Lib.hid (hbe.cut (by omega) fun a ha => by
      obtain ⟨i, hi⟩ := List.getElem?_of_mem ha
      have hil := (List.getElem?_eq_some_iff.1 hi).1
      have := his.root (far_bf _) i hil
      have e1 : hat h i = a := by unfold hat; rw [hi]; rfl
      rw [e1, far_eq (hda a (hmem a ha)) (hda _ (hmem _ h0))] at this
      unfold farD at this
      simp only [decide_eq_false_iff_not] at this
      omega)
    have hpos : (0 : Int) < (h.length : Int) := by omega
    have hpos' : 0 < h.length := by omega
    clear hlen k0 his hbe hda c12 c9 l12 l9 hnd hel hll hhl hmem hlt h0
    generalize hat h 0 = r at *
    generalize dP r = most at *
    go_enter Tryz.func44, Tryz.ntmps44
    go_wp2_with fail
    go_quiet ((go_at_call 45; exact Calls.quiet_of_same (HLE.out _ (below_drew _ _))))
    go_wp2_with fail
    go_quiet (fail)
    go_wp2_with fail
    refine bodyPost_ret (v := .tuple #[.int .i64 most, .bool true]) (by simp [results, Tryz.results44, go_sem]) rfl ?_
    exact ⟨most, true, _, rfl, dr2 W _ _, fun _ => HCU.out⟩
end Go.Proofs.Ng
end

section
/-
  Walks: Build's grow: the state; the plain facts of its parts.
-/
namespace Go.Proofs.Ng
open Go.RowKit

/-- What stands where: the boxes of points, tree and grow, and the set; base lies behind them. -/
structure Pl (w0 : World) (base b1 b2 b5 bs : Nat) : Prop where
  p1 : w0.heap.size ≤ b1 ∧ b1 < base
  p2 : w0.heap.size ≤ b2 ∧ b2 < base
  p5 : w0.heap.size ≤ b5 ∧ b5 < base
  ps : w0.heap.size ≤ bs ∧ bs < base
  n12 : b1 ≠ b2
  n15 : b1 ≠ b5
  n1s : b1 ≠ bs
  n25 : b2 ≠ b5
  n2s : b2 ≠ bs
  n5s : b5 ≠ bs
def growV (b1 b2 b5 : Nat) : Value := .func (.func 29) #[] #[.pointer (some ⟨b1, 0, none⟩), .pointer (some ⟨b2, 0, none⟩), .pointer (some ⟨b5, 0, none⟩)]
/-- The world of Build's grow. -/
structure GW (w0 : World) (base b1 b2 b5 bs : Nat) (oa : Option Addr) (n ca : Nat) (c : List Nat) (t : List Nd) (v : Value) (W : World) : Prop where
  bel : Below w0.heap.size w0 W
  k1 : Blk W b1 [.slice oa n ca]
  k2 : Blk W b2 [v]
  k5 : Blk W b5 [growV b1 b2 b5]
  own : W.ownsRow base 57 4 v t.length (nflat t)
  set : Blk W bs (cvs c)
  hb : base ≤ W.heap.size
variable {w0 : World} {base b1 b2 b5 bs n ca : Nat} {oa : Option Addr} {c : List Nat} {t : List Nd} {v : Value}
theorem GW.keep {W W' : World} (h : GW w0 base b1 b2 b5 bs oa n ca c t v W) (hb : Below W.heap.size W W') : GW w0 base b1 b2 b5 bs oa n ca c t v W' :=
  ⟨below_call h.bel hb, h.k1.keep hb, h.k2.keep hb, h.k5.keep hb, own_keep h.own hb, h.set.keep hb, Nat.le_trans h.hb hb.size⟩
theorem GW.sorted {W W' : World} {c' : List Nat} (p : Pl w0 base b1 b2 b5 bs) (h : GW w0 base b1 b2 b5 bs oa n ca c t v W) (hg : W.grownBy W' (some bs)) (hs : Blk W' bs (cvs c')) : GW w0 base b1 b2 b5 bs oa n ca c' t v W' := by
  refine ⟨h.bel.trans ⟨hg.os, hg.tape, hg.output, hg.size, fun k hk => hg.block k (Nat.lt_of_lt_of_le hk h.bel.size) (fun e => by injection e with e; have := p.ps; omega)⟩, h.k1.keepG hg p.n1s, h.k2.keepG hg p.n2s, h.k5.keepG hg p.n5s, own_blk h.own fun g hg1 hg2 hg3 => hg.block g hg2 (fun e => by injection e with e; have := p.ps; omega), hs, Nat.le_trans h.hb hg.size⟩
/-- Behind an append and the store into the tree's box. -/
theorem GW.app {W W1 : World} {t' : List Nd} {v' : Value} (p : Pl w0 base b1 b2 b5 bs) (h : GW w0 base b1 b2 b5 bs oa n ca c t v W) (hg : W.grownBy W1 v.ownBlock) (ho : W1.ownsRow base 57 4 v' t'.length (nflat t')) : GW w0 base b1 b2 b5 bs oa n ca c t' v' (W1.setCell ⟨b2, 0, none⟩ v') := by
  have B1 : Below base W W1 := grown_below h.own hg h.hb
  have e : ∀ k, k ≠ b2 → (W1.setCell ⟨b2, 0, none⟩ v').heap[k]? = W1.heap[k]? := fun k hk => Below.heap_setCell W1 ⟨b2, 0, none⟩ v' k hk
  have hG := grown_set W1 b2 0 v'
  have p1 := p.p1; have p2 := p.p2; have p5 := p.p5; have ps := p.ps
  refine ⟨(h.bel.trans (B1.mono (by omega))).setCell (p := ⟨b2, 0, none⟩) p2.1 _, (h.k1.low p1.2 B1).keepG hG p.n12, (h.k2.low p2.2 B1).put 0 _, (h.k5.low p5.2 B1).keepG hG (fun e => p.n25 e.symm), own_blk ho fun g _ _ hb => e g (by omega), (h.set.low ps.2 B1).keepG hG (fun e => p.n2s e.symm), Nat.le_trans h.hb (Nat.le_trans B1.size hG.size)⟩
/-- Behind two stores into the tree. -/
theorem GW.put {W : World} {g m c0 i j : Nat} {x y : Value} {t' : List Nd} (p : Pl w0 base b1 b2 b5 bs) (h : GW w0 base b1 b2 b5 bs oa n ca c t (.slice (some ⟨g, 0, none⟩) t.length c0) W) (hm : 0 < t.length) (hl : t'.length = t.length) (ht : nflat t' = ((nflat t).set i x).set j y) (_ : m = 0) : GW w0 base b1 b2 b5 bs oa n ca c t' (.slice (some ⟨g, 0, none⟩) t.length c0) ((W.setCell ⟨g, i, none⟩ x).setCell ⟨g, j, none⟩ y) := by
  have hgb := (own_lt h.own g rfl).2
  have p1 := p.p1; have p2 := p.p2; have p5 := p.p5; have ps := p.ps
  have h1 := own_set1 (own_set1 h.own i hm x) j hm y
  rw [← ht] at h1
  have e : ∀ k, k ≠ g → ((W.setCell ⟨g, i, none⟩ x).setCell ⟨g, j, none⟩ y).heap[k]? = W.heap[k]? := fun k hk => (Below.heap_setCell _ ⟨g, j, none⟩ y k hk).trans (Below.heap_setCell W ⟨g, i, none⟩ x k hk)
  have hG : W.grownBy ((W.setCell ⟨g, i, none⟩ x).setCell ⟨g, j, none⟩ y) (some g) := grown_trans (grown_set W g i x) (grown_set _ g j y)
  refine ⟨(h.bel.setCell (p := ⟨g, i, none⟩) (show w0.heap.size ≤ g by omega) x).setCell (p := ⟨g, j, none⟩) (show w0.heap.size ≤ g by omega) y, h.k1.keepG hG (by omega), h.k2.keepG hG (by omega), h.k5.keepG hG (by omega), by rw [hl]; exact h1, h.set.keepG hG (by omega), Nat.le_trans h.hb hG.size⟩

/-! parts of the set -/
theorem part_mid {c l : List Nat} {off k : Nat} (ho : off + l.length ≤ c.length) (hk : k ≤ l.length) : ((c.take off ++ (l ++ c.drop (off + l.length))).drop off).take k = l.take k := by
  have h1 : (c.take off).length = off := by rw [List.length_take]; omega
  rw [List.drop_append, h1, Nat.sub_self, List.drop_zero, List.drop_eq_nil_of_le (by omega), List.nil_append, List.take_append_of_le_length hk]
theorem part_len {c l : List Nat} {off : Nat} (ho : off + l.length ≤ c.length) : (c.take off ++ (l ++ c.drop (off + l.length))).length = c.length := by
  simp only [List.length_append, List.length_take, List.length_drop]; omega
theorem part_out {c l : List Nat} {off : Nat} (ho : off + l.length ≤ c.length) (i : Nat) (hi : i < off ∨ off + l.length ≤ i) : (c.take off ++ (l ++ c.drop (off + l.length)))[i]? = c[i]? := by
  have h1 : (c.take off).length = off := by rw [List.length_take]; omega
  rcases hi with hi | hi
  · rw [List.getElem?_append_left (by omega), List.getElem?_take, if_pos hi]
  · rw [List.getElem?_append_right (by omega), h1, List.getElem?_append_right (by omega), List.getElem?_drop]
    congr 1
    omega
theorem part_mem {c l : List Nat} {off : Nat} {x : Nat} (hx : x ∈ c.take off ++ (l ++ c.drop (off + l.length))) (hl : ∀ y ∈ l, y ∈ c) : x ∈ c := by
  simp only [List.mem_append] at hx
  rcases hx with hx | hx | hx
  · exact List.mem_of_mem_take hx
  · exact hl x hx
  · exact List.mem_of_mem_drop hx
theorem part_in {c l : List Nat} {off i : Nat} (ho : off + l.length ≤ c.length) (hi : i < l.length) : (c.take off ++ (l ++ c.drop (off + l.length)))[off + i]? = l[i]? := by
  have h1 : (c.take off).length = off := by rw [List.length_take]; omega
  rw [List.getElem?_append_right (by omega), h1, Nat.add_sub_cancel_left, List.getElem?_append_left hi]
/-- The upper part, where the lower one has turned. -/
theorem part_high {c c3 l : List Nat} {off k : Nat} (ho : off + l.length ≤ c.length) (hk : k < l.length) (h3 : ∀ i, i < off ∨ off + k ≤ i → c3[i]? = (c.take off ++ (l ++ c.drop (off + l.length)))[i]?) (o' m : Nat) (hm : m = l.length - (k + 1)) (ho' : o' = off + (k + 1) ∨ m = 0) : (c3.drop o').take m = l.drop (k + 1) := by
  rcases ho' with rfl | rfl
  · apply List.ext_getElem?
    intro i
    rw [List.getElem?_take, List.getElem?_drop, List.getElem?_drop]
    split
    · rename_i hi
      rw [h3 _ (.inr (by omega)), show off + (k + 1) + i = off + (k + 1 + i) by omega, part_in ho (by omega)]
    · rw [List.getElem?_eq_none (by omega)]
  · rw [List.take_zero]
    symm
    exact List.drop_eq_nil_of_le (by omega)

/-- What Build's grow answers. -/
def GrowE (w0 : World) (base b1 b2 b5 bs : Nat) (oa : Option Addr) (ca : Nat) (pts : List (List Int)) (off m : Nat) (R : List Nd × Int) (c : List Nat) (e : Ending) (W' : World) : Prop :=
  ∃ c' v', e = .returned (.int .i64 R.2) ∧ GW w0 base b1 b2 b5 bs oa pts.length ca c' R.1 v' W' ∧ (∀ i, i < off ∨ off + m ≤ i → c'[i]? = c[i]?) ∧ c'.length = c.length ∧ ∀ x ∈ c', x < pts.length
end Go.Proofs.Ng
end

section
/-
  Walks: Build's grow.
-/
namespace Go.Proofs.Ng
open Go.RowKit

set_option maxRecDepth 100000 in
set_option maxHeartbeats 8000000 in
theorem grow26 {w0 : World} {oa : Option Addr} {ca base b1 b2 b5 bs : Nat} {pts : List (List Int)} (hP : Pts w0 oa pts) (hvp : vpB pts = true) (p : Pl w0 base b1 b2 b5 bs) :
    ∀ (f off m lev cap : Nat) (c : List Nat) (t : List Nd) (v : Value) (W : World), m ≤ f → off + m ≤ c.length → lev + m ≤ 100000 → t.length + m ≤ 100000 → m ≤ cap → c.length ≤ 100000 → (∀ x ∈ c, x < pts.length) → GW w0 base b1 b2 b5 bs oa pts.length ca c t v W →
    Calls Tryz.prog 29 #[.slice (some ⟨bs, off, none⟩) m cap, .int .i64 lev, .pointer (some ⟨b1, 0, none⟩), .pointer (some ⟨b2, 0, none⟩), .pointer (some ⟨b5, 0, none⟩)] W (GrowE w0 base b1 b2 b5 bs oa ca pts off m (growP pts f t ((c.drop off).take m) lev) c) := by
  have nil : ∀ (f off lev cap : Nat) (c : List Nat) (t : List Nd) (v : Value) (W : World), (∀ x ∈ c, x < pts.length) → GW w0 base b1 b2 b5 bs oa pts.length ca c t v W → Calls Tryz.prog 29 #[.slice (some ⟨bs, off, none⟩) 0 cap, .int .i64 lev, .pointer (some ⟨b1, 0, none⟩), .pointer (some ⟨b2, 0, none⟩), .pointer (some ⟨b5, 0, none⟩)] W (GrowE w0 base b1 b2 b5 bs oa ca pts off 0 (growP pts f t ((c.drop off).take 0) lev) c) := by
    intro f off lev cap c t v W hlt hG
    rw [List.take_zero, growP_nil]
    go_enter Tryz.func29, Tryz.ntmps29
    go_wp2
    go_ret
    exact ⟨c, v, rfl, hG, fun _ _ => rfl, rfl, hlt⟩
  intro f
  induction f with
  | zero =>
    intro off m lev cap c t v W hf ho hlv hts hcap hcl hlt hG
    have hm0 : m = 0 := by omega
    subst hm0
    exact nil 0 off lev cap c t v W hlt hG
  | succ f ih =>
    intro off m lev cap c t v W hf ho hlv hts hcap hcl hlt hG
    rcases Nat.eq_zero_or_pos m with hm0 | hm0
    · subst hm0
      exact nil (f + 1) off lev cap c t v W hlt hG
    · clear nil
      have hsl : ((c.drop off).take m).length = m := by rw [List.length_take, List.length_drop]; omega
      have hs0 : (c.drop off).take m ≠ [] := fun e => by rw [e] at hsl; simp at hsl; omega
      have hsm : ∀ x ∈ (c.drop off).take m, x ∈ c := fun x hx => List.mem_of_mem_drop (List.mem_of_mem_take hx)
      obtain ⟨hp1024, hdim⟩ := vp_dim hvp
      obtain ⟨x0, hx0⟩ := List.exists_mem_of_length_pos (l := c) (by omega)
      have hx0l := hlt x0 hx0
      obtain ⟨c0, hc0⟩ : ∃ c, pts[0]? = some c := ⟨_, List.getElem?_eq_getElem (by omega)⟩
      have hcd := hdim c0 (List.mem_of_getElem? hc0)
      obtain ⟨bp, offp, oc, cc, hoa, q0, lbp, -⟩ := (hP.keep hG.bel).get hc0
      have hl0 : ((m : Int) == 0) = false := by simp; omega
      rw [hcd.1, Nat.add_zero] at q0
      have hd1 : ((dimP pts : Int) == 0) = false := by simp; omega
      have hmod : ((lev : Int)).tmod (dimP pts : Int) = ((axP pts lev : Nat) : Int) := by
        unfold axP
        rw [Int.tmod_eq_emod_of_nonneg (by omega)]
        omega
      have hax : axP pts lev < dimP pts := Nat.mod_lt _ (by omega)
      have haxs : ∀ xs ∈ pts, axP pts lev < xs.length := fun xs hx => by rw [(hdim xs hx).1]; exact hax
      have haN : axP pts lev < 1000 := by omega
      subst hoa
      generalize hs : (c.drop off).take m = s at hsl hs0 hsm ⊢
      have HLT := Lib.hid hlt
      have HAX := Lib.hid haxs
      have HG := Lib.hid hG
      have HSM := Lib.hid hsm
      have HS := Lib.hid hs
      have k1 : W.cell? ⟨b1, 0, none⟩ = some (.slice (some ⟨bp, offp, none⟩) pts.length ca) := hG.k1.c 0 _ rfl
      have l1 := hG.k1.lt
      clear hlt haxs hG hsm hx0 hc0 hdim hs
      go_enter Tryz.func29, Tryz.ntmps29
      go_wp2_with fail
      have hba : Below W.heap.size W (W.alloc (.cells #[.int .i64 (axP pts lev : Nat)] 3)) := (Below.refl _ _).alloc (Nat.le_refl _) _
      have hG1 := HG.out.keep hba
      have ka := Blk.new W [.int .i64 (axP pts lev : Nat)] 3
      have hbaB : base ≤ W.heap.size := HG.out.hb
      generalize (W.alloc (.cells #[.int .i64 (axP pts lev : Nat)] 3)) = W1 at hG1 ka ⊢
      generalize W.heap.size = ba at ka hbaB ⊢
      have hps := p.ps
      have hsort := sort27 (off := off) (n := m) (cap := cap) hP (axP pts lev) W1 hG1.bel p.ps.1 hG1.set (hG1.k1.c 0 _ rfl) (ka.c 0 _ rfl) hG1.k1.lt ka.lt p.n1s (by omega) hm0 ho HLT.out HAX.out (by omega) haN hcl
      rw [HS.out] at hsort
      have HSO := Lib.hid hsort
      have HG1 := Lib.hid hG1
      have HKA := Lib.hid ka
      clear hsort hG1 ka hba k1 l1 q0 HG hd1 hmod
      with_reducible refine HSO.out.mono ?_
      rintro e W2 ⟨rfl, hset, hg⟩
      have hll : (srt pts (axP pts lev) s).length = m := by rw [srt_len, hsl]
      have hG2 := HG1.out.sorted p hg hset
      have ka2 := HKA.out.keepG hg (by omega)
      have HPO := Lib.hid (part_out (c := c) (l := srt pts (axP pts lev) s) (off := off) (by omega))
      have HPL := Lib.hid (part_len (c := c) (l := srt pts (axP pts lev) s) (off := off) (by omega))
      have HPM := Lib.hid (fun k (hk : k ≤ (srt pts (axP pts lev) s).length) => part_mid (c := c) (l := srt pts (axP pts lev) s) (off := off) (k := k) (by omega) hk)
      have HPI := Lib.hid (fun i (hi : i < (srt pts (axP pts lev) s).length) => part_in (c := c) (l := srt pts (axP pts lev) s) (off := off) (i := i) (by omega) hi)
      have HPH := Lib.hid (fun (c3 : List Nat) (k : Nat) => part_high (c := c) (c3 := c3) (l := srt pts (axP pts lev) s) (off := off) (k := k) (by omega))
      have hc2 : ∀ x ∈ c.take off ++ (srt pts (axP pts lev) s ++ c.drop (off + m)), x < pts.length := fun x hx => HLT.out x (by rw [← hll] at hx; exact part_mem hx (fun y hy => HSM.out y (srt_mem.1 hy)))
      rw [hll] at HPO HPL HPM HPI HPH
      generalize c.take off ++ (srt pts (axP pts lev) s ++ c.drop (off + m)) = c2 at hset hG2 HPO HPL HPM HPI HPH hc2
      have HC2 := Lib.hid hc2
      clear hset hg hc2 HSO HG1 HKA
      have hmid := mid_at (pts := pts) (a := axP pts lev) (s := s) (by omega)
      rw [hsl] at hmid
      obtain ⟨mp, hmp⟩ : ∃ mp, mp = midP pts (axP pts lev) s := ⟨_, rfl⟩
      rw [← hmp] at hmid
      have HMP := Lib.hid hmp
      clear hmp
      obtain ⟨k, hk⟩ : ∃ k, k = m / 2 := ⟨_, rfl⟩
      have hk0 : ((m : Int)).tdiv 2 = (k : Int) := by rw [Int.tdiv_eq_ediv_of_nonneg (by omega)]; omega
      have hkl : k < m := by omega
      rw [← hk] at hmid
      have HK := Lib.hid hk
      clear hk
      have xm : W2.cell? ⟨bs, off + k, none⟩ = some (.int .i64 (mp : Nat)) := hG2.set.c _ _ (cvs_get (by rw [HPI.out k hkl]; exact hmid))
      have xa : W2.cell? ⟨ba, 0, none⟩ = some (.int .i64 (axP pts lev : Nat)) := ka2.c 0 _ rfl
      obtain ⟨tb, ct, rfl, -⟩ := own_rows (rows := t.map Nd.vals) (nd_four t) (by rw [List.length_map]; exact hG2.own)
      rw [List.length_map] at hG2
      have xt : W2.cell? ⟨b2, 0, none⟩ = some (.slice tb t.length ct) := hG2.k2.c 0 _ rfl
      have ft := hG2.k2.f 0
      have ls := hG2.set.lt
      have la := ka2.lt
      have lt2 := hG2.k2.lt
      have HG2 := Lib.hid hG2
      clear hG2 ka2 hmid
      go_upto_region 6 with fail
      obtain ⟨i0, hi, hz0, hz1, hz2⟩ := info_parts info36
      have hl1 : (t ++ [(⟨(mp : Nat), (axP pts lev : Nat), 0, 0⟩ : Nd)]).length = t.length + 1 := by simp
      go_cut [] (fun X => ∃ v', GW w0 base b1 b2 b5 bs (some ⟨bp, offp, none⟩) pts.length ca c2 (t ++ [⟨(mp : Nat), (axP pts lev : Nat), 0, 0⟩]) v' X)
      case first =>
        have HA := Lib.hid (HG2.out.keep (W' := (W2.alloc (.cells #[.int .i64 (mp : Nat), .int .i64 (axP pts lev : Nat), .int .i64 0, .int .i64 0] 57)).drew) ((Below.refl _ _).alloc (Nat.le_refl _) _).drew)
        have hcl4 : ∀ (j : Nat) (u : Value), [Value.int .i64 (mp : Nat), .int .i64 (axP pts lev : Nat), .int .i64 0, .int .i64 0][j]? = some u → (W2.alloc (.cells #[.int .i64 (mp : Nat), .int .i64 (axP pts lev : Nat), .int .i64 0, .int .i64 0] 57)).drew.cell? ((⟨W2.heap.size, 0, none⟩ : Addr).add j) = some u := new_cells W2 [.int .i64 (mp : Nat), .int .i64 (axP pts lev : Nat), .int .i64 0, .int .i64 0] 57
        go_region_law (first
          | (refine step_append_lies _ rfl (.tmp 30) (.tmp 37) 27 rfl base 57 i0 _ 4 32 under23 hi hz0 hz1 hz2 rfl (by decide) (.slice tb t.length ct) t.length (nflat t) (by simp [Act.eval]) HA.out.own ⟨W2.heap.size, 0, none⟩ 1 1 [.int .i64 (mp : Nat), .int .i64 (axP pts lev : Nat), .int .i64 0, .int .i64 0] (by simp [Act.eval]) rfl hcl4 (by intro u hu; simp at hu; rcases hu with rfl | rfl | rfl <;> rfl) (by decide) (by unfold maxLen; omega) (by omega) HA.out.hb _ rfl ?_
             intro g cg W3 hown hgrow hat hlt3
             have hB3 := (HA.out.k2.low p.p2.2 (grown_below HA.out.own hgrow HA.out.hb))
             have c04 := hB3.c 0 _ rfl
             have f04 := hB3.f 0
             have l04 := hB3.lt
             have HO := Lib.hid hown
             clear hown))
        all_goals
          go_wp2_with fail
          go_meet
          exact ⟨_, HA.out.app p hgrow (by rw [hl1, nflat_snoc]; exact HO.out)⟩
      case rest =>
        clear xm xa xt ft ls la lt2 HG2 hi hz0 hz1 hz2
        obtain ⟨v1, hG3⟩ := hcut
        have e1 : ((lev + 1 : Nat) : Int) = (lev : Int) + 1 := by omega
        have e2 : growP pts f (t ++ [⟨(mp : Nat), (axP pts lev : Nat), 0, 0⟩]) ((c2.drop off).take k) (lev + 1) = lowP pts f t s lev := by rw [HPM.out k (by omega), HMP.out, HK.out, ← hsl]; rfl
        have hlow : ∀ X, Below wc.heap.size wc X → _ := fun X hX => ih off k (lev + 1) cap c2 (t ++ [⟨(mp : Nat), (axP pts lev : Nat), 0, 0⟩]) v1 X (by omega) (by rw [HPL.out]; omega) (by omega) (by rw [hl1]; omega) (by omega) (by rw [HPL.out]; exact hcl) HC2.out (hG3.keep hX)
        rw [e1, e2] at hlow
        have hll1 := lowP_len (pts := pts) (f := f) (t := t) (s := s) (lev := lev) (by omega)
        rw [hsl, ← HK.out] at hll1
        generalize hR1 : lowP pts f t s lev = R1 at hlow hll1
        have HR1 := Lib.hid hR1
        have HLOW := Lib.hid hlow
        have HLL := Lib.hid hll1
        have x5 : wc.cell? ⟨b5, 0, none⟩ = some (growV b1 b2 b5) := hG3.k5.c 0 _ rfl
        unfold growV at x5
        have l5 := hG3.k5.lt
        have hkc : k ≤ cap := by omega
        have hwl : IntKind.i64.wrap ((lev : Int) + 1) = (lev : Int) + 1 := IntWalk.i64_in _ (by omega)
        clear hlow hll1 hR1 e2 hG3
        go_upto_region 7 with fail
        go_cut [11] (fun y X => ∃ c3 v2, y = .int .i64 R1.2 ∧ GW w0 base b1 b2 b5 bs (some ⟨bp, offp, none⟩) pts.length ca c3 R1.1 v2 X ∧ (∀ i, i < off ∨ off + k ≤ i → c3[i]? = c2[i]?) ∧ c3.length = c2.length ∧ ∀ x ∈ c3, x < pts.length)
        case first =>
          have hq := HLOW.out wc.drew (Below.refl _ _).drew
          go_region_law
            (go_simp
             go_at_call 29
             refine hq.mono ?_
             rintro e X ⟨c3, v2, rfl, h1, h2, h3, h4⟩)
          all_goals
            go_wp2_with fail
            go_meet
            exact ⟨c3, v2, rfl, h1, h2, h3, h4⟩
        case rest =>
          clear x5 l5 HLOW
          obtain ⟨c3, v2, rfl, hG4, hag, hcl3, hm3⟩ := hcut
          have hhigh : ∀ (o' c' : Nat), (o' = off + (k + 1) ∨ m - (k + 1) = 0) → o' + (m - (k + 1)) ≤ off + m → m - (k + 1) ≤ c' → ∀ X, Below wc.heap.size wc X → _ := fun o' c' ho' hoo hc' X hX => ih o' (m - (k + 1)) (lev + 1) c' c3 R1.1 v2 X (by omega) (by rw [hcl3, HPL.out]; omega) (by omega) (by rw [HLL.out]; omega) hc' (by rw [hcl3, HPL.out]; exact hcl) hm3 (hG4.keep hX)
          have hpart : ∀ (o' : Nat), (o' = off + (k + 1) ∨ m - (k + 1) = 0) → (c3.drop o').take (m - (k + 1)) = (srt pts (axP pts lev) s).drop (k + 1) := fun o' ho' => HPH.out c3 k hkl hag o' (m - (k + 1)) rfl ho'
          have e3 : growP pts f R1.1 ((srt pts (axP pts lev) s).drop (k + 1)) (lev + 1) = highP pts f t s lev := by rw [← HR1.out, HK.out, ← hsl]; rfl
          have hhl := highP_len (pts := pts) (f := f) (t := t) (s := s) (lev := lev) (by omega) (by omega)
          rw [hsl] at hhl
          have hhigh2 : ∃ o' c' : Nat, (if cap = k + 1 then o' = off ∧ c' = 0 else o' = off + (k + 1) ∧ c' = cap - (k + 1)) ∧ (o' = off + (k + 1) ∨ m - (k + 1) = 0) ∧ o' + (m - (k + 1)) ≤ off + m ∧ m - (k + 1) ≤ c' := by
            by_cases h : cap = k + 1
            · exact ⟨off, 0, by rw [if_pos h]; exact ⟨rfl, rfl⟩, .inr (by omega), by omega, by omega⟩
            · exact ⟨off + (k + 1), cap - (k + 1), by rw [if_neg h]; exact ⟨rfl, rfl⟩, .inl rfl, by omega, by omega⟩
          obtain ⟨o', c', hoc, ho', hoo, hc'⟩ := hhigh2
          have hhi := hhigh o' c' ho' hoo hc'
          rw [hpart o' ho', e1, e3] at hhi
          generalize hR2 : highP pts f t s lev = R2 at hhi hhl
          have HR2 := Lib.hid hR2
          have HHI := Lib.hid hhi
          have HHL := Lib.hid hhl
          have HAG := Lib.hid hag
          have HC3 := Lib.hid hcl3
          have HOO := Lib.hid hoo
          have HO' := Lib.hid ho'
          have x5 : wc.cell? ⟨b5, 0, none⟩ = some (growV b1 b2 b5) := hG4.k5.c 0 _ rfl
          unfold growV at x5
          have l5 := hG4.k5.lt
          clear hhigh hpart hhi hhl hR2 e3 hag hcl3 hm3 hG4 hoo ho'
          have fin : ∀ (X : World) (c4 : List Nat) (v3 : Value), GW w0 base b1 b2 b5 bs (some ⟨bp, offp, none⟩) pts.length ca c4 R2.1 v3 X → (∀ i, i < o' ∨ o' + (m - (k + 1)) ≤ i → c4[i]? = c3[i]?) → c4.length = c3.length → (∀ x ∈ c4, x < pts.length) → GW w0 base b1 b2 b5 bs (some ⟨bp, offp, none⟩) pts.length ca c4 R2.1 v3 X ∧ (∀ i, i < off ∨ off + m ≤ i → c4[i]? = c[i]?) ∧ c4.length = c.length ∧ (∀ x ∈ c4, x < pts.length) := by
            intro X c4 v3 h1 h2 h3 h4
            refine ⟨h1, fun i hi => ?_, by rw [h3, HC3.out, HPL.out], h4⟩
            have q1 := HO'.out
            have q2 := HOO.out
            rw [h2 i (by omega), HAG.out i (by omega)]
            exact HPO.out i hi
          have FIN := Lib.hid fin
          clear fin
          go_upto_region 8 with fail
          go_cut [12] (fun y X => ∃ c4 v3, y = .int .i64 R2.2 ∧ GW w0 base b1 b2 b5 bs (some ⟨bp, offp, none⟩) pts.length ca c4 R2.1 v3 X ∧ (∀ i, i < off ∨ off + m ≤ i → c4[i]? = c[i]?) ∧ c4.length = c.length ∧ ∀ x ∈ c4, x < pts.length)
          case first =>
            have hq := HHI.out wc.drew (Below.refl _ _).drew
            have hwk : IntKind.i64.wrap ((k : Int) + 1) = (k : Int) + 1 := IntWalk.i64_in _ (by omega)
            have i2 : 0 ≤ (k : Int) + 1 := by omega
            have i3 : (k : Int) + 1 ≤ (m : Int) := by omega
            have i4 : ((k : Int) + 1).toNat = k + 1 := by omega
            by_cases hck : cap = k + 1
            · rw [if_pos hck] at hoc
              obtain ⟨ho1, hc1⟩ := hoc
              rw [ho1, hc1] at hq
              have FI2 := Lib.hid (fun X c4 v3 h1 h2 h3 h4 => FIN.out X c4 v3 h1 (by rw [ho1]; exact h2) h3 h4)
              have h0 : m - (k + 1) = 0 := by omega
              have hck' := hck.symm
              rw [h0] at hq FI2
              rw [hck'] at i4
              clear ho1 hc1 hck hkc h0
              go_region_law
                (go_simp
                 go_at_call 29
                 refine hq.mono ?_
                 rintro e X ⟨c4, v3, rfl, h1, h2, h3, h4⟩)
              all_goals
                go_wp2_with fail
                go_meet
                exact ⟨c4, v3, rfl, FI2.out X c4 v3 h1 h2 h3 h4⟩
            · rw [if_neg hck] at hoc
              obtain ⟨rfl, rfl⟩ := hoc
              go_region_law
                (go_simp
                 go_at_call 29
                 refine hq.mono ?_
                 rintro e X ⟨c4, v3, rfl, h1, h2, h3, h4⟩)
              all_goals
                go_wp2_with fail
                go_meet
                exact ⟨c4, v3, rfl, FIN.out X c4 v3 h1 h2 h3 h4⟩
          case rest =>
            clear x5 l5 HHI
            obtain ⟨c4, v3, rfl, hG5, hag, hcl4, hm4⟩ := hcut
            obtain ⟨g3, cg, rfl⟩ := own_some hG5.own (by rw [HHL.out]; omega)
            obtain ⟨nd, hnd⟩ : ∃ nd, R2.1[t.length]? = some nd := ⟨_, List.getElem?_eq_getElem (by rw [HHL.out]; omega)⟩
            have z2 : wc.cell? ⟨g3, t.length * 4 + 2, none⟩ = some (.int .i64 nd.lo) := own_at hG5.own _ _ (nflat_at hnd (j := 2) rfl)
            have z3 : wc.cell? ⟨g3, t.length * 4 + 3, none⟩ = some (.int .i64 nd.hi) := own_at hG5.own _ _ (nflat_at hnd (j := 3) rfl)
            have f2 := own_frozen hG5.own (by rw [HHL.out]; omega) (t.length * 4 + 2)
            have f3 := own_frozen hG5.own (by rw [HHL.out]; omega) (t.length * 4 + 3)
            have l3 := (own_lt hG5.own g3 rfl).1
            have x2 : wc.cell? ⟨b2, 0, none⟩ = some (.slice (some ⟨g3, 0, none⟩) R2.1.length cg) := hG5.k2.c 0 _ rfl
            have l2 := hG5.k2.lt
            have hi1 : ((t.length : Nat) : Int) < ((R2.1.length : Nat) : Int) := by rw [HHL.out]; omega
            have HG6 := Lib.hid (hG5.put (t' := setLH R2.1 t.length R1.2 R2.2) (m := 0) (i := t.length * 4 + 2) (j := t.length * 4 + 3) (x := .int .i64 R1.2) (y := .int .i64 R2.2) p (by rw [HHL.out]; omega) (setLH_len _ _ _ _) (nflat_lh (by rw [HHL.out]; omega)).symm rfl)
            have HAG4 := Lib.hid hag
            have HCL4 := Lib.hid hcl4
            have HM4 := Lib.hid hm4
            clear hG5 hag hcl4 hm4 hnd
            go_wp2_with fail
            go_ret
            rw [growP_step hs0, HR1.out, HR2.out]
            exact ⟨c4, _, rfl, HG6.out, HAG4.out, HCL4.out, HM4.out⟩
end Go.Proofs.Ng
end

