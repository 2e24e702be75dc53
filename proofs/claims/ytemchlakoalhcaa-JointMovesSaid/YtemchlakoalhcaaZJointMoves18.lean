/-
  Texts put together: Fb Dl Dm Fc.
-/
import Derived.Test.YtemchlakoalhcaaZJointMoves17
import Derived.Test.YtemchlakoalhcaaZJointMoves16
set_option linter.unusedVariables false
section
/-
  Plain law: a search in layers that leaves out what has been seen, with counts of beginnings.
-/
namespace Go.Proofs.Jn

/-- What the search knows. -/
structure Ex where
  seen : List (S4 × Nat)
  bef : List (S4 × S4)
  next : List S4
def s40 : S4 := ⟨0, 0, 0, 0⟩
def getB : List (S4 × S4) → S4 → S4
  | [], _ => s40
  | (b, v) :: r, a => if a = b then v else getB r a
def putB : List (S4 × S4) → S4 → S4 → List (S4 × S4)
  | [], a, v => [(a, v)]
  | (b, u) :: r, a, v => if a = b then (b, v) :: r else (b, u) :: putB r a v
theorem getB_put (l : List (S4 × S4)) (a v b : S4) : getB (putB l a v) b = if b = a then v else getB l b := by
  induction l with
  | nil => simp [putB, getB]
  | cons x r ih =>
    obtain ⟨c, u⟩ := x
    simp only [putB]
    by_cases h : a = c
    · subst h
      simp only [if_true, getB]
      split <;> rfl
    · rw [if_neg h]
      simp only [getB, ih]
      by_cases hb : b = c
      · subst hb; rw [if_pos rfl, if_neg (fun e => h e.symm), if_pos rfl]
      · rw [if_neg hb, if_neg hb]

/-- A state of which the first k vertices lie in the given lists, and the others are nowhere. -/
def InB (cs : Nat → List Nat) (k : Nat) (t : S4) : Prop := (∀ i, i < k → ∃ x : Nat, t.get i = (x : Int) ∧ x ∈ cs i) ∧ ∀ i, k ≤ i → i < 4 → t.get i = -1
theorem InB.mono {f g : Nat → List Nat} {k : Nat} {t : S4} (h : InB f k t) (hfg : ∀ i, i < k → ∀ x ∈ f i, x ∈ g i) : InB g k t :=
  ⟨fun i hi => by obtain ⟨x, h1, h2⟩ := h.1 i hi; exact ⟨x, h1, hfg i hi x h2⟩, h.2⟩
theorem S4.ext_get {s t : S4} (h : ∀ i, i < 4 → s.get i = t.get i) : s = t := by
  have h0 := h 0 (by omega)
  have h1 := h 1 (by omega)
  have h2 := h 2 (by omega)
  have h3 := h 3 (by omega)
  cases s; cases t
  simp only [S4.get] at h0 h1 h2 h3
  simp [h0, h1, h2, h3]
theorem s4n_getN (i : Nat) (h : i < 4) : s4n.get i = -1 := by
  match i, h with
  | 0, _ | 1, _ | 2, _ | 3, _ => rfl
theorem begF_get (s : S4) : ∀ (k i : Nat), k ≤ 4 → i < 4 → (begF s k).get i = if i < k then s.get i else -1
  | 0, i, _, hi => by rw [if_neg (by omega)]; exact s4n_getN i hi
  | k + 1, i, hk, hi => by
    show ((begF s k).set k (s.get k)).get i = _
    rw [S4.get_set _ k i _ (by omega) hi, begF_get s k i (by omega) hi]
    by_cases e : i = k
    · subst e; rw [if_pos rfl, if_pos (by omega)]
    · rw [if_neg e]
      by_cases h : i < k
      · rw [if_pos h, if_pos (by omega)]
      · rw [if_neg h, if_neg (by omega)]
theorem InB.beg {cs : Nat → List Nat} {N k : Nat} {t : S4} (h : InB cs N t) (hk : k ≤ N) (hN : N ≤ 4) : InB cs k (begF t k) :=
  ⟨fun i hi => by rw [begF_get t k i (by omega) (by omega), if_pos hi]; exact h.1 i (by omega), fun i hi h4 => by rw [begF_get t k i (by omega) h4, if_neg (by omega)]⟩
theorem InB.self {cs : Nat → List Nat} {N : Nat} {t : S4} (h : InB cs N t) (hN : N ≤ 4) : begF t N = t := by
  apply S4.ext_get
  intro i hi
  rw [begF_get t N i hN hi]
  split
  · rfl
  · rw [h.2 i (by omega) hi]
theorem InB.set {cs : Nat → List Nat} {k : Nat} {t : S4} (h : InB cs k t) (hk : k < 4) {x : Nat} (hx : x ∈ cs k) : InB cs (k + 1) (t.set k (x : Nat)) := by
  refine ⟨fun i hi => ?_, fun i hi h4 => ?_⟩
  · rw [S4.get_set t k i _ hk (by omega)]
    by_cases e : i = k
    · subst e; rw [if_pos rfl]; exact ⟨x, rfl, hx⟩
    · rw [if_neg e]; exact h.1 i (by omega)
  · rw [S4.get_set t k i _ hk h4, if_neg (by omega)]; exact h.2 i (by omega) h4
theorem InB.len {cs ds : Nat → List Nat} {j k : Nat} {t : S4} (h : InB cs k t) (g : InB ds j t) (hk : k ≤ 4) (hj : j ≤ 4) : k = j := by
  rcases Nat.lt_trichotomy k j with h1 | h1 | h1
  · obtain ⟨x, h2, _⟩ := g.1 k h1
    rw [h.2 k (Nat.le_refl _) (by omega)] at h2
    omega
  · exact h1
  · obtain ⟨x, h2, _⟩ := h.1 j h1
    rw [g.2 j (Nat.le_refl _) (by omega)] at h2
    omega
/-- Counts behind a mark. -/
theorem cnt_markN {cs : Nat → List Nat} {N k : Nat} {t b : S4} (ht : InB cs N t) (hN : N ≤ 4) (hb : InB cs k b) (hk : 1 ≤ k) (hk4 : k ≤ 4) (l : List (S4 × Nat)) :
    ∀ m, m ≤ N → cntN (markN t m l) b = cntN l b + if k ≤ m ∧ begF t k = b then 1 else 0
  | 0, _ => by rw [if_neg (by omega)]; rfl
  | m + 1, hm => by
    simp only [markN]
    rw [cnt_inc]
    have ih := cnt_markN ht hN hb hk hk4 l m (by omega)
    have ih2 := cnt_markN ht hN (ht.beg hm hN) (by omega) (by omega) l m (by omega)
    by_cases e : b = begF t (m + 1)
    · have hkm : k = m + 1 := by rw [e] at hb; exact hb.len (ht.beg hm hN) hk4 (by omega)
      subst hkm
      rw [if_pos e, ih2, if_neg (by omega), if_pos ⟨Nat.le_refl _, e.symm⟩, e]
    · rw [if_neg e, ih]
      congr 1
      by_cases h : k ≤ m ∧ begF t k = b
      · rw [if_pos h, if_pos ⟨by omega, h.2⟩]
      · rw [if_neg h, if_neg]
        rintro ⟨h1, h2⟩
        rcases Nat.lt_or_ge m k with h3 | h3
        · have : k = m + 1 := by omega
          subst this; exact e h2.symm
        · exact h ⟨h3, h2⟩

/-- All states that continue a beginning. -/
def enP (cs : Nat → List Nat) : Nat → Nat → S4 → List S4
  | 0, _, t => [t]
  | d + 1, k, t => (cs k).flatMap fun v => enP cs d (k + 1) (t.set k (v : Nat))
def prodF (cs : Nat → List Nat) : Nat → Nat → Nat
  | 0, _ => 1
  | d + 1, k => (cs k).length * prodF cs d (k + 1)
theorem enP_len (cs : Nat → List Nat) : ∀ d k t, (enP cs d k t).length = prodF cs d k
  | 0, k, t => rfl
  | d + 1, k, t => by
    simp only [enP, prodF, List.length_flatMap]
    have : (cs k).map (fun v => (enP cs d (k + 1) (t.set k (v : Nat))).length) = (cs k).map (fun _ => prodF cs d (k + 1)) := List.map_congr_left fun v _ => enP_len cs d (k + 1) _
    rw [this, List.map_const', List.sum_replicate_nat]
theorem mem_enP {cs : Nat → List Nat} {N : Nat} (hN : N ≤ 4) {x : S4} (hx : InB cs N x) : ∀ (d k : Nat), k + d = N → x ∈ enP cs d k (begF x k)
  | 0, k, h => by
    have : k = N := by omega
    subst this
    simp [enP, hx.self hN]
  | d + 1, k, h => by
    obtain ⟨v, h1, h2⟩ := hx.1 k (by omega)
    simp only [enP, List.mem_flatMap]
    refine ⟨v, h2, ?_⟩
    have := mem_enP hN hx d (k + 1) (by omega)
    rw [show begF x (k + 1) = (begF x k).set k (x.get k) from rfl, h1] at this
    exact this
theorem enP_mem {cs : Nat → List Nat} {N : Nat} (hN : N ≤ 4) : ∀ (d k : Nat) (t x : S4), k + d = N → InB cs k t → x ∈ enP cs d k t → InB cs N x ∧ begF x k = t
  | 0, k, t, x, h, ht, hx => by
    have : k = N := by omega
    subst this
    simp only [enP, List.mem_singleton] at hx
    subst hx
    exact ⟨ht, ht.self hN⟩
  | d + 1, k, t, x, h, ht, hx => by
    simp only [enP, List.mem_flatMap] at hx
    obtain ⟨v, hv, hx⟩ := hx
    obtain ⟨h1, h2⟩ := enP_mem hN d (k + 1) _ x (by omega) (ht.set (by omega) hv) hx
    refine ⟨h1, ?_⟩
    apply S4.ext_get
    intro i hi
    rw [begF_get x k i (by omega) hi]
    have := congrArg (fun s : S4 => s.get i) h2
    rw [begF_get x (k + 1) i (by omega) hi, S4.get_set t k i _ (by omega) hi] at this
    by_cases e : i < k
    · rw [if_pos (by omega), if_neg (by omega)] at this
      rw [if_pos e, this]
    · rw [if_neg e, ht.2 i (by omega) hi]
theorem nodup_fill {l : List S4} : ∀ {m : List S4}, l.Nodup → (∀ x ∈ l, x ∈ m) → m.length ≤ l.length → ∀ x ∈ m, x ∈ l := by
  induction l with
  | nil => intro m _ _ hl x hx; cases m with
    | nil => cases hx
    | cons a r => simp at hl
  | cons a r ih =>
    intro m hn hs hl x hx
    rw [List.nodup_cons] at hn
    have ha := hs a (by simp)
    by_cases e : x = a
    · subst e; simp
    · have := ih (m := m.erase a) hn.2 (fun y hy => by
        have hya : y ≠ a := fun e => hn.1 (e ▸ hy)
        exact (List.mem_erase_of_ne hya).2 (hs y (by simp [hy]))) (by
        rw [List.length_erase_of_mem ha]; simp at hl; omega) x ((List.mem_erase_of_ne e).2 hx)
      simp [this]

/-- The counts are those of the states that have been seen. -/
structure CInv (N : Nat) (cs : Nat → List Nat) (s : Ex) (V : List S4) : Prop where
  nd : V.Nodup
  inb : ∀ x ∈ V, InB cs N x
  cnt : ∀ k, 1 ≤ k → k ≤ N → ∀ t, InB cs k t → cntN s.seen t = (V.filter fun y => decide (begF y k = t)).length
  bd : ∀ b, cntN s.seen b ≤ 4 * V.length
theorem CInv.full {N : Nat} {cs : Nat → List Nat} {s : Ex} {V : List S4} (h : CInv N cs s V) (hN : N ≤ 4) {d k : Nat} (hk : 1 ≤ k) (hd : k + d = N) {t : S4} (ht : InB cs k t) (hc : prodF cs d k ≤ cntN s.seen t) : ∀ x ∈ enP cs d k t, x ∈ V := by
  intro x hx
  have h1 : (V.filter fun y => decide (begF y k = t)).Nodup := h.nd.filter _
  have h2 := nodup_fill h1 (m := enP cs d k t) (fun y hy => by
    obtain ⟨hy1, hy2⟩ := List.mem_filter.1 hy
    have := mem_enP hN (h.inb y hy1) d k hd
    rw [of_decide_eq_true hy2] at this
    exact this) (by rw [enP_len, ← h.cnt k hk (by omega) t ht]; exact hc) x hx
  exact (List.mem_filter.1 h2).1
theorem CInv.mem {N : Nat} {cs : Nat → List Nat} {s : Ex} {V : List S4} (h : CInv N cs s V) (hN : N ≤ 4) (hN1 : 1 ≤ N) {x : S4} (hx : InB cs N x) : cntN s.seen x < 1 ↔ x ∉ V := by
  rw [h.cnt N hN1 (Nat.le_refl _) x hx]
  constructor
  · intro hl hv
    have : x ∈ V.filter fun y => decide (begF y N = x) := List.mem_filter.2 ⟨hv, by simp [hx.self hN]⟩
    have := List.length_pos_of_mem this
    omega
  · intro hv
    rcases Nat.eq_zero_or_pos (V.filter fun y => decide (begF y N = x)).length with h0 | h0
    · omega
    · obtain ⟨y, hy⟩ := List.exists_mem_of_length_pos h0
      obtain ⟨hy1, hy2⟩ := List.mem_filter.1 hy
      have := of_decide_eq_true hy2
      rw [(h.inb y hy1).self hN] at this
      exact absurd (this ▸ hy1) hv
theorem CInv.mark {N : Nat} {cs : Nat → List Nat} {s : Ex} {V : List S4} (h : CInv N cs s V) (hN : N ≤ 4) {x : S4} (hx : InB cs N x) (hv : x ∉ V) (b : List (S4 × S4)) (n : List S4) : CInv N cs ⟨markN x N s.seen, b, n⟩ (x :: V) := by
  refine ⟨List.nodup_cons.2 ⟨hv, h.nd⟩, fun y hy => ?_, fun k hk hkN t ht => ?_, fun c => ?_⟩
  · rcases List.mem_cons.1 hy with rfl | hy
    · exact hx
    · exact h.inb y hy
  · show cntN (markN x N s.seen) t = _
    rw [cnt_markN hx hN ht hk (by omega) s.seen N (Nat.le_refl _), h.cnt k hk hkN t ht, List.filter_cons]
    by_cases e : begF x k = t
    · rw [if_pos ⟨hkN, e⟩, if_pos (by simp [e])]; simp
    · rw [if_neg (fun hh => e hh.2), if_neg (by simp [e])]; simp
  · have h1 := (cnt_mark x c s.seen N).2
    have h2 := h.bd c
    show cntN (markN x N s.seen) c ≤ _
    simp; omega
theorem CInv.any {N : Nat} {cs : Nat → List Nat} {s : Ex} {V : List S4} (h : CInv N cs s V) (b : List (S4 × S4)) (n : List S4) : CInv N cs ⟨s.seen, b, n⟩ V := ⟨h.nd, h.inb, h.cnt, h.bd⟩
theorem CInv.low {N : Nat} {cs : Nat → List Nat} {s : Ex} {V : List S4} (h : CInv N cs s V) (hN : N ≤ 4) : V.length ≤ prodF cs N 0 := by
  rw [← enP_len cs N 0 s4n]
  have hs : ∀ x ∈ V, x ∈ enP cs N 0 s4n := fun x hx => by
    have := mem_enP hN (h.inb x hx) N 0 (by omega)
    exact this
  exact nodup_len h.nd hs
where
  nodup_len {l : List S4} : ∀ {m : List S4}, l.Nodup → (∀ x ∈ l, x ∈ m) → l.length ≤ m.length := by
    induction l with
    | nil => intro m _ _; simp
    | cons a r ih =>
      intro m hn hs
      rw [List.nodup_cons] at hn
      have ha := hs a (by simp)
      have := ih (m := m.erase a) hn.2 (fun y hy => by
        have hya : y ≠ a := fun e => hn.1 (e ▸ hy)
        exact (List.mem_erase_of_ne hya).2 (hs y (by simp [hy])))
      rw [List.length_erase_of_mem ha] at this
      have := List.length_pos_of_mem ha
      simp; omega
end Go.Proofs.Jn
end

section
/-
  Walks: Moves.
-/
namespace Go.Proofs.Jn
open Go.RowKit Go.Shelf

/-- A list of lists. -/
def LL (W : World) (ol : Option Addr) (ls : List (List Nat)) : Prop := ∃ vs : List Value, Sl W ol 1 (vs.map fun v => [v]) ∧ vs.length = ls.length ∧ ∀ (i : Nat) (v : Value) (l : List Nat), vs[i]? = some v → ls[i]? = some l → ∃ o c, v = .slice o l.length c ∧ Sl W o 1 (nvals l)
theorem LL.keep {W W' : World} {ol : Option Addr} {ls : List (List Nat)} (h : LL W ol ls) (hb : Below W.heap.size W W') : LL W' ol ls := by
  obtain ⟨vs, h1, h2, h3⟩ := h
  exact ⟨vs, h1.keep hb, h2, fun i v l hv hl => by obtain ⟨o, c, he, hs⟩ := h3 i v l hv hl; exact ⟨o, c, he, hs.keep hb⟩⟩
theorem ones_flat (vs : List Value) : (vs.map fun v => [v]).flatten = vs := by
  induction vs with
  | nil => rfl
  | cons a t ih => simp only [List.map_cons, List.flatten_cons, ih]; rfl
theorem LB.ll {W : World} {nl : Nat} {ls : List (List Nat)} {vs : List Value} {ol : Option Addr} {n cl : Nat} (h : LB W nl ls vs (.slice ol n cl)) : LL W ol ls := by
  refine ⟨vs, ?_, h.len, fun i v l hv hl => ?_⟩
  · have ho := h.own
    have e1 : (vs.map fun v => [v]).length = vs.length := by simp
    have hn : n = vs.length := by
      rcases ho.2 with ⟨h1, h2⟩ | ⟨g, cap, cur, h1, _⟩
      · injection h1 with _ h1 _; omega
      · injection h1
    subst hn
    rw [← ones_flat vs, ones_flat vs] at ho
    have ho2 : W.ownsRow (nl + 1) 22 1 (.slice ol vs.length cl) (vs.map fun v => [v]).length (vs.map fun v => [v]).flatten := by rw [ones_flat, e1]; exact ho
    intro hne
    obtain ⟨oa, cap, hv, hs⟩ := own_rows (fun r hr => by obtain ⟨e, _, rfl⟩ := List.mem_map.1 hr; rfl) ho2
    injection hv with hv _ _
    rw [hv]
    exact hs hne
  · have ho := h.row i v l hv hl
    obtain ⟨o, c, rfl⟩ := own_slice ho
    refine ⟨o, c, rfl, ?_⟩
    rw [← nvals_flat, ← nvals_len] at ho
    intro hne
    obtain ⟨oa, cap, hv2, hs⟩ := own_rows (nvals_one l) ho
    injection hv2 with hv2 _ _
    rw [hv2]
    exact hs hne
theorem keepW {X X' : World} {n5 n3 nl : Nat} {a b c : Value} (h5 : n5 ≠ nl) (h3 : n3 ≠ nl) (h : X.cell? ⟨n5, 0, none⟩ = some a ∧ X.cell? ⟨n5, 1, none⟩ = some b ∧ X.cell? ⟨n3, 0, none⟩ = some c ∧ n5 < X.heap.size ∧ n3 < X.heap.size) (hg : X.grownBy X' (some nl)) :
    X'.cell? ⟨n5, 0, none⟩ = some a ∧ X'.cell? ⟨n5, 1, none⟩ = some b ∧ X'.cell? ⟨n3, 0, none⟩ = some c ∧ n5 < X'.heap.size ∧ n3 < X'.heap.size := by
  obtain ⟨k1, k2, k3, k4, k5⟩ := h
  have e5 := hg.block n5 k4 (fun e => h5 (by injection e))
  have e3 := hg.block n3 k5 (fun e => h3 (by injection e))
  refine ⟨?_, ?_, ?_, Nat.lt_of_lt_of_le k4 hg.size, Nat.lt_of_lt_of_le k5 hg.size⟩
  · rw [← k1]; simp [World.cell?, e5]
  · rw [← k2]; simp [World.cell?, e5]
  · rw [← k3]; simp [World.cell?, e3]
theorem keepW' {X X' : World} {n5 n3 : Nat} (nl : Nat) {a b c : Value} (h5 : n5 ≠ nl) (h3 : n3 ≠ nl) (h : X.cell? ⟨n5, 0, none⟩ = some a ∧ X.cell? ⟨n5, 1, none⟩ = some b ∧ X.cell? ⟨n3, 0, none⟩ = some c ∧ n5 < X.heap.size ∧ n3 < X.heap.size) (hb : Below X.heap.size X X') :
    X'.cell? ⟨n5, 0, none⟩ = some a ∧ X'.cell? ⟨n5, 1, none⟩ = some b ∧ X'.cell? ⟨n3, 0, none⟩ = some c ∧ n5 < X'.heap.size ∧ n3 < X'.heap.size := keepW h5 h3 h (grown_of_below hb)
set_option maxRecDepth 100000 in
set_option maxHeartbeats 4000000 in
theorem moves_any (om oc oa : Option Addr) (cm cc ca : Nat) (T : Tm) (ps : List Nat) (w : World) (hO : TeamOk T) (hsm : ∀ m ∈ T.ms, m.es.length ≤ 100) (hps : InR T ps) (hT : TeamAt w om oc T) (hA : Sl w oa 1 (nvals ps)) :
    Calls Try.prog 21 #[T.val om oc cm cc, .slice oa ps.length ca] w fun e W => ∃ ol cl, e = .returned (.slice ol (movesE T ps).2.length cl) ∧ LL W ol (movesE T ps).2 ∧ Below w.heap.size w W ∧ (movesE T ps).2.length ≤ 1000000000000 := by
  have hn1 := hO.n1
  have hn2 := hO.n2
  have HO := Lib.hid hO
  have HSM := Lib.hid hsm
  have HPS := Lib.hid hps
  have hmf : ∀ (fn : Fn) (first cap : Array Value) (w : World), (Instr.makeFunc fn first cap).run Try.prog w = .ok (.func fn first cap) w := fun _ _ _ _ => rfl
  clear hO hsm hps
  unfold Tm.val
  go_enter Try.func21, Try.ntmps21
  go_upto_region 1 with fail
  have hbx_ := blks2 w [.slice om T.ms.length cm, .slice oc T.cs.length cc] [.slice oa ps.length ca] 26 22
  replace hT := hT.keep hbx_.2.2
  replace hA := hA.keep hbx_.2.2
  have HB := Lib.hid (hbx_.2.2)
  have hod : w.heap.size ≤ w.heap.size ∧ w.heap.size < w.heap.size + 1 := by omega
  generalize (w.alloc (.cells #[.slice om T.ms.length cm, .slice oc T.cs.length cc] 26)).alloc (.cells #[.slice oa ps.length ca] 22) = W0 at hbx_ hT hA HB ⊢
  obtain ⟨r2, r3, hbel_⟩ := hbx_
  generalize w.heap.size + 1 = n3 at r3 hod ⊢
  obtain ⟨n2', hn_⟩ : ∃ n, n = w.heap.size := ⟨_, rfl⟩
  rw [← hn_] at r2 ⊢
  replace hod := And.intro (Nat.le_of_eq hn_.symm) (hn_ ▸ hod.2)
  clear hn_ hbel_
  have hck := check_any om oc cm cc T W0 HO.out hT
  unfold Tm.val at hck
  have HCK := Lib.hid hck
  have HT := Lib.hid hT
  have HA := Lib.hid hA
  clear hck hT hA
  have a0 : W0.cell? ⟨n2', 0, none⟩ = some (.slice om T.ms.length cm) := r2.c 0 _ rfl
  have a1 : W0.cell? ⟨n2', 1, none⟩ = some (.slice oc T.cs.length cc) := r2.c 1 _ rfl
  have b0 : W0.cell? ⟨n3, 0, none⟩ = some (.slice oa ps.length ca) := r3.c 0 _ rfl
  have l2 := r2.lt
  have l3 := r3.lt
  go_wp2_with fail
  refine HCK.out.mono ?_
  rintro e X1 ⟨rfl, hb⟩
  replace r2 := r2.keep hb
  replace r3 := r3.keep hb
  replace HT := Lib.hid (HT.out.keep hb)
  replace HA := Lib.hid (HA.out.keep hb)
  have HB1 := Lib.hid (below_call HB.out hb)
  clear hb a0 a1 b0 l2 l3 HCK HB
  have hlo := located_any om oc oa cm cc ca T ps X1 (by omega) HPS.out.1 HPS.out.2 (fun m hm => (HO.out.mo m hm).n2) HT.out HA.out
  unfold Tm.val at hlo
  have HLO := Lib.hid hlo
  clear hlo
  have a0 : X1.cell? ⟨n2', 0, none⟩ = some (.slice om T.ms.length cm) := r2.c 0 _ rfl
  have a1 : X1.cell? ⟨n2', 1, none⟩ = some (.slice oc T.cs.length cc) := r2.c 1 _ rfl
  have b0 : X1.cell? ⟨n3, 0, none⟩ = some (.slice oa ps.length ca) := r3.c 0 _ rfl
  have l2 := r2.lt
  have l3 := r3.lt
  go_wp2_with fail
  refine HLO.out.mono ?_
  rintro e X2 ⟨rfl, hb⟩
  replace r2 := r2.keep hb
  replace r3 := r3.keep hb
  replace HT := Lib.hid (HT.out.keep hb)
  replace HA := Lib.hid (HA.out.keep hb)
  have HB2 := Lib.hid (below_call HB1.out hb)
  clear hb a0 a1 b0 l2 l3 HLO HB1
  have hnc := newCrew_any om oc cm cc T X2 HO.out HT.out
  unfold Tm.val at hnc
  have HNC := Lib.hid hnc
  clear hnc
  have a0 : X2.cell? ⟨n2', 0, none⟩ = some (.slice om T.ms.length cm) := r2.c 0 _ rfl
  have a1 : X2.cell? ⟨n2', 1, none⟩ = some (.slice oc T.cs.length cc) := r2.c 1 _ rfl
  have l2 := r2.lt
  go_wp2_with fail
  refine HNC.out.mono ?_
  rintro e X3 ⟨es, on, cn, gm, rfl, hC, hes, hb, -⟩
  replace r3 := r3.keep hb
  replace HA := Lib.hid (HA.out.keep hb)
  have HB3 := Lib.hid (below_call HB2.out hb)
  have HC := Lib.hid hC
  have HES := Lib.hid hes
  have hl3 := r3.lt
  clear hb a0 a1 l2 HNC HB2 r2 hC hes
  go_upto_region 5 with fail
  have hN4 : ps.length ≤ 4 := by rw [HPS.out.1]; exact hn2
  have hN1 : 0 < ps.length := by rw [HPS.out.1]; exact hn1
  have hbx_ := blks2 X3 [.slice on es.length cn, .map (some gm)] [.slice none 0 0] 82 30
  replace r3 := r3.keep hbx_.2.2
  replace HA := Lib.hid (HA.out.keep hbx_.2.2)
  have HB4 := Lib.hid (hbx_.2.2)
  have hoe : X3.heap.size ≤ X3.heap.size ∧ X3.heap.size < X3.heap.size + 1 := by omega
  generalize (X3.alloc (.cells #[.slice on es.length cn, .map (some gm)] 82)).alloc (.cells #[.slice none 0 0] 30) = V at hbx_ r3 HA HB4 ⊢
  obtain ⟨r5, r6, hbel_⟩ := hbx_
  generalize X3.heap.size + 1 = nl at r6 hoe ⊢
  obtain ⟨n5, hn_⟩ : ∃ n, n = X3.heap.size := ⟨_, rfl⟩
  rw [← hn_] at r5 ⊢
  replace hoe := And.intro (Nat.le_of_eq hn_.symm) (hn_ ▸ hoe.2)
  clear hn_ hbel_
  have HX3 : Hid (Below X3.heap.size X3 V.drew) := Lib.hid (HB4.out.drew)
  have hn5 : n5 ≠ nl := by omega
  have hn3 : n3 ≠ nl := by omega
  have HNL : Hid (X3.heap.size ≤ nl) := Lib.hid (by omega)
  have HN3 := Lib.hid hl3
  have hS0 : V.cell? ⟨n5, 0, none⟩ = some (.slice on es.length cn) ∧ V.cell? ⟨n5, 1, none⟩ = some (.map (some gm)) ∧ V.cell? ⟨n3, 0, none⟩ = some (.slice oa ps.length ca) ∧ n5 < V.heap.size ∧ n3 < V.heap.size := ⟨r5.c 0 _ rfl, r5.c 1 _ rfl, r3.c 0 _ rfl, r5.lt, r3.lt⟩
  have hV0 : Below V.heap.size V V.drew := (Below.refl _ _).drew
  have HR3 := Lib.hid r3
  have HR6 := Lib.hid r6
  clear r3 r5 r6 hod hoe hl3
  go_cut [] (fun X => (∃ vs vl, LB X nl (movesE T ps).2 vs vl) ∧ Below X3.heap.size X3 X ∧ (movesE T ps).2.length ≤ 1000000000000)
  case first =>
    go_region_held3 (fun X => X.cell? ⟨n5, 0, none⟩ = some (.slice on es.length cn) ∧ X.cell? ⟨n5, 1, none⟩ = some (.map (some gm)) ∧ X.cell? ⟨n3, 0, none⟩ = some (.slice oa ps.length ca) ∧ n5 < X.heap.size ∧ n3 < X.heap.size)
      (first
        | assumption
        | exact keepW' nl hn5 hn3 hS0 hV0
        | exact keepW' nl hn5 hn3 (by assumption) (by assumption)
        | exact keepW hn5 hn3 (by assumption) (by assumption))
      (first
        | (go_at_call 48
           refine (stateOf_any oa ca ps _ hN4 hN1 (HA.out.keep (by assumption))).mono ?_
           rintro e Xa ⟨rfl, hba⟩
           have hVa := below_call (by assumption : Below V.heap.size V _) hba)
        | (go_at_call 49
           refine (nowhere_any _).mono ?_
           rintro e Xb ⟨rfl, hbb⟩
           have hVb := below_call (by assumption : Below V.heap.size V _) hbb)
        | (go_at_call 47
           refine (exp_moves T ps on oa es cn gm nl n3 ca X3 _ HC.out HES.out HO.out HSM.out HPS.out (below_call HB4.out (by assumption)) HNL.out HN3.out (HR6.out.keep (by assumption)) (HR3.out.keep (by assumption))).mono ?_
           rintro e Xc ⟨⟨bc, rfl⟩, hLc, hgc, hbd⟩
           have HBD := Lib.hid hbd
           clear hbd))
    all_goals
      have hbx := grown_fresh (below_call HB4.out (by assumption)) hgc HNL.out
      have HBX := Lib.hid hbx
      have HLC := Lib.hid hLc
      clear hbx hLc hgc hS0
      go_wp2_with fail
      go_meet
      exact ⟨HLC.out, HBX.out, HBD.out⟩
  case rest =>
    clear hS0 hV0
    obtain ⟨⟨vs, vl, hL⟩, hb, hbd⟩ := hcut
    have HBD := Lib.hid hbd
    clear hbd
    obtain ⟨ol, cl, rfl⟩ := own_slice hL.own
    have x0 := hL.box.c 0 _ rfl
    have lx := hL.box.lt
    have HL := Lib.hid hL
    have HB5 := Lib.hid (below_call HB3.out hb)
    clear hb hL
    go_wp2_with fail
    refine bodyPost_ret (v := .slice ol vs.length cl) (by simp [results, Try.results21, go_sem]) rfl ⟨ol, cl, by rw [← HL.out.len], HL.out.ll, HB5.out, HBD.out⟩
end Go.Proofs.Jn
end

section
/-
  Plain law: what Moves lists.
-/
namespace Go.Proofs.Jn

/-- The rows that are listed from a beginning on. -/
def enL (nx : List (List (List Nat))) (l : List ((Mv × Mv) × Value)) (a : Nat → Nat) (N : Nat) : Nat → Nat → S4 → List (List Nat)
  | 0, _, t => [rowOf N t]
  | d + 1, k, t => (nextAt nx k (a k)).flatMap fun v => if frB l a (t.set k (v : Nat)) k = true then enL nx l a N d (k + 1) (t.set k (v : Nat)) else []
theorem exp_en (nx : List (List (List Nat))) (l : List ((Mv × Mv) × Value)) (a : Nat → Nat) (N : Nat) : ∀ (d k : Nat) (t : S4) (s : List (List Nat)), expF nx (frB l a) (fun _ _ _ => true) (fun s t => (false, s ++ [rowOf N t])) a d k t s = (false, s ++ enL nx l a N d k t)
  | 0, k, t, s => rfl
  | d + 1, k, t, s => by
    have h : ∀ (vs : List Nat) (s : List (List Nat)), loopF (fun v s => if (true && frB l a (t.set k (v : Nat)) k) = true then expF nx (frB l a) (fun _ _ _ => true) (fun s t => (false, s ++ [rowOf N t])) a d (k + 1) (t.set k (v : Nat)) s else (false, s)) vs s = (false, s ++ vs.flatMap fun v => if frB l a (t.set k (v : Nat)) k = true then enL nx l a N d (k + 1) (t.set k (v : Nat)) else []) := by
      intro vs
      induction vs with
      | nil => intro s; simp [loopF]
      | cons v r ih =>
        intro s
        simp only [loopF, List.flatMap_cons]
        by_cases hf : frB l a (t.set k (v : Nat)) k = true
        · simp only [hf, Bool.and_self, if_true]
          rw [exp_en nx l a N d (k + 1) (t.set k (v : Nat)) s]
          simp only [Bool.false_eq_true, if_false]
          rw [ih]
          simp
        · have hf' : frB l a (t.set k (v : Nat)) k = false := by simpa using hf
          simp only [hf', Bool.and_false, Bool.false_eq_true, if_false]
          rw [ih]
          simp
    exact h _ s
theorem rowOf_eq (N : Nat) (t : S4) (qs : List Nat) : rowOf N t = qs ↔ qs.length = N ∧ ∀ i, i < N → atOf qs i = (t.get i).toNat := by
  constructor
  · rintro rfl
    refine ⟨rowOf_len N t, fun i hi => by simp [atOf, rowOf, hi]⟩
  · rintro ⟨hl, h⟩
    apply List.ext_getElem?
    intro i
    by_cases hi : i < N
    · have := h i hi
      have hq : qs[i]? = some qs[i] := List.getElem?_eq_getElem (by omega)
      rw [atOf, hq] at this
      rw [hq]
      simp at this
      simp [rowOf, hi, this]
    · rw [List.getElem?_eq_none (by rw [rowOf_len]; omega), List.getElem?_eq_none (by omega)]
theorem freeB_congr (l : List ((Mv × Mv) × Value)) (a b c : Nat → Nat) (k : Nat) (h : ∀ i, i ≤ k → b i = c i) : freeB l a b k = freeB l a c k := by
  unfold freeB
  rw [h k (Nat.le_refl _)]
  have : ∀ x ∈ List.range k, (findL l (⟨x, a x, b x⟩, ⟨k, a k, c k⟩) 0).isNone = (findL l (⟨x, a x, c x⟩, ⟨k, a k, c k⟩) 0).isNone := fun x hx => by
    rw [h x (by have := List.mem_range.1 hx; omega)]
  rw [Bool.eq_iff_iff, List.all_eq_true, List.all_eq_true]
  exact ⟨fun h x hx => by rw [← this x hx]; exact h x hx, fun h x hx => by rw [this x hx]; exact h x hx⟩
theorem mem_enL (nx : List (List (List Nat))) (l : List ((Mv × Mv) × Value)) (a : Nat → Nat) (N : Nat) (hN : N ≤ 4) (qs : List Nat) (hq : qs.length = N) : ∀ (d k : Nat) (t : S4), k + d = N →
    (qs ∈ enL nx l a N d k t ↔ (∀ i, i < k → atOf qs i = (t.get i).toNat) ∧ ∀ j, k ≤ j → j < N → atOf qs j ∈ nextAt nx j (a j) ∧ freeB l a (atOf qs) j = true)
  | 0, k, t, hk => by
    simp only [enL, List.mem_singleton]
    rw [eq_comm, rowOf_eq]
    have : k = N := by omega
    subst this
    exact ⟨fun h => ⟨h.2, fun j h1 h2 => by omega⟩, fun h => ⟨hq, h.1⟩⟩
  | d + 1, k, t, hk => by
    have hk4 : k < 4 := by omega
    simp only [enL, List.mem_flatMap]
    constructor
    · rintro ⟨v, hv, hm⟩
      split at hm
      · rename_i hf
        rw [mem_enL nx l a N hN qs hq d (k + 1) _ (by omega)] at hm
        obtain ⟨h1, h2⟩ := hm
        have hvk : atOf qs k = v := by rw [h1 k (by omega), S4.get_set t k k _ hk4 hk4, if_pos rfl]; simp
        refine ⟨fun i hi => by rw [h1 i (by omega), S4.get_set t k i _ hk4 (by omega), if_neg (by omega)], fun j hj1 hj2 => ?_⟩
        rcases Nat.eq_or_lt_of_le hj1 with rfl | hj
        · refine ⟨by rw [hvk]; exact hv, ?_⟩
          rw [← hf]
          exact freeB_congr l a _ _ k fun i hi => h1 i (by omega)
        · exact h2 j hj hj2
      · cases hm
    · rintro ⟨h1, h2⟩
      obtain ⟨hv, hf⟩ := h2 k (Nat.le_refl _) (by omega)
      have hg : ∀ i, i < k + 1 → atOf qs i = ((t.set k (atOf qs k : Nat)).get i).toNat := fun i hi => by
        rw [S4.get_set t k i _ hk4 (by omega)]
        by_cases e : i = k
        · subst e; rw [if_pos rfl]; simp
        · rw [if_neg e]; exact h1 i (by omega)
      refine ⟨atOf qs k, hv, ?_⟩
      rw [if_pos (by rw [← hf]; exact (freeB_congr l a _ _ k fun i hi => (hg i (by omega)).symm))]
      rw [mem_enL nx l a N hN qs hq d (k + 1) _ (by omega)]
      exact ⟨hg, fun j hj1 hj2 => h2 j (by omega) hj2⟩
theorem mem_moves {T : Tm} {ps qs : List Nat} (hN : ps.length ≤ 4) (hq : qs.length = ps.length) : qs ∈ (movesE T ps).2 ↔ ∀ j, j < ps.length → atOf qs j ∈ nextAt (T.ms.map nextOf) j (atOf ps j) ∧ freeB (clOf T.cs) (atOf ps) (atOf qs) j = true := by
  unfold movesE
  rw [exp_en]
  simp only [List.nil_append]
  rw [mem_enL _ _ _ _ hN qs hq _ _ _ (by omega)]
  exact ⟨fun h j hj => h.2 j (Nat.zero_le _) hj, fun h => ⟨fun i hi => by omega, fun j _ hj => h j hj⟩⟩

/-- The lists hold what the edges say. -/
theorem mem_addAt {ls : List (List Nat)} {i x j y : Nat} (hi : i < ls.length) : y ∈ ((addAt ls i x)[j]?).getD [] ↔ y ∈ (ls[j]?).getD [] ∨ (j = i ∧ y = x) := by
  unfold addAt
  rw [List.getElem?_set]
  by_cases h : i = j
  · subst h
    simp [hi]
  · simp [h]
    intro h2; exact absurd h2.symm h
theorem mem_laid {m : Mp} (hm : MapOk m) (k : Nat) (hk : k ≤ m.es.length) (x y : Nat) : y ∈ ((laid m k)[x]?).getD [] ↔ (x < m.n ∧ y = x) ∨ ∃ e ∈ m.es.take k, e.st = 1 ∧ ((e.u = x ∧ e.v = y) ∨ (e.v = x ∧ e.u = y)) := by
  induction k with
  | zero =>
    rw [laid_zero]
    simp only [selfL, List.take_zero]
    by_cases h : x < m.n
    · simp [h]
    · simp [h]
  | succ k ih =>
    obtain ⟨e, he⟩ : ∃ e, m.es[k]? = some e := ⟨_, List.getElem?_eq_getElem (by omega)⟩
    have hed := hm.ed e (List.mem_of_getElem? he)
    rw [laid_succ he, List.take_add_one, he]
    have ih := ih (by omega)
    unfold addE
    split
    · rename_i hs
      rw [mem_addAt (by rw [addAt_len, laid_len]; omega), mem_addAt (by rw [laid_len]; omega), ih]
      simp only [Option.toList, List.mem_append, List.mem_singleton]
      constructor
      · rintro (((h | h) | h) | h)
        · exact .inl h
        · obtain ⟨f, hf, h⟩ := h; exact .inr ⟨f, .inl hf, h⟩
        · exact .inr ⟨e, .inr rfl, hs, .inl ⟨h.1.symm, h.2.symm⟩⟩
        · exact .inr ⟨e, .inr rfl, hs, .inr ⟨h.1.symm, h.2.symm⟩⟩
      · rintro (h | ⟨f, hf | rfl, h1, h2⟩)
        · exact .inl (.inl (.inl h))
        · exact .inl (.inl (.inr ⟨f, hf, h1, h2⟩))
        · rcases h2 with ⟨h3, h4⟩ | ⟨h3, h4⟩
          · exact .inl (.inr ⟨h3.symm, h4.symm⟩)
          · exact .inr ⟨h3.symm, h4.symm⟩
    · rename_i hs
      rw [ih]
      simp only [Option.toList, List.mem_append, List.mem_singleton]
      constructor
      · rintro (h | ⟨f, hf, h⟩)
        · exact .inl h
        · exact .inr ⟨f, .inl hf, h⟩
      · rintro (h | ⟨f, hf | rfl, h1, h2⟩)
        · exact .inl h
        · exact .inr ⟨f, hf, h1, h2⟩
        · exact absurd h1 hs
theorem mem_next {T : Tm} {j : Nat} {m : Mp} (hm : MapOk m) (hj : T.ms[j]? = some m) {x y : Nat} (hx : x < m.n) (hy : y < m.n) : y ∈ nextAt (T.ms.map nextOf) j x ↔ legB T ⟨j, x, y⟩ = true := by
  have h1 : nextAt (T.ms.map nextOf) j x = (((nextOf m))[x]?).getD [] := by simp [nextAt, hj]
  rw [h1]
  have h2 : ((nextOf m)[x]?).getD [] = srt (((laid m m.es.length)[x]?).getD []) := by
    unfold nextOf
    have : x < (laid m m.es.length).length := by rw [laid_len]; exact hx
    simp [this]
  rw [h2, srt_mem, mem_laid hm _ (Nat.le_refl _), List.take_length]
  simp only [legB, hj, hx, hy, decide_true, Bool.true_and, Bool.or_eq_true, decide_eq_true_eq, true_and]
  unfold edgeB
  rw [List.any_eq_true]
  constructor
  · rintro (h | ⟨e, he, hs, h⟩)
    · exact .inl h.symm
    · have := hm.ed e he
      refine .inr ⟨e, he, ?_⟩
      simp only [Bool.and_eq_true, decide_eq_true_eq]
      refine ⟨⟨?_, ?_⟩, hs⟩ <;> omega
  · rintro (h | ⟨e, he, h⟩)
    · exact .inl h.symm
    · simp only [Bool.and_eq_true, decide_eq_true_eq] at h
      have := hm.ed e he
      refine .inr ⟨e, he, h.2, ?_⟩
      omega
theorem find_putL {α : Type} [DecidableEq α] {l : List (α × Value)} {k a : α} {v : Value} : ∀ n, (findL (putL l k v) a n).isSome = ((findL l a n).isSome || decide (a = k)) := by
  induction l with
  | nil => intro n; by_cases h : a = k <;> simp [putL, findL, h]
  | cons x r ih =>
    obtain ⟨b, u⟩ := x
    intro n
    simp only [putL]
    by_cases h : k = b
    · subst h
      simp only [if_true, findL]
      by_cases h2 : a = k <;> simp [h2]
    · rw [if_neg h]
      simp only [findL]
      by_cases h2 : a = b
      · simp [h2]
      · simp only [if_neg h2]
        exact ih (n + 1)
theorem find_clOf (cs : List Cf) (a : Mv × Mv) : (findL (clOf cs) a 0).isSome = cs.any fun c => decide (keyOf c = a) := by
  unfold clOf
  suffices h : ∀ (cs : List Cf) (l : List ((Mv × Mv) × Value)), (findL (cs.foldl putC l) a 0).isSome = ((findL l a 0).isSome || cs.any fun c => decide (keyOf c = a)) from by
    rw [h cs []]; simp [findL]
  intro cs
  induction cs with
  | nil => intro l; simp
  | cons c r ih =>
    intro l
    rw [List.foldl_cons, ih, putC, find_putL, List.any_cons, Bool.or_assoc]
    congr 2
    exact decide_eq_decide.2 eq_comm
theorem key_clash {c : Cf} {i k x y u v : Nat} (hik : i < k) : decide (keyOf c = (⟨i, x, y⟩, ⟨k, u, v⟩)) = ((decide (c.a = ⟨k, u, v⟩) && decide (c.b = ⟨i, x, y⟩)) || (decide (c.a = ⟨i, x, y⟩) && decide (c.b = ⟨k, u, v⟩))) := by
  rw [Bool.eq_iff_iff]
  simp only [decide_eq_true_eq, Bool.or_eq_true, Bool.and_eq_true]
  unfold keyOf
  constructor
  · intro h
    split at h
    · injection h with h1 h2; exact .inr ⟨h1, h2⟩
    · injection h with h1 h2; exact .inl ⟨h2, h1⟩
  · rintro (⟨h1, h2⟩ | ⟨h1, h2⟩)
    · rw [if_neg (by rw [h1, h2]; show ¬ k < i; omega), h1, h2]
    · rw [if_pos (by rw [h1, h2]; exact hik), h1, h2]
theorem free_clash (cs : List Cf) (a b : Nat → Nat) (k : Nat) : freeB (clOf cs) a b k = (List.range k).all fun i => !clashB cs ⟨k, a k, b k⟩ ⟨i, a i, b i⟩ := by
  unfold freeB
  rw [Bool.eq_iff_iff, List.all_eq_true, List.all_eq_true]
  have key : ∀ i ∈ List.range k, (findL (clOf cs) (⟨i, a i, b i⟩, ⟨k, a k, b k⟩) 0).isNone = !clashB cs ⟨k, a k, b k⟩ ⟨i, a i, b i⟩ := fun i hi => by
    rw [← Option.not_isSome, find_clOf]
    unfold clashB
    congr 1
    have hik := List.mem_range.1 hi
    apply List.any_congr rfl
    intro c
    exact key_clash hik
  exact ⟨fun h i hi => by rw [← key i hi]; exact h i hi, fun h i hi => by rw [key i hi]; exact h i hi⟩
/-- The law: what is wanted, as far as arm k. -/
def wantIn (T : Tm) (ps qs : List Nat) (k i : Nat) : Bool := (List.range i).all fun i => !clashB T.cs ⟨k, atOf ps k, atOf qs k⟩ ⟨i, atOf ps i, atOf qs i⟩
def wantTo (T : Tm) (ps qs : List Nat) (k : Nat) : Bool := (List.range k).all fun j => legB T ⟨j, atOf ps j, atOf qs j⟩ && wantIn T ps qs j j
theorem atOf_lt {T : Tm} {ps : List Nat} (h : InR T ps) {j : Nat} {m : Mp} (hm : T.ms[j]? = some m) : atOf ps j < m.n := by
  have hj := (List.getElem?_eq_some_iff.1 hm).1
  have hj' : j < ps.length := by rw [h.1]; exact hj
  have hp : ps[j]? = some ps[j] := List.getElem?_eq_getElem hj'
  have := h.2 j _ m hp hm
  rw [atOf, hp]
  exact this
theorem closes_law {T : Tm} {ps qs : List Nat} (hO : TeamOk T) (hp : InR T ps) (hq : InR T qs) : ((movesE T ps).2.any fun r => decide (r = qs)) = wantTo T ps qs ps.length := by
  have hn := hO.n2
  rw [Bool.eq_iff_iff, List.any_eq_true]
  unfold wantTo
  rw [List.all_eq_true]
  have h0 : (∃ r ∈ (movesE T ps).2, decide (r = qs) = true) ↔ qs ∈ (movesE T ps).2 := by
    simp
  rw [h0, mem_moves (by rw [hp.1]; exact hn) (by rw [hq.1, hp.1])]
  constructor
  · intro h j hj
    have hj := List.mem_range.1 hj
    obtain ⟨m, hm⟩ : ∃ m, T.ms[j]? = some m := ⟨_, List.getElem?_eq_getElem (by rw [← hp.1]; exact hj)⟩
    obtain ⟨h1, h2⟩ := h j hj
    rw [mem_next (hO.mo m (List.mem_of_getElem? hm)) hm (atOf_lt hp hm) (atOf_lt hq hm)] at h1
    rw [free_clash] at h2
    rw [h1, Bool.true_and]
    exact h2
  · intro h j hj
    obtain ⟨m, hm⟩ : ∃ m, T.ms[j]? = some m := ⟨_, List.getElem?_eq_getElem (by rw [← hp.1]; exact hj)⟩
    have h1 := h j (List.mem_range.2 hj)
    rw [Bool.and_eq_true] at h1
    refine ⟨?_, ?_⟩
    · rw [mem_next (hO.mo m (List.mem_of_getElem? hm)) hm (atOf_lt hp hm) (atOf_lt hq hm)]; exact h1.1
    · rw [free_clash]; exact h1.2
end Go.Proofs.Jn
end

section
/-
  Plain law: the layers of the search.
-/
namespace Go.Proofs.Jn

section
variable (N : Nat) (nx : List (List (List Nat))) (l : List ((Mv × Mv) × Value)) (cs : Nat → List Nat) (cn : Nat → Nat) (start goal : S4)
/-- The states that follow. -/
def enS (a : Nat → Nat) : Nat → Nat → S4 → List S4
  | 0, _, t => [t]
  | d + 1, k, t => (nextAt nx k (a k)).flatMap fun v => if frB l a (t.set k (v : Nat)) k = true then enS a d (k + 1) (t.set k (v : Nat)) else []
def vxs (t : S4) : Nat → Nat := atOf (rowOf N t)
def succS (t : S4) : List S4 := enS nx l (vxs N t) N 0 s4n
def opF (s : Ex) (t : S4) (k : Nat) : Bool := decide (cntN s.seen t < cn k)
def viF (f : S4) (s : Ex) (t : S4) : Bool × Ex := (decide (t = goal), ⟨markN t N s.seen, putB s.bef t f, s.next ++ [t]⟩)
def runV (f : S4) : List S4 → Ex → Bool × Ex
  | [], s => (false, s)
  | x :: r, s => if opF cn s x N = true then (if (viF N goal f s x).1 = true then (true, (viF N goal f s x).2) else runV f r (viF N goal f s x).2) else runV f r s
def tickF : List S4 → Ex → Bool × Ex
  | [], s => (false, s)
  | f :: r, s => if (expF nx (frB l (vxs N f)) (opF cn) (viF N goal f) (vxs N f) N 0 s4n s).1 = true then (true, (expF nx (frB l (vxs N f)) (opF cn) (viF N goal f) (vxs N f) N 0 s4n s).2) else tickF r (expF nx (frB l (vxs N f)) (opF cn) (viF N goal f) (vxs N f) N 0 s4n s).2
end
theorem enL_enS (nx : List (List (List Nat))) (l : List ((Mv × Mv) × Value)) (a : Nat → Nat) (N : Nat) : ∀ d k t, enL nx l a N d k t = (enS nx l a d k t).map (rowOf N)
  | 0, k, t => rfl
  | d + 1, k, t => by
    simp only [enL, enS, List.map_flatMap]
    congr 1
    funext v
    split
    · exact enL_enS nx l a N d (k + 1) _
    · rfl
theorem enS_inb {nx : List (List (List Nat))} {l : List ((Mv × Mv) × Value)} {a : Nat → Nat} {N : Nat} {cs : Nat → List Nat} (hN : N ≤ 4) (hc : ∀ i, i < N → ∀ v ∈ nextAt nx i (a i), v ∈ cs i) : ∀ d k t, k + d = N → InB cs k t → ∀ x ∈ enS nx l a d k t, x ∈ enP cs d k t
  | 0, k, t, _, _, x, hx => hx
  | d + 1, k, t, h, ht, x, hx => by
    simp only [enS, List.mem_flatMap] at hx
    obtain ⟨v, hv, hx⟩ := hx
    simp only [enP, List.mem_flatMap]
    have hvc := hc k (by omega) v hv
    refine ⟨v, hvc, ?_⟩
    split at hx
    · exact enS_inb hN hc d (k + 1) _ (by omega) (ht.set (by omega) hvc) x hx
    · cases hx
section
variable {N : Nat} {nx : List (List (List Nat))} {l : List ((Mv × Mv) × Value)} {cs : Nat → List Nat} {cn : Nat → Nat} {start goal : S4}
theorem runV_app (f : S4) : ∀ (xs ys : List S4) (s : Ex), runV N cn goal f (xs ++ ys) s = if (runV N cn goal f xs s).1 = true then runV N cn goal f xs s else runV N cn goal f ys (runV N cn goal f xs s).2
  | [], ys, s => by simp [runV]
  | x :: r, ys, s => by
    simp only [List.cons_append, runV]
    split
    · split
      · rfl
      · exact runV_app f r ys _
    · exact runV_app f r ys s
/-- What a run over states does. -/
structure RunS (f : S4) (xs : List S4) (s : Ex) (V : List S4) (q : Bool × Ex) (new : List S4) (N : Nat) (cs : Nat → List Nat) (goal : S4) : Prop where
  next : q.2.next = s.next ++ new
  inv : CInv N cs q.2 (new.reverse ++ V)
  mem : ∀ x ∈ new, x ∈ xs ∧ x ∉ V ∧ getB q.2.bef x = f
  old : ∀ x, x ∉ new → getB q.2.bef x = getB s.bef x
  no : q.1 = false → goal ∉ new ∧ ∀ x ∈ xs, x ∈ new ∨ x ∈ V
  yes : q.1 = true → goal ∈ new
theorem runV_spec (hN : N ≤ 4) (hN1 : 1 ≤ N) (hcn : cn N = 1) (f : S4) : ∀ (xs : List S4) (s : Ex) (V : List S4), CInv N cs s V → (∀ x ∈ xs, InB cs N x) → ∃ new, RunS f xs s V (runV N cn goal f xs s) new N cs goal
  | [], s, V, hI, _ => ⟨[], by simp [runV], by simpa [runV] using hI, by simp, fun _ _ => rfl, fun _ => ⟨by simp, by simp⟩, fun h => by cases h⟩
  | x :: r, s, V, hI, hx => by
    have hxi := hx x (by simp)
    simp only [runV]
    by_cases hop : opF cn s x N = true
    · rw [if_pos hop]
      have hv : x ∉ V := (hI.mem hN hN1 hxi).1 (by have := of_decide_eq_true hop; rw [hcn] at this; exact this)
      have hI2 : CInv N cs (viF N goal f s x).2 (x :: V) := hI.mark hN hxi hv _ _
      by_cases hg : x = goal
      · have : (viF N goal f s x).1 = true := by simp [viF, hg]
        rw [if_pos this]
        refine ⟨[x], rfl, hI2, fun y hy => ?_, fun y hy => ?_, fun h => (by cases h), fun _ => by simp [hg]⟩
        · simp at hy; subst hy
          exact ⟨by simp, hv, by simp [viF, getB_put]⟩
        · simp at hy
          simp [viF, getB_put, hy]
      · have : ¬ (viF N goal f s x).1 = true := by simp [viF, hg]
        rw [if_neg this]
        obtain ⟨new, h⟩ := runV_spec hN hN1 hcn f r (viF N goal f s x).2 (x :: V) hI2 (fun y hy => hx y (by simp [hy]))
        have hxn : x ∉ new := fun e => (h.mem x e).2.1 (by simp)
        refine ⟨x :: new, ?_, ?_, fun y hy => ?_, fun y hy => ?_, fun hq => ⟨?_, fun y hy => ?_⟩, fun hq => by simp [h.yes hq]⟩
        · rw [h.next]; simp [viF]
        · have := h.inv; simpa using this
        · rcases List.mem_cons.1 hy with rfl | hy
          · exact ⟨by simp, hv, by rw [h.old y hxn]; simp [viF, getB_put]⟩
          · obtain ⟨h1, h2, h3⟩ := h.mem y hy
            exact ⟨by simp [h1], fun e => h2 (by simp [e]), h3⟩
        · simp at hy
          rw [h.old y hy.2]
          simp [viF, getB_put, hy.1]
        · simp [Ne.symm hg, (h.no hq).1]
        · rcases List.mem_cons.1 hy with rfl | hy
          · simp
          · rcases (h.no hq).2 y hy with h1 | h1
            · simp [h1]
            · rcases List.mem_cons.1 h1 with rfl | h1
              · simp
              · simp [h1]
    · rw [if_neg hop]
      have hv : x ∈ V := Classical.byContradiction fun e => hop (decide_eq_true (by rw [hcn]; exact (hI.mem hN hN1 hxi).2 e))
      obtain ⟨new, h⟩ := runV_spec hN hN1 hcn f r s V hI (fun y hy => hx y (by simp [hy]))
      refine ⟨new, h.next, h.inv, fun y hy => ?_, h.old, fun hq => ⟨(h.no hq).1, fun y hy => ?_⟩, h.yes⟩
      · obtain ⟨h1, h2⟩ := h.mem y hy
        exact ⟨by simp [h1], h2⟩
      · rcases List.mem_cons.1 hy with rfl | hy
        · exact .inr hv
        · exact (h.no hq).2 y hy
theorem runV_skip (hcn : cn N = 1) (hN : N ≤ 4) (hN1 : 1 ≤ N) (f : S4) : ∀ (xs : List S4) (s : Ex) (V : List S4), CInv N cs s V → (∀ x ∈ xs, x ∈ V) → runV N cn goal f xs s = (false, s)
  | [], s, V, _, _ => rfl
  | x :: r, s, V, hI, hx => by
    have hv := hx x (by simp)
    have hop : ¬ opF cn s x N = true := fun e => by
      have := of_decide_eq_true e
      rw [hcn] at this
      exact (hI.mem hN hN1 (hI.inb x hv)).1 this hv
    simp only [runV, if_neg hop]
    exact runV_skip hcn hN hN1 f r s V hI fun y hy => hx y (by simp [hy])
/-- expand goes through the states that follow. -/
theorem exp_run (hN : N ≤ 4) (hN1 : 1 ≤ N) (hcn : ∀ k, k ≤ N → cn k = prodF cs (N - k) k) (f : S4) (a : Nat → Nat) (hc : ∀ i, i < N → ∀ v ∈ nextAt nx i (a i), v ∈ cs i) :
    ∀ (d k : Nat) (t : S4) (s : Ex) (V : List S4), k + d = N → InB cs k t → CInv N cs s V → (d = 0 → opF cn s t N = true) → expF nx (frB l a) (opF cn) (viF N goal f) a d k t s = runV N cn goal f (enS nx l a d k t) s
  | 0, k, t, s, V, hk, ht, hI, ho => by
    simp only [expF, enS, runV, if_pos (ho rfl)]
    split
    · rename_i h; rw [← h]
    · rename_i h
      have : (viF N goal f s t).1 = false := by simpa using h
      rw [← this]
  | d + 1, k, t, s, V, hk, ht, hI, ho => by
    have hc1 : cn N = 1 := by rw [hcn N (Nat.le_refl _), Nat.sub_self]; rfl
    have key : ∀ (vs : List Nat), (∀ v ∈ vs, v ∈ cs k) → ∀ (s : Ex) (V : List S4), CInv N cs s V →
        loopF (fun v s => if opF cn s (t.set k (v : Nat)) (k + 1) && frB l a (t.set k (v : Nat)) k then expF nx (frB l a) (opF cn) (viF N goal f) a d (k + 1) (t.set k (v : Nat)) s else (false, s)) vs s
          = runV N cn goal f (vs.flatMap fun v => if frB l a (t.set k (v : Nat)) k = true then enS nx l a d (k + 1) (t.set k (v : Nat)) else []) s := by
      intro vs
      induction vs with
      | nil => intro _ s V _; rfl
      | cons v r ih =>
        intro hv s V hI
        have hvc := hv v (by simp)
        have hr : ∀ u ∈ r, u ∈ cs k := fun u hu => hv u (by simp [hu])
        have hts := ht.set (show k < 4 by omega) hvc
        simp only [loopF, List.flatMap_cons]
        rw [runV_app]
        by_cases hf : frB l a (t.set k (v : Nat)) k = true
        · rw [if_pos hf]
          by_cases hop : opF cn s (t.set k (v : Nat)) (k + 1) = true
          · simp only [hop, hf, Bool.and_self, if_true]
            have e := exp_run hN hN1 hcn f a hc d (k + 1) (t.set k (v : Nat)) s V (by omega) hts hI (fun h0 => by
              have : k + 1 = N := by omega
              rw [← this]; exact hop)
            rw [e]
            obtain ⟨new, h⟩ := runV_spec (goal := goal) hN hN1 hc1 f (enS nx l a d (k + 1) (t.set k (v : Nat))) s V hI (fun x hx => (enP_mem hN d (k + 1) _ x (by omega) hts (enS_inb hN hc d (k + 1) _ (by omega) hts x hx)).1)
            cases hq : (runV N cn goal f (enS nx l a d (k + 1) (t.set k (v : Nat))) s).1 with
            | true => simp only [if_true]; rw [← hq]
            | false =>
              simp only [Bool.false_eq_true, if_false]
              exact ih hr _ _ h.inv
          · have hop' : opF cn s (t.set k (v : Nat)) (k + 1) = false := by simpa using hop
            simp only [hop', Bool.false_and, Bool.false_eq_true, if_false]
            have hfull := hI.full hN (show 1 ≤ k + 1 by omega) (show k + 1 + d = N by omega) hts (by
              have h1 := of_decide_eq_false hop'
              rw [hcn (k + 1) (by omega), show N - (k + 1) = d by omega] at h1
              omega)
            have hskip := runV_skip (goal := goal) hc1 hN hN1 f (enS nx l a d (k + 1) (t.set k (v : Nat))) s V hI (fun x hx => hfull x (enS_inb hN hc d (k + 1) _ (by omega) hts x hx))
            rw [hskip]
            simp only [Bool.false_eq_true, if_false]
            exact ih hr s V hI
        · rw [if_neg hf]
          have hf' : frB l a (t.set k (v : Nat)) k = false := by simpa using hf
          simp only [hf', Bool.and_false, Bool.false_eq_true, if_false, runV]
          exact ih hr s V hI
    exact key (nextAt nx k (a k)) (hc k (by omega)) s V hI
/-- What a tick does. -/
structure TickS (layer : List S4) (s : Ex) (V : List S4) (q : Bool × Ex) (new : List S4) (N : Nat) (nx : List (List (List Nat))) (l : List ((Mv × Mv) × Value)) (cs : Nat → List Nat) (goal : S4) : Prop where
  next : q.2.next = s.next ++ new
  inv : CInv N cs q.2 (new.reverse ++ V)
  mem : ∀ x ∈ new, x ∉ V ∧ getB q.2.bef x ∈ layer ∧ x ∈ succS N nx l (getB q.2.bef x)
  old : ∀ x, x ∉ new → getB q.2.bef x = getB s.bef x
  no : q.1 = false → goal ∉ new ∧ ∀ f ∈ layer, ∀ x ∈ succS N nx l f, x ∈ new ∨ x ∈ V
  yes : q.1 = true → goal ∈ new
theorem vxs_get {t : S4} {cs : Nat → List Nat} (h : InB cs N t) : ∀ i, i < N → t.get i = (vxs N t i : Nat) ∧ vxs N t i ∈ cs i := fun i hi => by
  obtain ⟨x, h1, h2⟩ := h.1 i hi
  have : vxs N t i = x := by simp [vxs, atOf, rowOf, hi, h1]
  rw [this]; exact ⟨h1, h2⟩
/-- No move leaves the lists. -/
def Closed (N : Nat) (nx : List (List (List Nat))) (cs : Nat → List Nat) : Prop := ∀ i, i < N → ∀ x ∈ cs i, ∀ v ∈ nextAt nx i x, v ∈ cs i
theorem s4n_inb (cs : Nat → List Nat) : InB cs 0 s4n := ⟨fun i hi => by omega, fun i _ h4 => s4n_getN i h4⟩
theorem succS_inb (hN : N ≤ 4) (hc : Closed N nx cs) {t : S4} (ht : InB cs N t) : ∀ x ∈ succS N nx l t, InB cs N x := fun x hx =>
  (enP_mem hN N 0 s4n x (by omega) (s4n_inb cs) (enS_inb hN (fun i hi v hv => hc i hi _ (vxs_get ht i hi).2 v hv) N 0 s4n (by omega) (s4n_inb cs) x hx)).1
theorem tickF_spec (hN : N ≤ 4) (hN1 : 1 ≤ N) (hcn : ∀ k, k ≤ N → cn k = prodF cs (N - k) k) (hc : Closed N nx cs) : ∀ (layer : List S4) (s : Ex) (V : List S4), CInv N cs s V → (∀ f ∈ layer, InB cs N f) → ∃ new, TickS layer s V (tickF N nx l cn goal layer s) new N nx l cs goal
  | [], s, V, hI, _ => ⟨[], by simp [tickF], by simpa [tickF] using hI, by simp, fun _ _ => rfl, fun _ => ⟨by simp, by simp⟩, fun h => by cases h⟩
  | f :: r, s, V, hI, hl => by
    have hf := hl f (by simp)
    have hc1 : cn N = 1 := by rw [hcn N (Nat.le_refl _), Nat.sub_self]; rfl
    have hcf : ∀ i, i < N → ∀ v ∈ nextAt nx i (vxs N f i), v ∈ cs i := fun i hi v hv => hc i hi _ (vxs_get hf i hi).2 v hv
    have e := exp_run (goal := goal) (l := l) hN hN1 hcn f (vxs N f) hcf N 0 s4n s V (by omega) (s4n_inb cs) hI (fun h => by omega)
    obtain ⟨new, h⟩ := runV_spec (goal := goal) hN hN1 hc1 f (enS nx l (vxs N f) N 0 s4n) s V hI (succS_inb hN hc hf)
    simp only [tickF]
    rw [e]
    cases hq : (runV N cn goal f (enS nx l (vxs N f) N 0 s4n) s).1 with
    | true =>
      simp only [if_true]
      refine ⟨new, h.next, h.inv, fun x hx => ?_, h.old, fun h => (by cases h), fun _ => h.yes hq⟩
      obtain ⟨h1, h2, h3⟩ := h.mem x hx
      simp only
      rw [h3]
      exact ⟨h2, by simp, h1⟩
    | false =>
      simp only [Bool.false_eq_true, if_false]
      obtain ⟨new2, g⟩ := tickF_spec hN hN1 hcn hc r _ _ h.inv (fun x hx => hl x (by simp [hx]))
      have hno := h.no hq
      refine ⟨new ++ new2, ?_, ?_, fun x hx => ?_, fun x hx => ?_, fun hq2 => ⟨?_, fun y hy x hx => ?_⟩, fun hq2 => by simp [g.yes hq2]⟩
      · rw [g.next, h.next]; simp
      · have := g.inv; simpa using this
      · rcases List.mem_append.1 hx with hx | hx
        · obtain ⟨h1, h2, h3⟩ := h.mem x hx
          have hxn : x ∉ new2 := fun e => (g.mem x e).1 (by simp [hx])
          rw [g.old x hxn, h3]
          exact ⟨h2, by simp, h1⟩
        · obtain ⟨h1, h2, h3⟩ := g.mem x hx
          exact ⟨fun e => h1 (by simp [e]), by simp [h2], h3⟩
      · simp at hx
        rw [g.old x hx.2, h.old x hx.1]
      · simp [hno.1, (g.no hq2).1]
      · rcases List.mem_cons.1 hy with rfl | hy
        · rcases hno.2 x hx with h1 | h1
          · simp [h1]
          · exact .inr h1
        · rcases (g.no hq2).2 y hy x hx with h1 | h1
          · simp [h1]
          · simp at h1
            rcases h1 with h1 | h1
            · simp [h1]
            · exact .inr h1
/-- The state after some ticks back. -/
def bk (b : List (S4 × S4)) (x : S4) : Nat → S4
  | 0 => x
  | j + 1 => getB b (bk b x j)
theorem bk_shift (b : List (S4 × S4)) (x : S4) : ∀ j, bk b x (j + 1) = bk b (getB b x) j
  | 0 => rfl
  | j + 1 => by show getB b (bk b x (j + 1)) = getB b (bk b (getB b x) j); rw [bk_shift b x j]
/-- Where all arms can be after n ticks. -/
def Reach (N : Nat) (nx : List (List (List Nat))) (l : List ((Mv × Mv) × Value)) (start : S4) : Nat → S4 → Prop
  | 0, x => x = start
  | n + 1, x => ∃ y, Reach N nx l start n y ∧ x ∈ succS N nx l y
theorem Reach.inb (hN : N ≤ 4) (hc : Closed N nx cs) (hs : InB cs N start) : ∀ {n x}, Reach N nx l start n x → InB cs N x
  | 0, x, h => by rw [show x = start from h]; exact hs
  | n + 1, x, ⟨y, h1, h2⟩ => succS_inb hN hc (Reach.inb hN hc hs h1) x h2
/-- What holds ahead of a tick. -/
structure Lay (N : Nat) (nx : List (List (List Nat))) (l : List ((Mv × Mv) × Value)) (cs : Nat → List Nat) (start goal : S4) (n : Nat) (layer : List S4) (s : Ex) (V : List S4) : Prop where
  inv : CInv N cs s V
  inb : ∀ x ∈ layer, InB cs N x
  sub : ∀ x ∈ layer, x ∈ V ∨ x = start
  path : ∀ x ∈ layer, bk s.bef x n = start ∧ ∀ j, j < n → bk s.bef x j ∈ V ∧ bk s.bef x j ∈ succS N nx l (bk s.bef x (j + 1))
  ng : goal ∉ V
  reach : ∀ m, 1 ≤ m → m ≤ n → ∀ y, Reach N nx l start m y → y ∈ V
  clo : ∀ x, (x ∈ V ∨ x = start) → x ∉ layer → ∀ y ∈ succS N nx l x, y ∈ V
theorem bk_old {s s' : Ex} {V : List S4} {n : Nat} {x : S4} (hp : ∀ j, j < n → bk s.bef x j ∈ V) (hold : ∀ y ∈ V, getB s'.bef y = getB s.bef y) : ∀ j, j ≤ n → bk s'.bef x j = bk s.bef x j
  | 0, _ => rfl
  | j + 1, h => by
    show getB s'.bef (bk s'.bef x j) = getB s.bef (bk s.bef x j)
    rw [bk_old hp hold j (by omega), hold _ (hp j (by omega))]
theorem Lay.path2 {n : Nat} {layer new V : List S4} {s : Ex} {q : Bool × Ex} (h : Lay N nx l cs start goal n layer s V) (g : TickS layer s V q new N nx l cs goal) : ∀ x ∈ new, bk q.2.bef x (n + 1) = start ∧ ∀ j, j < n + 1 → (bk q.2.bef x j ∈ new ∨ bk q.2.bef x j ∈ V) ∧ bk q.2.bef x j ∈ succS N nx l (bk q.2.bef x (j + 1)) := by
  intro x hx
  obtain ⟨h1, h2, h3⟩ := g.mem x hx
  obtain ⟨p1, p2⟩ := h.path _ h2
  have hold : ∀ y ∈ V, getB q.2.bef y = getB s.bef y := fun y hy => g.old y fun e => (g.mem y e).1 hy
  have hb := bk_old (s := s) (s' := q.2) (fun j hj => (p2 j hj).1) hold
  refine ⟨by rw [bk_shift, hb n (Nat.le_refl _), p1], fun j hj => ?_⟩
  cases j with
  | zero => exact ⟨.inl hx, h3⟩
  | succ j =>
    rw [bk_shift, bk_shift, hb j (by omega), hb (j + 1) (by omega)]
    exact ⟨.inr (p2 j (by omega)).1, (p2 j (by omega)).2⟩
theorem Lay.next {n : Nat} {layer new V : List S4} {s : Ex} {q : Bool × Ex} (h : Lay N nx l cs start goal n layer s V) (g : TickS layer s V q new N nx l cs goal) (hq : q.1 = false) : Lay N nx l cs start goal (n + 1) new q.2 (new.reverse ++ V) := by
  obtain ⟨n1, n2⟩ := g.no hq
  have hcl : ∀ x, (x ∈ V ∨ x = start) → ∀ y ∈ succS N nx l x, y ∈ new ∨ y ∈ V := fun x hx y hy => by
    by_cases e : x ∈ layer
    · exact n2 x e y hy
    · exact .inr (h.clo x hx e y hy)
  refine ⟨g.inv, fun x hx => g.inv.inb x (by simp [hx]), fun x hx => .inl (by simp [hx]), fun x hx => ?_, ?_, fun m hm1 hm y hy => ?_, fun x hx hn y hy => ?_⟩
  · obtain ⟨p1, p2⟩ := h.path2 g x hx
    refine ⟨p1, fun j hj => ⟨?_, (p2 j hj).2⟩⟩
    rcases (p2 j hj).1 with h1 | h1 <;> simp [h1]
  · simp [n1, h.ng]
  · rcases Nat.lt_or_ge n m with h1 | h1
    · obtain ⟨k, rfl⟩ : ∃ k, m = k + 1 := ⟨m - 1, by omega⟩
      obtain ⟨z, hz, hyz⟩ := hy
      have hzV : z ∈ V ∨ z = start := by
        cases k with
        | zero => exact .inr hz
        | succ k => exact .inl (h.reach (k + 1) (by omega) (by omega) z hz)
      rcases hcl z hzV y hyz with h2 | h2 <;> simp [h2]
    · have := h.reach m hm1 h1 y hy
      simp [this]
  · have hx' : x ∈ V ∨ x = start := by
      rcases hx with hx | hx
      · simp at hx
        rcases hx with hx | hx
        · exact absurd hx hn
        · exact .inl hx
      · exact .inr hx
    rcases hcl x hx' y hy with h2 | h2 <;> simp [h2]
theorem Lay.init (hN : N ≤ 4) (hN1 : 1 ≤ N) (hs : InB cs N start) (b : List (S4 × S4)) (n : List S4) : ∃ V, Lay N nx l cs start goal 0 [start] ⟨if start = goal then [] else markN start N [], b, n⟩ V := by
  have h0 : CInv N cs ⟨[], b, n⟩ [] := ⟨List.nodup_nil, by simp, fun k _ _ t _ => rfl, fun b => Nat.zero_le _⟩
  by_cases h : start = goal
  · rw [if_pos h]
    refine ⟨[], h0, ?_, ?_, ?_, by simp, ?_, ?_⟩
    · intro x hx; simp at hx; subst hx; exact hs
    · intro x hx; simp at hx; exact .inr hx
    · intro x hx; simp at hx; subst hx; exact ⟨rfl, fun j hj => by omega⟩
    · intro m h1 h2; omega
    · intro x hx hn; simp at hx hn; exact absurd hx hn
  · rw [if_neg h]
    refine ⟨[start], h0.mark hN hs (by simp) b n, ?_, ?_, ?_, by simp [Ne.symm h], ?_, ?_⟩
    · intro x hx; simp at hx; subst hx; exact hs
    · intro x hx; simp at hx; exact .inr hx
    · intro x hx; simp at hx; subst hx; exact ⟨rfl, fun j hj => by omega⟩
    · intro m h1 h2; omega
    · intro x hx hn; simp at hx hn; exact absurd hx hn
/-- No layer, no way. -/
theorem Lay.done {n : Nat} {V : List S4} {s : Ex} (h : Lay N nx l cs start goal n [] s V) : ∀ m, 1 ≤ m → ∀ y, Reach N nx l start m y → y ∈ V
  | 0, h0, _, _ => by omega
  | m + 1, _, y, ⟨z, hz, hy⟩ => by
    have hzV : z ∈ V ∨ z = start := by
      cases m with
      | zero => exact .inr hz
      | succ k => exact .inl (Lay.done h (k + 1) (by omega) z hz)
    exact h.clo z hzV (by simp) y hy
end
end Go.Proofs.Jn
end

