/-
  Texts put together: Di Dj Dk Ea Eb.
-/
import Derived.Test.YtemchlakoalhcaaZJointMoves15
import Derived.StillTailTactics
set_option linter.unusedVariables false
section
/-
  Walks: Clone, the functions that Moves hands to expand.
-/
namespace Go.Proofs.Jn
open Go.RowKit Go.Shelf

theorem eq22 (a : Addr) (n c : Nat) (w : World) : (binOp .eql 22 (.slice (some a) n c) (.slice none 0 0)).run Try.prog w = .ok (.bool false) w := by
  have h : ∀ d : Nat, (Op.equalIn (d + 1) 22 (.slice (some a) n c) (.slice none 0 0)).run Try.prog w = .ok false w := fun d => by
    simp [Op.equalIn, run_underlying under22]
  simp only [binOp]
  simp [Op.equal, Op.maxDepth, h 9999]
set_option maxRecDepth 100000 in
set_option maxHeartbeats 4000000 in
theorem clone_any (b off ca : Nat) (xs : List Nat) (w : World) (hl : xs.length ≤ 1000) (hpos : 0 < xs.length) (hA : RowsAt w b off 1 (nvals xs)) :
    Calls Try.prog 52 #[.slice (some ⟨b, off, none⟩) xs.length ca] w fun e w' => ∃ g cap, e = .returned (.slice (some ⟨g, 0, none⟩) xs.length cap) ∧ w'.ownsRow w.heap.size 3 1 (.slice (some ⟨g, 0, none⟩) xs.length cap) xs.length (nflat xs) ∧ Below w.heap.size w w' := by
  have hal : Below w.heap.size w (w.alloc (.cells #[] 3)) := (Below.refl _ _).alloc (Nat.le_refl _) _
  have hA2 := hA.keep hal
  have hO : (w.alloc (.cells #[] 3)).ownsRow w.heap.size 3 1 (.slice (some ⟨w.heap.size, 0, none⟩) 0 0) 0 [] := World.ownsRow_made w #[] 0 (Nat.le_refl _) (by decide) rfl
  obtain ⟨i0, hi, hz0, hz1, hz2⟩ := info_parts info3
  have heq := eq22 ⟨b, off, none⟩ xs.length ca w
  go_enter Try.func52, Try.ntmps52
  go_wp2_with (at_builtin; go_loud (refine wpList_append_lies _ rfl _ _ 22 rfl w.heap.size 3 i0 (.int .i64 0) 1 8 under22 hi hz0 hz1 hz2 rfl (by decide) _ _ _ rfl hO ⟨b, off, none⟩ xs.length ca (nflat xs) rfl ?c1 ?c2 ?c3 ?c4 ?c5 ?c6 ?c7 _ rfl ?_))
  case c1 => rw [nflat_len]; omega
  case c2 =>
    intro j u hu
    simp only [nflat, List.getElem?_map, Option.map_eq_some_iff] at hu
    obtain ⟨x, hx, rfl⟩ := hu
    have := hA2.c j _ (nvals_get hx) 0 _ rfl
    rw [← this]
    congr 1
    unfold Addr.add
    split <;> simp_all
  case c3 => intro u hu; simp only [nflat, List.mem_map] at hu; obtain ⟨x, _, rfl⟩ := hu; rfl
  case c4 => exact hpos
  case c5 => unfold maxLen; omega
  case c6 => omega
  case c7 => simp
  intro g cap w9 hown hgr hat hlt
  have hb := hal.trans (grown_below hO hgr (by simp))
  have HB := Lib.hid hb
  have HO := Lib.hid hown
  clear hown hgr hat hb hA2 hA hal hi hz0 hz1 hz2 hO heq
  go_wp2
  go_ret
  exact ⟨g, cap, rfl, HO.out, HB.out⟩

set_option maxHeartbeats 4000000 in
theorem yes_any (t : S4) (k : Nat) (w : World) : Calls Try.prog 50 #[t.v, .int .i64 (k : Nat)] w (BoolP true w) := by
  unfold S4.v
  go_enter Try.func50, Try.ntmps50
  go_wp2
  go_ret
  exact boolP_mk rfl ((Below.refl _ _).alloc (Nat.le_refl _) _)

/-- The rows that Moves lists, where they lie. -/
structure LB (W : World) (nl : Nat) (ls : List (List Nat)) (vs : List Value) (vl : Value) : Prop where
  box : Blk W nl [vl]
  own : W.ownsRow (nl + 1) 22 1 vl vs.length vs
  len : vs.length = ls.length
  row : ∀ (i : Nat) (v : Value) (l : List Nat), vs[i]? = some v → ls[i]? = some l → W.ownsRow (nl + 1) 3 1 v l.length (nflat l)
  ap : ∀ v ∈ vs, ∀ b, v.ownBlock = some b → vl.ownBlock ≠ some b
theorem LB.keep {W W' : World} {nl : Nat} {ls : List (List Nat)} {vs : List Value} {vl : Value} (h : LB W nl ls vs vl) (hb : Below W.heap.size W W') : LB W' nl ls vs vl :=
  ⟨h.box.keep hb, own_keep h.own hb, h.len, fun i v l h1 h2 => own_keep (h.row i v l h1 h2) hb, h.ap⟩
theorem LB.app {W W' : World} {nl : Nat} {ls : List (List Nat)} {vs : List Value} {vl : Value} (h : LB W nl ls vs vl) (v : Value) (l : List Nat) (g c : Nat)
    (ho : W'.ownsRow (nl + 1) 22 1 (.slice (some ⟨g, 0, none⟩) (vs.length + 1) c) (vs.length + 1) (vs ++ [v])) (hg : W.grownBy W' vl.ownBlock) (hat : vl.ownBlock = some g ∨ W.heap.size ≤ g)
    (hv : W.ownsRow (nl + 1) 3 1 v l.length (nflat l)) (hap : ∀ b, v.ownBlock = some b → vl.ownBlock ≠ some b) :
    LB (W'.setCell ⟨nl, 0, none⟩ (.slice (some ⟨g, 0, none⟩) (vs.length + 1) c)) nl (ls ++ [l]) (vs ++ [v]) (.slice (some ⟨g, 0, none⟩) (vs.length + 1) c) := by
  have hxl := h.box.lt
  have hS : ∀ k, k ≠ nl → (W'.setCell ⟨nl, 0, none⟩ (.slice (some ⟨g, 0, none⟩) (vs.length + 1) c)).heap[k]? = W'.heap[k]? := fun k hk => Below.heap_setCell W' ⟨nl, 0, none⟩ _ k hk
  have hvn : ∀ k, k ≤ nl → vl.ownBlock ≠ some k := fun k hk e => by have := (own_lt h.own k e).2; omega
  have hold : ∀ (u : Value) (x : List Nat), W.ownsRow (nl + 1) 3 1 u x.length (nflat x) → (∀ b, u.ownBlock = some b → vl.ownBlock ≠ some b) → (W'.setCell ⟨nl, 0, none⟩ (.slice (some ⟨g, 0, none⟩) (vs.length + 1) c)).ownsRow (nl + 1) 3 1 u x.length (nflat x) := fun u x hu hne =>
    own_blk hu fun b hub hbl hbb => by rw [hS b (by omega), hg.block b hbl (fun e => hne b hub e.symm)]
  have hnew : ∀ (u : Value) (x : List Nat), W.ownsRow (nl + 1) 3 1 u x.length (nflat x) → (∀ b, u.ownBlock = some b → vl.ownBlock ≠ some b) → ∀ b, u.ownBlock = some b → (Value.slice (some ⟨g, 0, none⟩) (vs.length + 1) c).ownBlock ≠ some b := fun u x hu hne b hub e => by
    simp [Value.ownBlock] at e
    subst e
    rcases hat with h3 | h3
    · exact hne _ hub h3
    · have := (own_lt hu _ hub).1; omega
  have hrow : ∀ u ∈ vs, ∃ x, W.ownsRow (nl + 1) 3 1 u x.length (nflat x) := fun u hu => by
    obtain ⟨i, hi⟩ := List.getElem?_of_mem hu
    have hj : i < ls.length := by rw [← h.len]; exact (List.getElem?_eq_some_iff.1 hi).1
    exact ⟨ls[i], h.row i u _ hi (List.getElem?_eq_getElem hj)⟩
  refine ⟨(h.box.keepN (hg.block nl hxl (fun e => hvn nl (Nat.le_refl _) e.symm)) hg.size).put 0 _, ?_, by simp [h.len], fun i u x hu hx => ?_, fun u hu b hub => ?_⟩
  · rw [List.length_append]
    exact own_blk ho fun b _ _ hbb => hS b (by omega)
  · rcases Nat.lt_trichotomy i vs.length with hi | hi | hi
    · rw [List.getElem?_append_left hi] at hu
      rw [List.getElem?_append_left (by rw [← h.len]; exact hi)] at hx
      exact hold u x (h.row i u x hu hx) (h.ap u (List.mem_of_getElem? hu))
    · rw [hi, List.getElem?_append_right (Nat.le_refl _)] at hu
      rw [hi, h.len, List.getElem?_append_right (Nat.le_refl _)] at hx
      simp at hu hx
      subst hu hx
      exact hold _ _ hv hap
    · rw [List.getElem?_eq_none (by simp; omega)] at hu; cases hu
  · rcases List.mem_append.1 hu with hu | hu
    · obtain ⟨x, hx⟩ := hrow u hu
      exact hnew u x hx (h.ap u hu) b hub
    · simp at hu; subst hu
      exact hnew _ l hv hap b hub

def rowOf (N : Nat) (t : S4) : List Nat := (List.range N).map fun i => (t.get i).toNat
def usesL (nl : Nat) (vs : List Value) (vl : Value) (b : Nat) : Prop := b = nl ∨ vl.ownBlock = some b ∨ ∃ u ∈ vs, u.ownBlock = some b
theorem LB.uniq {W : World} {nl : Nat} {ls ls' : List (List Nat)} {vs vs' : List Value} {vl vl' : Value} (h : LB W nl ls vs vl) (k : LB W nl ls' vs' vl') : vl' = vl ∧ vs' = vs := by
  have h1 := h.box.c 0 _ rfl
  have h2 := k.box.c 0 _ rfl
  rw [h1] at h2
  injection h2 with h2
  subst h2
  refine ⟨rfl, ?_⟩
  obtain ⟨_, ho⟩ := h.own
  obtain ⟨_, ko⟩ := k.own
  rcases ho with ⟨rfl, h0⟩ | ⟨g, cap, cur, rfl, _, hg, _, _, _, ht⟩
  · rcases ko with ⟨_, k0⟩ | ⟨g, cap, cur, hv, _⟩
    · rw [List.length_eq_zero_iff.1 h0, List.length_eq_zero_iff.1 k0]
    · cases hv
  · rcases ko with ⟨hv, k0⟩ | ⟨g', cap', cur', hv, _, hg', _, _, _, ht'⟩
    · cases hv
    · injection hv with hv hn hc
      injection hv with hv
      injection hv with hv
      subst hv
      rw [hg] at hg'
      injection hg' with hg'
      injection hg' with hcu
      subst hcu
      rw [← ht, ← ht', hn]
theorem LB.lt {W : World} {nl : Nat} {ls : List (List Nat)} {vs : List Value} {vl : Value} (h : LB W nl ls vs vl) {b : Nat} (hb : usesL nl vs vl b) : b < W.heap.size ∧ nl ≤ b := by
  rcases hb with rfl | hb | ⟨u, hu, hb⟩
  · exact ⟨h.box.lt, Nat.le_refl _⟩
  · have := own_lt h.own b hb; omega
  · obtain ⟨i, hi⟩ := List.getElem?_of_mem hu
    have hj : i < ls.length := by rw [← h.len]; exact (List.getElem?_eq_some_iff.1 hi).1
    have := own_lt (h.row i u _ hi (List.getElem?_eq_getElem hj)) b hb
    omega
theorem LB.keepQ {W W' : World} {nl : Nat} {ls : List (List Nat)} {vs : List Value} {vl : Value} (h : LB W nl ls vs vl) (hs : W.heap.size ≤ W'.heap.size) (hb : ∀ b, usesL nl vs vl b → W'.heap[b]? = W.heap[b]?) : LB W' nl ls vs vl :=
  ⟨h.box.keepN (hb nl (.inl rfl)) hs, own_blk h.own fun g hg _ _ => hb g (.inr (.inl hg)), h.len, fun i v l h1 h2 => own_blk (h.row i v l h1 h2) fun g hg _ _ => hb g (.inr (.inr ⟨v, List.mem_of_getElem? h1, hg⟩)), h.ap⟩
/-- The ghost of Moves. -/
def ghM (nl na N ca : Nat) (oa : Option Addr) : Gh (List (List Nat)) where
  Inv s W := (∃ vs vl, LB W nl s vs vl) ∧ Blk W na [.slice oa N ca] ∧ na < nl
  Own s W b := ∃ vs vl, LB W nl s vs vl ∧ usesL nl vs vl b
  R c s := s.length + c ≤ 1000000000000
  fo := 50
  fv := 51
  Fo := #[]
  Cv := #[.pointer (some ⟨nl, 0, none⟩), .pointer (some ⟨na, 0, none⟩)]
  op _ _ _ := true
  vi s t := (false, s ++ [rowOf N t])
theorem ownM {nl na N ca : Nat} {oa : Option Addr} {W : World} {s : List (List Nat)} {vs : List Value} {vl : Value} (h : LB W nl s vs vl) (b : Nat) : (ghM nl na N ca oa).Own s W b ↔ usesL nl vs vl b := by
  constructor
  · rintro ⟨vs', vl', h', hu⟩
    obtain ⟨rfl, rfl⟩ := h.uniq h'
    exact hu
  · exact fun hu => ⟨vs, vl, h, hu⟩
theorem rowOf_len (N : Nat) (t : S4) : (rowOf N t).length = N := by simp [rowOf]
end Go.Proofs.Jn
end

section
/-
  Walks: the function that Moves hands to expand; Moves.
-/
namespace Go.Proofs.Jn
open Go.RowKit Go.Shelf

theorem rowOf_cells {W : World} {n : Nat} {t : S4} (h : Blk W n t.l) (N : Nat) (hN : N ≤ 4) (ht : ∀ i, i < N → t.get i = ((t.get i).toNat : Nat)) : RowsAt W n 0 1 (nvals (rowOf N t)) := by
  refine ⟨h.lt, fun i r hi k v hv => ?_⟩
  simp only [nvals, rowOf, List.getElem?_map, Option.map_eq_some_iff] at hi
  obtain ⟨x, ⟨j, hj, rfl⟩, rfl⟩ := hi
  obtain ⟨hlt, hji⟩ := List.getElem?_eq_some_iff.1 hj
  simp at hlt
  simp at hji
  subst hji
  have hk : k = 0 := by
    rcases Nat.eq_zero_or_pos k with h | h
    · exact h
    · rw [List.getElem?_eq_none (by simp; omega)] at hv; cases hv
  subst hk
  rw [← ht i hlt] at hv
  simp at hv
  subst hv
  have := h.c i _ (t.l_get i (by omega))
  simpa using this
theorem slice84 (n N : Nat) (hN : N ≤ 4) (w : World) : (Instr.sliceAt 84 (.pointer (some ⟨n, 0, none⟩)) none (some (.int .i64 (N : Nat))) none).run Try.prog w = .ok (.slice (some ⟨n, 0, none⟩) N 4) w := by
  match N, hN with
  | 0, _ | 1, _ | 2, _ | 3, _ | 4, _ => simp [Instr.sliceAt, go_sem, ]
set_option maxRecDepth 100000 in
set_option maxHeartbeats 4000000 in
theorem list_any (nl na N ca : Nat) (oa : Option Addr) (s : List (List Nat)) (vs : List Value) (vl : Value) (t : S4) (w : World) (hL : LB w nl s vs vl) (hA : Blk w na [.slice oa N ca]) (hna : na < nl) (hN : N ≤ 4) (hN1 : 1 ≤ N) (ht : ∀ i, i < N → t.get i = ((t.get i).toNat : Nat)) (hs : s.length < 1000000000000) :
    Calls Try.prog 51 (#[t.v] ++ #[.pointer (some ⟨nl, 0, none⟩), .pointer (some ⟨na, 0, none⟩)]) w fun e w' => e = .returned (.bool false) ∧ ∃ g c v V W9, Below w.heap.size w V ∧ W9.ownsRow (nl + 1) 22 1 (.slice (some ⟨g, 0, none⟩) (vs.length + 1) c) (vs.length + 1) (vs ++ [v]) ∧ V.grownBy W9 vl.ownBlock ∧ (vl.ownBlock = some g ∨ V.heap.size ≤ g) ∧ V.ownsRow (nl + 1) 3 1 v N (nflat (rowOf N t)) ∧ (∀ b, v.ownBlock = some b → w.heap.size ≤ b) ∧ w' = W9.setCell ⟨nl, 0, none⟩ (.slice (some ⟨g, 0, none⟩) (vs.length + 1) c) := by
  have HL0 := Lib.hid hL
  have HA0 := Lib.hid hA
  have hvl : vs.length < 1000000000000 := by rw [hL.len]; exact hs
  unfold S4.v
  go_enter Try.func51, Try.ntmps51
  go_upto_region 1 with fail
  have hbx_ := blks1 w [.int .i64 t.a, .int .i64 t.b, .int .i64 t.c, .int .i64 t.d] 84
  replace hL := hL.keep hbx_.2
  replace hA := hA.keep hbx_.2
  have HB := Lib.hid (hbx_.2)
  have hod : w.heap.size ≤ w.heap.size := by omega
  generalize w.alloc (.cells #[.int .i64 t.a, .int .i64 t.b, .int .i64 t.c, .int .i64 t.d] 84) = W1 at hbx_ hL hA HB ⊢
  obtain ⟨r3, hbel_⟩ := hbx_
  obtain ⟨n3, hn_⟩ : ∃ n, n = w.heap.size := ⟨_, rfl⟩
  rw [← hn_] at r3 ⊢
  replace hod := Nat.le_of_eq hn_.symm
  clear hn_ hbel_
  have x0 := hL.box.c 0 _ rfl
  have f0 := hL.box.f 0
  have lx := hL.box.lt
  have y0 := hA.c 0 _ rfl
  have ly := hA.lt
  have l3 := r3.lt
  have hrow := rowOf_cells (W := W1.drew) (r3.keep (Below.refl _ _).drew) N hN ht
  have HROW := Lib.hid hrow
  have HCL : Hid (Calls Try.prog 52 #[.slice (some ⟨n3, 0, none⟩) N 4] W1.drew _) := Lib.hid (by have := clone_any n3 0 4 (rowOf N t) W1.drew (by rw [rowOf_len]; omega) (by rw [rowOf_len]; omega) hrow; rw [rowOf_len] at this; exact this)
  have hsl := slice84 n3 N hN
  have hne : na ≠ nl := by omega
  have HLB := Lib.hid hL
  have HNA := Lib.hid hna
  obtain ⟨i0, hi, hz0, hz1, hz2⟩ := info_parts info22
  clear hL hA hrow hna
  go_region_law
    (first
      | (go_simp
         go_at_call 52
         refine HCL.out.mono ?_
         rintro e V5 ⟨g, cap, rfl, hown, hb⟩
         have hb1 := (Below.refl W1.heap.size W1).drew.trans hb
         have hL5 := HLB.out.keep hb1
         have q0 : V5.cell? ⟨nl, 0, none⟩ = some vl := hL5.box.c 0 _ rfl
         have q1 : V5.cell? ⟨na, 0, none⟩ = some (.slice oa N ca) := (hb1.cell (p := ⟨na, 0, none⟩) ly).trans y0
         have lq0 := hL5.box.lt
         have lq1 := Nat.lt_of_lt_of_le ly hb1.size
         have hal : Below V5.heap.size V5 (V5.alloc (.cells #[.slice (some ⟨g, 0, none⟩) N cap] 22)) := (Below.refl _ _).alloc (Nat.le_refl _) _
         have HL6 := Lib.hid (hL5.keep hal)
         have HO6 := Lib.hid (own_keep hown hal)
         have HB6 := Lib.hid (below_call hb1 hal)
         have HQ6 := Lib.hid (below_call HB.out (below_call hb1 hal))
         clear hL5 hal hown)
      | (have hxx := HL6; clear hxx
         refine step_append_lies _ rfl (.tmp 5) (.tmp 10) 30 rfl (nl + 1) 22 i0 (.slice none 0 0) 1 24 under30 hi hz0 hz1 hz2 rfl (by decide) vl vs.length _ (by simp [Act.eval]) HL6.out.own ⟨V5.heap.size, 0, none⟩ 1 1 [.slice (some ⟨g, 0, none⟩) N cap] (by simp [Act.eval]) rfl (new_cells _ _ _) (by simp [Value.oneCell']) (by decide) (by unfold maxLen; omega) (by omega) (by have := HL6.out.box.lt; omega) _ rfl ?_
         intro g' c' W9 hown hgrow hat hlt9
         have hb9 := HL6.out.box.low (Nat.lt_succ_self _) (grown_below HL6.out.own hgrow (by have := HL6.out.box.lt; omega))
         have z0 := hb9.c 0 _ rfl
         have z1 := hb9.f 0
         have z2 : W9.cell? ⟨na, 0, none⟩ = some (.slice oa N ca) := by
           have h1 := grown_below HL6.out.own hgrow (by have := HL6.out.box.lt; omega)
           rw [h1.cell (p := ⟨na, 0, none⟩) (by have := HNA.out; show na < nl + 1; omega), HB6.out.cell (p := ⟨na, 0, none⟩) ly]; exact y0
         have HOW := Lib.hid hown
         have HGR := Lib.hid hgrow
         clear hown hgrow))
  all_goals
    have HAT := Lib.hid hat
    clear hat x0 f0 y0 hsl hi hz0 hz1 hz2
    go_wp2
    go_ret
    refine ⟨rfl, g', c', _, V5.alloc (.cells #[.slice (some ⟨g, 0, none⟩) N cap] 22), W9, HQ6.out, HOW.out, HGR.out, ?_, ?_, ?_, rfl⟩
    · rcases HAT.out with h | h
      · exact .inl h
      · exact .inr (by simp at h ⊢; omega)
    · exact own_base HO6.out (by show nl + 1 ≤ W1.heap.size; omega)
    · intro b hb
      have h1 := (own_lt HO6.out b hb).2
      have h2 := HB.out.size
      have h3 : W1.heap.size ≤ b := h1
      omega
theorem ghM_ok {nl na N ca B : Nat} {oa : Option Addr} {nx : List (List (List Nat))} {a : Nat → Nat} (hnx : nx.length = N) (hN : N ≤ 4) (hN1 : 1 ≤ N) (hB : na < B) : GhOk (ghM nl na N ca oa) nx a B where
  eo := enters_of Try.func50 (by kernel_rfl) rfl
  ev := enters_of Try.func51 (by kernel_rfl) rfl
  keep := by
    rintro s W W' ⟨⟨vs, vl, hL⟩, hA, hn⟩ hb
    exact ⟨⟨vs, vl, hL.keep hb⟩, hA.keep hb, hn⟩
  kset := by
    rintro s W n i v ⟨⟨vs, vl, hL⟩, hA, hn⟩ hBn ho _
    rw [ownM hL] at ho
    have hs : W.heap.size ≤ (W.setCell ⟨n, i, none⟩ v).heap.size := by simp [World.setCell]
    exact ⟨⟨vs, vl, hL.keepQ hs fun b hb => Below.heap_setCell W ⟨n, i, none⟩ v b (fun e => ho (by have : b = n := e; rw [← this]; exact hb))⟩, hA.keepN (Below.heap_setCell W ⟨n, i, none⟩ v na (by show na ≠ n; omega)) hs, hn⟩
  own := by
    rintro s W b ⟨⟨vs, vl, hL⟩, _, _⟩ ho
    rw [ownM hL] at ho
    exact (hL.lt ho).1
  ownB := by
    rintro s W W' b ⟨⟨vs, vl, hL⟩, _, _⟩ hb ho
    rw [ownM (hL.keep hb)] at ho
    rw [ownM hL]
    exact ho
  ownS := by
    rintro s W n i v b ⟨⟨vs, vl, hL⟩, _, _⟩ hBn hno ho
    rw [ownM hL] at hno ⊢
    have hs : W.heap.size ≤ (W.setCell ⟨n, i, none⟩ v).heap.size := by simp [World.setCell]
    rw [ownM (hL.keepQ hs fun b hb => Below.heap_setCell W ⟨n, i, none⟩ v b (fun e => hno (by have : b = n := e; rw [← this]; exact hb)))] at ho
    exact ho
  mono := by
    intro c c' s h hc
    show s.length + c' ≤ 1000000000000
    have : s.length + c ≤ 1000000000000 := h
    omega
  callO := by
    intro s W t k _ _
    exact yes_any t k W
  callV := by
    rintro s W t c ⟨⟨vs, vl, hL⟩, hA, hn⟩ hR hT _
    have hR' : s.length + (c + 1) ≤ 1000000000000 := hR
    rw [hnx] at hT
    refine (list_any nl na N ca oa s vs vl t W hL hA hn hN hN1 (InTo.nat hT) (by omega)).mono ?_
    rintro e w' ⟨rfl, g, cc, v, V, W9, hV, hown, hgr, hat, hrow, hvb, hw⟩
    have hLV := hL.keep hV
    have hfar : ∀ b, v.ownBlock = some b → vl.ownBlock ≠ some b := fun b h1 h2 => by
      have := hvb b h1
      have := (own_lt hL.own b h2).1
      omega
    have hrow' : V.ownsRow (nl + 1) 3 1 v (rowOf N t).length (nflat (rowOf N t)) := by rw [rowOf_len]; exact hrow
    have hL9 := hLV.app v (rowOf N t) g cc hown hgr hat hrow' hfar
    subst hw
    have hst : ∀ k, k ≠ nl → (W9.setCell ⟨nl, 0, none⟩ (.slice (some ⟨g, 0, none⟩) (vs.length + 1) cc)).heap[k]? = W9.heap[k]? := fun k hk => Below.heap_setCell W9 ⟨nl, 0, none⟩ _ k hk
    have hs9 : W9.heap.size ≤ (W9.setCell ⟨nl, 0, none⟩ (.slice (some ⟨g, 0, none⟩) (vs.length + 1) cc)).heap.size := by simp [World.setCell]
    have hbl : ∀ b, b < W.heap.size → ¬ usesL nl vs vl b → (W9.setCell ⟨nl, 0, none⟩ (.slice (some ⟨g, 0, none⟩) (vs.length + 1) cc)).heap[b]? = W.heap[b]? := fun b hb hno => by
      rw [hst b (fun e => hno (.inl e)), hgr.block b (Nat.lt_of_lt_of_le hb hV.size) (fun e => hno (.inr (.inl e.symm))), hV.block b hb]
    refine ⟨rfl, ⟨hgr.os.trans hV.os, hgr.tape.trans hV.tape, hgr.output.trans hV.output, Nat.le_trans hV.size (Nat.le_trans hgr.size hs9), fun b hb hno => hbl b hb (fun h => hno ((ownM hL b).2 h)), fun b hb => ?_⟩, ⟨⟨_, _, hL9⟩, ?_, hn⟩, ?_⟩
    · have hb' := (ownM hL9 b).1 hb
      rw [ownM hL]
      rcases hb' with h | h | ⟨u, hu, h⟩
      · exact .inl (.inl h)
      · simp [Value.ownBlock] at h
        subst h
        rcases hat with h | h
        · exact .inl (.inr (.inl h))
        · exact .inr (Nat.le_trans hV.size h)
      · rcases List.mem_append.1 hu with hu | hu
        · exact .inl (.inr (.inr ⟨u, hu, h⟩))
        · simp at hu; subst hu; exact .inr (hvb b h)
    · refine hA.keepN (hbl na hA.lt fun h => ?_) (Nat.le_trans hV.size (Nat.le_trans hgr.size hs9))
      have := (hL.lt h).2
      omega
    · show (s ++ [rowOf N t]).length + c ≤ 1000000000000
      simp; omega
end Go.Proofs.Jn
end

section
/-
  expand as Moves calls it.
-/
namespace Go.Proofs.Jn
open Go.RowKit Go.Shelf

theorem s4n_get (i : Nat) (h : i < 4) : s4n.get i = -1 := by
  match i, h with
  | 0, _ | 1, _ | 2, _ | 3, _ => rfl
def atOf (ps : List Nat) (i : Nat) : Nat := (ps[i]?).getD 0
theorem stOf_get (ps : List Nat) (i : Nat) (hi : i < ps.length) (h4 : ps.length ≤ 4) : (stOf ps).get i = (atOf ps i : Nat) := by
  have : natAt ps i = (atOf ps i : Nat) := by simp [natAt, atOf, hi]
  rw [← this]
  match i, (show i < 4 by omega) with
  | 0, _ | 1, _ | 2, _ | 3, _ => rfl
theorem putL_true {α : Type} [DecidableEq α] {l : List (α × Value)} {k : α} (h : ∀ e ∈ l, e.2 = .bool true) : ∀ e ∈ putL l k (.bool true), e.2 = .bool true := by
  induction l with
  | nil => intro e he; simp [putL] at he; rw [he]
  | cons x r ih =>
    obtain ⟨b, u⟩ := x
    intro e he
    simp only [putL] at he
    split at he
    · rcases List.mem_cons.1 he with rfl | he
      · rfl
      · exact h e (by simp [he])
    · rcases List.mem_cons.1 he with rfl | he
      · exact h _ (by simp)
      · exact ih (fun e he => h e (by simp [he])) e he
theorem clOf_true (cs : List Cf) : ∀ e ∈ clOf cs, e.2 = .bool true := by
  unfold clOf
  suffices h : ∀ (cs : List Cf) (l : List ((Mv × Mv) × Value)), (∀ e ∈ l, e.2 = .bool true) → ∀ e ∈ cs.foldl putC l, e.2 = .bool true from h cs [] (by simp)
  intro cs
  induction cs with
  | nil => intro l hl; exact hl
  | cons c r ih => intro l hl; exact ih _ (putL_true hl)
theorem nextOf_short {m : Mp} (hm : MapOk m) (k : Nat) (hk : m.es.length ≤ k) : ∀ x ∈ nextOf m, x.length ≤ 1 + 2 * k := by
  intro x hx
  unfold nextOf at hx
  obtain ⟨l, hl, rfl⟩ := List.mem_map.1 hx
  have := laid_fair hm m.es.length (Nat.le_refl _) l hl
  rw [srt_len]; omega
/-- The places of a list are points of their arms. -/
def InR (T : Tm) (ps : List Nat) : Prop := ps.length = T.ms.length ∧ ∀ (k x : Nat) (m : Mp), ps[k]? = some x → T.ms[k]? = some m → x < m.n
/-- What Moves lists. -/
def movesE (T : Tm) (ps : List Nat) : Bool × List (List Nat) := expF (T.ms.map nextOf) (frB (clOf T.cs) (atOf ps)) (fun _ _ _ => true) (fun s t => (false, s ++ [rowOf ps.length t])) (atOf ps) ps.length 0 s4n []
theorem exp_moves (T : Tm) (ps : List Nat) (on oa : Option Addr) (es : List NxE) (cn gm nl na ca : Nat) (WC X : World) (hC : CrewAt WC on es gm (clOf T.cs)) (hes : es.map NxE.ls = T.ms.map nextOf) (hO : TeamOk T) (hsm : ∀ m ∈ T.ms, m.es.length ≤ 100) (hps : InR T ps)
    (hWX : Below WC.heap.size WC X) (hnl : WC.heap.size ≤ nl) (hna : na < WC.heap.size) (hbx : Blk X nl [.slice none 0 0]) (hA : Blk X na [.slice oa ps.length ca]) :
    Calls Try.prog 47 #[.agg #[.slice on es.length cn, .map (some gm)], (stOf ps).v, s4n.v, .int .i64 0, .func (.func 50) #[] #[], .func (.func 51) #[] #[.pointer (some ⟨nl, 0, none⟩), .pointer (some ⟨na, 0, none⟩)]] X
      fun e X' => (∃ b, e = .returned (.bool b)) ∧ (∃ vs vl, LB X' nl (movesE T ps).2 vs vl) ∧ X.grownBy X' (some nl) ∧ (movesE T ps).2.length ≤ 1000000000000 := by
  have hn1 := hO.n1
  have hn2 := hO.n2
  have hel : es.length = T.ms.length := by have := congrArg List.length hes; simpa using this
  have hN : ps.length = es.length := by rw [hps.1, hel]
  have hL0 : LB X nl [] [] (.slice none 0 0) := ⟨hbx, World.ownsRow_nil _ _ _ _, rfl, by simp, by simp⟩
  have hnx : (es.map NxE.ls).length = ps.length := by rw [List.length_map, hN]
  have hI : (ghM nl na ps.length ca oa).Inv [] X := ⟨⟨[], _, hL0⟩, hA, by omega⟩
  have hOw : ∀ b, (ghM nl na ps.length ca oa).Own [] X b → ¬ crewUses on es gm b := fun b hb hu => by
    have hul := hC.lt b hu
    rw [ownM hL0] at hb
    rcases hb with rfl | h | ⟨u, hu, _⟩
    · omega
    · cases h
    · cases hu
  have hmm : ∀ (i : Nat) (e : NxE), es[i]? = some e → ∃ m, T.ms[i]? = some m ∧ e.ls = nextOf m := fun i e he => by
    have h1 : (es.map NxE.ls)[i]? = some e.ls := by simp [he]
    rw [hes, List.getElem?_map, Option.map_eq_some_iff] at h1
    obtain ⟨m, hm, h2⟩ := h1
    exact ⟨m, hm, h2.symm⟩
  have key := expand_any (ghM nl na ps.length ca oa) WC on es cn gm (clOf T.cs) (stOf ps) (atOf ps) 201 (ghM_ok hnx (by omega) (by omega) hna) hC (clOf_true _) (by omega)
    (fun i hi => stOf_get ps i (by omega) (by omega))
    (fun i e he => by
      obtain ⟨m, hm, hl⟩ := hmm i e he
      have hmo := hO.mo m (List.mem_of_getElem? hm)
      have hi := (List.getElem?_eq_some_iff.1 he).1
      have hp : ps[i]? = some ps[i] := List.getElem?_eq_getElem (by omega)
      have hlt := hps.2 i _ m hp hm
      rw [hl, nextOf_len]
      refine ⟨by simp [atOf, hp]; exact hlt, by have := hmo.n2; omega, fun x hx => by have := nextOf_short hmo 100 (hsm m (List.mem_of_getElem? hm)) x hx; omega⟩)
    (by omega) ps.length 0 s4n [] 0 X (by omega) (CK.of_below hWX hC.lt) hI hOw (by
      show ([] : List (List Nat)).length + (0 + 201 ^ ps.length) ≤ 1000000000000
      have : 201 ^ ps.length ≤ 201 ^ 4 := Nat.pow_le_pow_right (by omega) (by omega)
      have h4 : (201 : Nat) ^ 4 = 1632240801 := by decide
      simp; omega) ⟨fun i hi => by omega, fun i _ h4 => s4n_get i h4⟩ (fun h => by omega)
  refine key.mono ?_
  rintro e X' ⟨rfl, hS, ⟨⟨vs, vl, hL⟩, _, _⟩, hR⟩
  refine ⟨⟨_, rfl⟩, ⟨vs, vl, ?_⟩, ⟨hS.os, hS.tape, hS.output, hS.size, fun b hb hne => hS.block b hb fun ho => ?_⟩, ?_⟩
  rotate_left
  · rw [ownM hL0] at ho
    rcases ho with rfl | h | ⟨u, hu, _⟩
    · exact hne rfl
    · cases h
    · cases hu
  · rw [hes] at hR
    exact Nat.le_trans (Nat.le_add_right _ _) hR
  · rw [hes] at hL
    exact hL
end Go.Proofs.Jn
end

section
/-
  Walks: the closure root of Components.
-/
namespace Go.Proofs.Jn
open Go.RowKit Go.Shelf

theorem int_bne (a b : Int) : (a != b) = decide (a ≠ b) := by
  by_cases h : a = b
  · subst h; simp
  · rw [decide_eq_true h]; simpa using h
/-- Each entry of a list is at most its place. -/
def Desc (L : List Nat) : Prop := ∀ i, i < L.length → atOf L i ≤ i
def rootF : Nat → List Nat → Nat → Nat × List Nat
  | 0, L, v => (v, L)
  | f + 1, L, v => if atOf L v = v then (v, L) else rootF f (L.set v (atOf L (atOf L v))) (atOf L (atOf L v))
theorem atOf_set (L : List Nat) (i j x : Nat) (hi : i < L.length) : atOf (L.set i x) j = if j = i then x else atOf L j := by
  unfold atOf
  rw [List.getElem?_set]
  by_cases h : i = j
  · subst h; simp [hi]
  · rw [if_neg h, if_neg (fun e => h e.symm)]
theorem Desc.set {L : List Nat} (h : Desc L) {v x : Nat} (hv : v < L.length) (hx : x ≤ v) : Desc (L.set v x) := by
  intro i hi
  rw [List.length_set] at hi
  rw [atOf_set L v i x hv]
  split
  · omega
  · exact h i hi
theorem Desc.two {L : List Nat} (h : Desc L) {v : Nat} (hv : v < L.length) : atOf L (atOf L v) ≤ atOf L v ∧ atOf L v ≤ v := by
  have h1 := h v hv
  exact ⟨h _ (by omega), h1⟩
theorem rootF_fuel : ∀ (f : Nat) (L : List Nat) (v : Nat), Desc L → v < L.length → v + 1 ≤ f → rootF f L v = rootF (v + 1) L v := by
  intro f
  induction f using Nat.strongRecOn with
  | _ f ih =>
    intro L v hd hv hf
    obtain ⟨g, rfl⟩ : ∃ g, f = g + 1 := ⟨f - 1, by omega⟩
    simp only [rootF]
    by_cases h : atOf L v = v
    · rw [if_pos h, if_pos h]
    · rw [if_neg h, if_neg h]
      have h2 := hd.two hv
      have hd2 := hd.set hv (x := atOf L (atOf L v)) (by omega)
      have hl : (L.set v (atOf L (atOf L v))).length = L.length := List.length_set
      rw [ih g (by omega) _ _ hd2 (by rw [hl]; omega) (by omega)]
      by_cases hg : v < g + 1
      · rcases Nat.lt_or_ge v (g + 1) with _ | _
        · by_cases he : v = g
          · subst he; rw [ih v (by omega) _ _ hd2 (by rw [hl]; omega) (by omega)]
          · rw [ih v (by omega) _ _ hd2 (by rw [hl]; omega) (by omega)]
        · omega
      · omega
theorem rootF_desc : ∀ (f : Nat) (L : List Nat) (v : Nat), Desc L → v < L.length → Desc (rootF f L v).2 ∧ (rootF f L v).2.length = L.length ∧ (rootF f L v).1 ≤ v := by
  intro f
  induction f with
  | zero => intro L v hd hv; exact ⟨hd, rfl, Nat.le_refl _⟩
  | succ f ih =>
    intro L v hd hv
    simp only [rootF]
    split
    · exact ⟨hd, rfl, Nat.le_refl _⟩
    · have h2 := hd.two hv
      have hl : (L.set v (atOf L (atOf L v))).length = L.length := List.length_set
      obtain ⟨h3, h4, h5⟩ := ih _ _ (hd.set hv (x := atOf L (atOf L v)) (by omega)) (show atOf L (atOf L v) < _ by rw [hl]; omega)
      exact ⟨h3, by rw [h4, hl], by omega⟩
theorem atOf_get {L : List Nat} {i : Nat} (h : i < L.length) : L[i]? = some (atOf L i) := by simp [atOf, h]
theorem nflat_get {L : List Nat} {i : Nat} (h : i < L.length) : (nflat L)[i]? = some (.int .i64 (atOf L i : Nat)) := by
  unfold nflat; rw [List.getElem?_map, atOf_get h]; rfl
theorem nflat_set (L : List Nat) (i x : Nat) : nflat (L.set i x) = (nflat L).set i (.int .i64 (x : Nat)) := by
  unfold nflat; rw [List.map_set]

/-- The list that Components makes, where it lies. -/
structure LeastAt (W : World) (nl g : Nat) (L : List Nat) : Prop where
  box : Blk W nl [.slice (some ⟨g, 0, none⟩) L.length L.length]
  row : Blk W g (nflat L)
  ne : nl ≠ g
theorem LeastAt.keep {W W' : World} {nl g : Nat} {L : List Nat} (h : LeastAt W nl g L) (hb : Below W.heap.size W W') : LeastAt W' nl g L := ⟨h.box.keep hb, h.row.keep hb, h.ne⟩
theorem LeastAt.put {W : World} {nl g : Nat} {L : List Nat} (h : LeastAt W nl g L) (v x : Nat) : LeastAt (W.setCell ⟨g, v, none⟩ (.int .i64 (x : Nat))) nl g (L.set v x) := by
  refine ⟨?_, ?_, h.ne⟩
  · rw [List.length_set]; exact h.box.keepG (grown_set W g v _) h.ne
  · rw [nflat_set]; exact h.row.put v _
set_option maxRecDepth 100000 in
set_option maxHeartbeats 4000000 in
theorem root_any (nl g : Nat) (L0 : List Nat) (v : Nat) (w : World) (hL : LeastAt w nl g L0) (hd : Desc L0) (hv : v < L0.length) (hn : L0.length ≤ 100000) :
    Calls Try.prog 68 #[.int .i64 (v : Nat), .pointer (some ⟨nl, 0, none⟩)] w fun e w' => e = .returned (.int .i64 ((rootF (v + 1) L0 v).1 : Nat)) ∧ LeastAt w' nl g (rootF (v + 1) L0 v).2 ∧ w.grownBy w' (some g) := by
  have HV0 := Lib.hid hv
  have HD0 := Lib.hid hd
  go_enter Try.func68, Try.ntmps68
  go_wp2_with fail
  go_loopw [0] (fun i W => ∃ (k : Nat) (L : List Nat), i = .int .i64 (k : Nat) ∧ k < L.length ∧ L.length ≤ 100000 ∧ Desc L ∧ LeastAt W nl g L ∧ w.grownBy W (some g) ∧ rootF (v + 1) L0 v = rootF (k + 1) L k) (fun i _ => (intOf i).toNat)
  case atStart => exact ⟨v, L0, rfl, hv, hn, hd, hL, ⟨rfl, rfl, rfl, Nat.le_refl _, fun _ _ _ => rfl⟩, rfl⟩
  case round =>
    clear hL hd hv hn
    obtain ⟨k, L, rfl, hk, hn, hd, hL, hg, heq⟩ := hrel
    have h2 := hd.two hk
    have HD := Lib.hid hd
    have HG := Lib.hid hg
    have HE := Lib.hid heq
    have hne := hL.ne
    have x0 := hL.box.c 0 _ rfl
    have lx := hL.box.lt
    have c0 := hL.row.c k _ (nflat_get hk)
    have lg := hL.row.lt
    have f0 := hL.row.f k
    have HL := Lib.hid hL
    have ee := int_bne (atOf L k : Int) (k : Int)
    clear hd hg heq hL
    by_cases hx : atOf L k = k
    · rw [decide_eq_false (by omega)] at ee
      go_wp2_with fail
      clear x0 c0 f0 ee
      go_wp2
      go_ret
      rw [HE.out]
      have hr : rootF (k + 1) L k = (k, L) := by simp only [rootF]; rw [if_pos hx]
      rw [hr]
      exact ⟨rfl, HL.out, HG.out⟩
    · rw [decide_eq_true (by omega)] at ee
      have c1 := HL.out.row.c (atOf L k) _ (nflat_get (by omega))
      generalize hy : atOf L k = y at *
      generalize hz : atOf L y = z at *
      have HY := Lib.hid hy
      have HZ := Lib.hid hz
      clear hy hz
      go_upto_region 2 with fail
      have hyk : y ≠ k := hx
      have hi1 : (y : Int) < (L.length : Int) := by omega
      have hi2 : (k : Int) < (L.length : Int) := by omega
      go_still_tail 10, (by kernel_rfl)
      change wpList _ _ _ _ _ wr.drew
      have hL2 : LeastAt (wr.setCell ⟨g, k, none⟩ (.int .i64 (z : Nat))).drew nl g (L.set k z) := (HL.out.put k z).keep (Below.refl _ _).drew
      have hg2 : w.grownBy (wr.setCell ⟨g, k, none⟩ (.int .i64 (z : Nat))).drew (some g) := grown_trans HG.out (grown_trans (grown_set wr g k (.int .i64 (z : Nat))) (grown_of_below (Below.refl _ _).drew))
      have c0d : wr.drew.cell? ⟨g, k, none⟩ = some (.int .i64 (y : Nat)) := c0
      have f0d : wr.drew.frozen? ⟨g, k, none⟩ = false := f0
      have lgd : g < wr.drew.heap.size := lg
      clear x0 c0 c1 f0 lg lx ee
      go_upto_region 3 with fail
      clear c0d f0d lgd hi1 hi2
      generalize (wr.setCell ⟨g, k, none⟩ (.int .i64 (z : Nat))).drew = W2 at hL2 hg2 ⊢
      have hzk : z < k := by omega
      have hll : (L.set k z).length = L.length := List.length_set
      have HLL := Lib.hid hll
      have hgt : atOf (L.set k z) k = z := by rw [atOf_set L k k z hk, if_pos rfl]
      have x0 := hL2.box.c 0 _ rfl
      have lx := hL2.box.lt
      have c0 := hL2.row.c k _ (nflat_get (by rw [hll]; exact hk))
      rw [hgt] at c0
      rw [hll] at x0
      have lg := hL2.row.lt
      have HL2 := Lib.hid hL2
      have HG2 := Lib.hid hg2
      clear hL2 hg2 hll hgt
      go_wp2_with fail
      go_roundw
      case rel =>
        refine ⟨z, L.set k z, rfl, by rw [HLL.out]; omega, by rw [HLL.out]; exact hn, HD.out.set hk (by omega), HL2.out, HG2.out, ?_⟩
        rw [HE.out]
        have e1 : rootF (k + 1) L k = rootF k (L.set k z) z := by
          show (if atOf L k = k then _ else _) = _
          rw [HY.out, if_neg hx, HZ.out]
        rw [e1]
        exact rootF_fuel k _ _ (HD.out.set hk (by omega)) (by rw [HLL.out]; omega) (by omega)
      case measure => simp [intOf]; omega
end Go.Proofs.Jn
end

section
/-
  Walks: hasEnds, usable.
-/
namespace Go.Proofs.Jn
open Go.RowKit Go.Shelf

set_option maxRecDepth 100000 in
set_option maxHeartbeats 4000000 in
theorem usable_any (st : Int) (w : World) : Calls Try.prog 70 #[.int .i64 st, .int .i64 0] w (BoolP (decide (st = 1)) w) := by
  have e1 := int_beq st 1
  go_enter Try.func70, Try.ntmps70
  go_wp2
  go_ret
  exact boolP_mk e1 (Below.refl _ _)
set_option maxRecDepth 100000 in
set_option maxHeartbeats 4000000 in
theorem ends_any (m : Mp) (e : Ed) (w : World) (hu : e.u < m.n) (hv : e.v < m.n) : Calls Try.prog 69 #[.agg m.vals.toArray, .agg e.vals.toArray] w (BoolP true w) := by
  unfold Mp.vals Ed.vals
  have d1 : decide ((e.u : Int) ≥ 0) = true := decide_eq_true (by omega)
  have d2 : decide ((e.v : Int) ≥ 0) = true := decide_eq_true (by omega)
  have d3 : decide ((e.u : Int) < (m.n : Int)) = true := decide_eq_true (by omega)
  have d4 : decide ((e.v : Int) < (m.n : Int)) = true := decide_eq_true (by omega)
  go_enter Try.func69, Try.ntmps69
  go_upto_region 1 with fail
  have hbx_ := boxes2 w [.slice m.op m.n m.cp, .slice m.oe m.es.length m.ce] [.int .i64 (e.u : Nat), .int .i64 (e.v : Nat), .int .i64 e.c, .int .i64 e.st, .int .i64 e.k0, .slice e.s1.a e.s1.n e.s1.c, .int .i64 e.k2, .int .i64 e.k3, .slice e.s4.a e.s4.n e.s4.c, .int .i64 e.k5, .slice e.s6.a e.s6.n e.s6.c, .slice e.s7.a e.s7.n e.s7.c] 43 54
  have HB := Lib.hid (hbx_.2.2)
  generalize (w.alloc (.cells #[.slice m.op m.n m.cp, .slice m.oe m.es.length m.ce] 43)).alloc (.cells #[.int .i64 (e.u : Nat), .int .i64 (e.v : Nat), .int .i64 e.c, .int .i64 e.st, .int .i64 e.k0, .slice e.s1.a e.s1.n e.s1.c, .int .i64 e.k2, .int .i64 e.k3, .slice e.s4.a e.s4.n e.s4.c, .int .i64 e.k5, .slice e.s6.a e.s6.n e.s6.c, .slice e.s7.a e.s7.n e.s7.c] 54) = W1 at hbx_ HB ⊢
  obtain ⟨r2, r3, hbel_⟩ := hbx_
  generalize w.heap.size + 1 = n3 at r3  ⊢
  obtain ⟨n2, hn_⟩ : ∃ n, n = w.heap.size := ⟨_, rfl⟩
  rw [← hn_] at r2 ⊢
  clear hn_ hbel_
  have a0 : W1.cell? ⟨n2, 0, none⟩ = some (.slice m.op m.n m.cp) := r2.c 0 _ rfl
  have b0 : W1.cell? ⟨n3, 0, none⟩ = some (.int .i64 (e.u : Nat)) := r3.c 0 _ rfl
  have b1 : W1.cell? ⟨n3, 1, none⟩ = some (.int .i64 (e.v : Nat)) := r3.c 1 _ rfl
  have l2 := r2.lt
  have l3 := r3.lt
  clear r2 r3
  go_wp2
  go_ret
  exact boolP_mk rfl HB.out
end Go.Proofs.Jn
end

