/-
  Texts put together: Bi Bj Ck Ca Cb.
-/
import Derived.Test.YteeeogdfnpdpcaaZNeighborTrees13
import Derived.Maps.AppendAt
set_option linter.unusedVariables false
section
/-
  Walks: the reference's sorted: the walk.
-/
namespace Go.Proofs.Ng
open Go.RowKit

set_option maxRecDepth 100000 in
set_option maxHeartbeats 4000000 in
theorem sorted58 (oa os : Option Addr) (ca cs : Nat) (pts : List (List Int)) (s : List Nat) (a : Nat) (w : World) (hP : Pts w oa pts) (hS : Sl w os 1 (nvals s)) (hlt : ∀ x ∈ s, x < pts.length) (ha : ∀ xs ∈ pts, a < xs.length) (hn : pts.length ≤ 100000) (haN : a < 1000) (hs : s.length ≤ 100000) :
    Calls Try.prog 58 #[.slice oa pts.length ca, .slice os s.length cs, .int .i64 a] w (NatsP (srt pts a s) w) := by
  have HLT := Lib.hid hlt
  have HA := Lib.hid ha
  have HPP := Lib.hid hP
  have HSS := Lib.hid hS
  clear hlt ha hP hS
  go_enter Try.func58, Try.ntmps58
  go_wp2_with fail
  go_loopw [7, 8, 9] (fun v i _ W => ∃ o : List Nat, o.length ≤ s.length ∧ i = .int .i64 (o.length : Nat) ∧ SoI pts a s w o v W) (fun _ i _ _ => s.length - (intOf i).toNat)
  case atStart => exact ⟨[], by simp, rfl, ⟨by simp, List.Pairwise.nil, World.ownsRow_nil _ _ _ _, Below.refl _ _⟩⟩
  case round =>
    obtain ⟨o, hk, rfl, hI⟩ := hrel
    by_cases hlo : o.length < s.length
    · obtain ⟨x, hx⟩ : ∃ x, s[o.length]? = some x := ⟨_, List.getElem?_eq_getElem hlo⟩
      obtain ⟨bs, offs, hos, x0, lbs⟩ := nv_get (HSS.out.keep hI.bel) hx
      subst hos
      obtain ⟨i0, hi, hz0, hz1, hz2⟩ := info_parts info3
      obtain ⟨ob, co, rfl, -⟩ := own_rows (nvals_one o) (by rw [nvals_len]; exact hI.own)
      rw [nvals_len] at hI ⊢
      have HI := Lib.hid hI
      have HX := Lib.hid hx
      have hb2 : Below wr.heap.size wr (wr.alloc (.cells #[.int .i64 (x : Nat)] 3)) := (Below.refl _ _).alloc (Nat.le_refl _) _
      have HC2 := Lib.hid (own_keep hI.own hb2)
      have HBC := Lib.hid (below_call hI.bel hb2)
      clear hI hx hb2
      go_wp2_with (at_builtin; refine wpList_append_own _ rfl _ _ 24 rfl w.heap.size 3 i0 (.int .i64 0) 1 8 under24 hi hz0 hz1 hz2 rfl (by decide) _ _ _ rfl HC2.out ⟨wr.heap.size, 0, none⟩ 1 1 [.int .i64 (x : Nat)] rfl rfl ?c1 ?c2 ?c3 ?c4 ?c5 ?_)
      case c1 => exact new_cells _ _ _
      case c2 => intro u hu; simp at hu; subst hu; rfl
      case c3 => unfold maxLen; omega
      case c4 => omega
      case c5 => exact HBC.out.size
      intro v' w' hown' hgrow _
      obtain ⟨g, c, rfl⟩ := own_some hown' (by omega)
      have hgl := (own_lt hown' g rfl).2
      have hJ : SoJ pts a s w o.length x g c o [] w' := by
        refine ⟨by simp, by rw [List.append_nil]; exact HI.out.perm, by rw [List.append_nil]; exact HI.out.pw, by simp, ?_, ?_⟩
        · have e : (nvals (o ++ [x])).flatten = (nvals o).flatten ++ [.int .i64 (x : Nat)] := by simp [nvals_flat]
          rw [e]; exact hown'
        · exact HBC.out.trans (grown_below HC2.out hgrow HBC.out.size)
      clear hown' hgrow HC2 HBC
      have HGL := Lib.hid hgl
      have hol : o.length ≤ 100000 := by omega
      generalize hK : o.length = k at hJ HX hlo hk hol ⊢
      have HK := Lib.hid hK
      have hxk : x < pts.length := HLT.out x (List.mem_of_getElem? HX.out)
      clear hi hz0 hz1 hz2 hgl x0 lbs hK
      go_wp2_with fail
      go_loopw [9] (fun i W => ∃ (p : Nat) (A B : List Nat), i = .int .i64 (p : Nat) ∧ A.length = p ∧ SoJ pts a s w k x g c A B W) (fun i _ => (intOf i).toNat)
      case atStart => exact ⟨k, o, [], rfl, HK.out, hJ⟩
      case round =>
        clear hJ
        obtain ⟨p, A, B, rfl, hAp, hJ⟩ := hrel
        obtain ⟨Wb, rfl⟩ : ∃ X, X = wr := ⟨_, rfl⟩
        have hl := hJ.len
        rcases p with _ | p
        · have hA0 : A = [] := List.length_eq_zero_iff.1 hAp
          subst hA0
          have HF := Lib.hid (hJ.fin HX.out (fun z h => by simp at h))
          clear hJ
          go_wp2_with fail
          go_quiet (fail)
          simp only [List.length_nil, Nat.zero_add] at hl
          have HFQ : Hid (SoI pts a s w ([] ++ x :: B) (.slice (some ⟨g, 0, none⟩) ([] ++ x :: B).length c) (Wb.drewN nq)) := Lib.hid ⟨HF.out.perm, HF.out.pw, own_keep HF.out.own (below_drew Wb nq), below_call HF.out.bel (below_drew Wb nq)⟩
          have hln : ([] ++ x :: B).length = k + 1 := by simp; omega
          generalize ([] ++ x :: B) = o' at HFQ hln
          generalize Wb.drewN nq = V at HFQ ⊢
          have HL := Lib.hid hln
          clear hln
          go_wp2_with fail
          go_roundw
          case rel => exact ⟨o', by rw [HL.out]; omega, by rw [HL.out]; simp, by have := HFQ.out; rw [HL.out] at this; exact this⟩
          case measure => have := HK.out; simp [intOf]; omega
        · obtain ⟨A', z, rfl⟩ : ∃ A' z, A = A' ++ [z] := by
            rcases List.eq_nil_or_concat A with h | ⟨A', z, h⟩
            · subst h; simp at hAp
            · exact ⟨A', z, by rw [h, List.concat_eq_append]⟩
          have hA' : A'.length = p := by simp at hAp; omega
          subst hA'
          have hlA : A'.length + 1 + B.length = k := by simpa using hl
          have hx1 : (A' ++ [z] ++ x :: B)[A'.length + 1]? = some x := by simp
          have hz1 : (A' ++ [z] ++ x :: B)[A'.length]? = some z := by simp
          have x1 := own_cell hJ.own _ _ hx1
          have x2 := own_cell hJ.own _ _ hz1
          have f1 := own_frozen hJ.own (by omega) (A'.length + 1)
          have f2 := own_frozen hJ.own (by omega) A'.length
          have lg := (own_lt hJ.own g rfl).1
          have hzl : z < pts.length := HLT.out z (by
            have : z ∈ s.take k := hJ.perm.mem_iff.1 (by simp)
            exact List.mem_of_mem_take this)
          have i1 : (A'.length : Int) + 1 < (k : Int) + 1 := by omega
          have i2 : (A'.length : Int) < (k : Int) + 1 := by omega
          have i3 : (0 : Int) ≤ (A'.length : Int) := by omega
          have i4 : (0 : Int) ≤ (A'.length : Int) + 1 := by omega
          have hw1 : IntKind.i64.wrap ((A'.length : Int) + 1 - 1) = (A'.length : Int) := by rw [IntWalk.i64_in _ (by omega)]; omega
          have hbf : ∀ X, Below w.heap.size w X → Calls Try.prog 36 #[.slice oa pts.length ca, .int .i64 a, .int .i64 x, .int .i64 z] X fun e w' => e = .returned (.bool (bef pts a x z)) ∧ ∃ q, w' = X.drewN q := fun X hX => before36 oa ca pts a x z X (HPP.out.keep hX) hxk hzl HA.out hn haN
          have HBF := Lib.hid hbf
          have HB := Lib.hid hJ.bel
          have HJ := Lib.hid hJ
          clear hbf hJ hx1 hz1 hAp hl
          cases hq : bef pts a x z with
          | false =>
            rw [hq] at HBF
            have hF := HJ.out.fin HX.out (fun u hu => by simp at hu; subst hu; exact hq)
            go_upto_region 7 with fail
            go_quiet ((go_at_call 36; exact Calls.quiet_of (HBF.out _ (below_call HB.out (below_drew _ _)))))
            have HF := Lib.hid hF
            clear hF x1 x2 f1 f2 lg i1 i2 i3 i4 hw1
            have HFQ : Hid (SoI pts a s w (A' ++ [z] ++ x :: B) (.slice (some ⟨g, 0, none⟩) (A' ++ [z] ++ x :: B).length c) (Wb.drewN nq)) := Lib.hid ⟨HF.out.perm, HF.out.pw, own_keep HF.out.own (below_drew Wb nq), below_call HF.out.bel (below_drew Wb nq)⟩
            have hln : (A' ++ [z] ++ x :: B).length = k + 1 := by simp; omega
            generalize (A' ++ [z] ++ x :: B) = o' at HFQ hln
            generalize Wb.drewN nq = V at HFQ ⊢
            have HL := Lib.hid hln
            clear hln
            go_wp2_with fail
            go_roundw
            case rel => exact ⟨o', by rw [HL.out]; omega, by rw [HL.out]; simp, by have := HFQ.out; rw [HL.out] at this; exact this⟩
            case measure => have := HK.out; simp [intOf]; omega
          | true =>
            rw [hq] at HBF
            go_upto_region 7 with fail
            go_quiet ((go_at_call 36; exact Calls.quiet_of (HBF.out _ (below_call HB.out (below_drew _ _)))))
            have HJ2 : Hid (SoJ pts a s w k x g c (A' ++ [z]) B (Wb.drewN nq)) := Lib.hid ⟨HJ.out.len, HJ.out.perm, HJ.out.pw, HJ.out.lt, own_keep HJ.out.own (below_drew Wb nq), below_call HJ.out.bel (below_drew Wb nq)⟩
            have y1 : (Wb.drewN nq).cell? ⟨g, A'.length + 1, none⟩ = some (.int .i64 (x : Nat)) := x1
            have y2 : (Wb.drewN nq).cell? ⟨g, A'.length, none⟩ = some (.int .i64 (z : Nat)) := x2
            have e1 : (Wb.drewN nq).frozen? ⟨g, A'.length + 1, none⟩ = false := f1
            have e2 : (Wb.drewN nq).frozen? ⟨g, A'.length, none⟩ = false := f2
            have ly : g < (Wb.drewN nq).heap.size := lg
            clear x1 x2 f1 f2 lg HJ HB
            generalize Wb.drewN nq = V at HJ2 y1 y2 e1 e2 ly ⊢
            have HST := Lib.hid (HJ2.out.step hq HGL.out)
            have hne : ¬ (A'.length + 1 = A'.length) := by omega
            go_upto_region 8 with fail
            go_region
            go_wp2_with fail
            go_roundw
            case rel => exact ⟨A'.length, A', z :: B, by simp, rfl, HST.out⟩
            case measure => simp [intOf]
    · have hle : o.length = s.length := by omega
      obtain ⟨ob, co, rfl, hsl⟩ := own_rows (nvals_one o) (by rw [nvals_len]; exact hI.own)
      have hcap := own_cap hI.own
      have hfr := own_fresh hI.own
      have hp := hI.perm
      rw [hle, List.take_length] at hp
      have he := srt_uniq hp hI.pw
      rw [nvals_len] at hI ⊢
      subst he
      have HF : Hid (NatsP (srt pts a s) w (.returned (.slice ob (srt pts a s).length co)) wr) := Lib.hid ⟨ob, co, rfl, by have := hcap.1; rwa [nvals_len] at this, hsl, hI.bel, hfr⟩
      clear hI hcap hfr hp hsl
      go_wp2
      go_ret
      exact HF.out
end Go.Proofs.Ng
end

section
/-
  The plain law of a k-d tree's building; rows of nodes.
-/
namespace Go.Proofs.Ng
open Go.RowKit

structure Nd where
  pt : Int
  ax : Int
  lo : Int
  hi : Int
deriving DecidableEq
def Nd.vals (n : Nd) : List Value := [.int .i64 n.pt, .int .i64 n.ax, .int .i64 n.lo, .int .i64 n.hi]
def nflat (t : List Nd) : List Value := (t.map Nd.vals).flatten
theorem nflat_snoc (t : List Nd) (n : Nd) : nflat (t ++ [n]) = nflat t ++ n.vals := by simp [nflat]
theorem nd_four (t : List Nd) : ∀ r ∈ t.map Nd.vals, r.length = 4 := by intro r hr; simp at hr; obtain ⟨j, _, rfl⟩ := hr; rfl
theorem nflat_at {t : List Nd} {k j : Nat} {n : Nd} {v : Value} (h : t[k]? = some n) (hv : n.vals[j]? = some v) : (nflat t)[k * 4 + j]? = some v := flat_get (t.map Nd.vals) 4 (nd_four t) k n.vals (map_get h) j v hv
def setLH (t : List Nd) (k : Nat) (lo hi : Int) : List Nd := t.modify k fun n => { n with lo := lo, hi := hi }
theorem setLH_len (t : List Nd) (k : Nat) (lo hi : Int) : (setLH t k lo hi).length = t.length := by simp [setLH]
theorem nflat_lh : ∀ {t : List Nd} {k : Nat} {lo hi : Int}, k < t.length → ((nflat t).set (k * 4 + 2) (.int .i64 lo)).set (k * 4 + 3) (.int .i64 hi) = nflat (setLH t k lo hi)
  | [], k, _, _, h => by simp at h
  | a :: t, 0, lo, hi, h => by simp [nflat, setLH, Nd.vals]
  | a :: t, k + 1, lo, hi, h => by
    have ih := nflat_lh (t := t) (k := k) (lo := lo) (hi := hi) (by simpa using h)
    have hl : a.vals.length = 4 := rfl
    have e : nflat (setLH (a :: t) (k + 1) lo hi) = a.vals ++ nflat (setLH t k lo hi) := by simp [nflat, setLH]
    rw [e, ← ih]
    have e2 : nflat (a :: t) = a.vals ++ nflat t := by simp [nflat]
    rw [e2, List.set_append_right _ _ (by omega), List.set_append_right _ _ (by omega)]
    congr 2
    · congr 1; omega
    · omega
/-- The middle of a set. -/
def midP (pts : List (List Int)) (a : Nat) (s : List Nat) : Nat := ((srt pts a s)[s.length / 2]?).getD 0
def axP (pts : List (List Int)) (lev : Nat) : Nat := lev % dimP pts
/-- The tree behind a set's growing, and the set's node. -/
def growP (pts : List (List Int)) : Nat → List Nd → List Nat → Nat → List Nd × Int
  | 0, t, _, _ => (t, -1)
  | f + 1, t, s, lev => match s with
    | [] => (t, -1)
    | x :: r =>
      let l := srt pts (axP pts lev) (x :: r)
      let k := (x :: r).length / 2
      let r1 := growP pts f (t ++ [⟨(midP pts (axP pts lev) (x :: r) : Nat), (axP pts lev : Nat), 0, 0⟩]) (l.take k) (lev + 1)
      let r2 := growP pts f r1.1 (l.drop (k + 1)) (lev + 1)
      (setLH r2.1 t.length r1.2 r2.2, t.length)
def lowP (pts : List (List Int)) (f : Nat) (t : List Nd) (s : List Nat) (lev : Nat) : List Nd × Int :=
  growP pts f (t ++ [⟨(midP pts (axP pts lev) s : Nat), (axP pts lev : Nat), 0, 0⟩]) ((srt pts (axP pts lev) s).take (s.length / 2)) (lev + 1)
def highP (pts : List (List Int)) (f : Nat) (t : List Nd) (s : List Nat) (lev : Nat) : List Nd × Int :=
  growP pts f (lowP pts f t s lev).1 ((srt pts (axP pts lev) s).drop (s.length / 2 + 1)) (lev + 1)
theorem growP_nil (pts : List (List Int)) (f : Nat) (t : List Nd) (lev : Nat) : growP pts f t [] lev = (t, -1) := by cases f <;> rfl
theorem growP_step {pts : List (List Int)} {f : Nat} {t : List Nd} {s : List Nat} {lev : Nat} (hs : s ≠ []) : growP pts (f + 1) t s lev = (setLH (highP pts f t s lev).1 t.length (lowP pts f t s lev).2 (highP pts f t s lev).2, (t.length : Int)) := by
  cases s with
  | nil => exact absurd rfl hs
  | cons x r => rfl
theorem growP_len (pts : List (List Int)) : ∀ (f : Nat) (t : List Nd) (s : List Nat) (lev : Nat), s.length ≤ f → (growP pts f t s lev).1.length = t.length + s.length
  | 0, t, s, lev, h => by
    have : s = [] := List.length_eq_zero_iff.1 (by omega)
    subst this; simp [growP]
  | f + 1, t, s, lev, h => by
    by_cases hs : s = []
    · subst hs; rw [growP_nil]; rfl
    · have h0 : 0 < s.length := List.length_pos_iff.2 hs
      rw [growP_step hs]
      simp only [setLH_len]
      unfold highP
      rw [growP_len pts f _ _ _ (by rw [List.length_drop, srt_len]; omega), List.length_drop, srt_len]
      unfold lowP
      rw [growP_len pts f _ _ _ (by rw [List.length_take, srt_len]; omega), List.length_take, srt_len]
      simp only [List.length_append, List.length_cons, List.length_nil]
      omega
theorem lowP_len {pts : List (List Int)} {f : Nat} {t : List Nd} {s : List Nat} {lev : Nat} (h : s.length ≤ f + 1) : (lowP pts f t s lev).1.length = t.length + 1 + s.length / 2 := by
  unfold lowP
  by_cases h0 : s.length = 0
  · have : s = [] := List.length_eq_zero_iff.1 h0
    subst this
    simp [growP_nil, srt]
  · rw [growP_len pts f _ _ _ (by rw [List.length_take, srt_len]; omega), List.length_take, srt_len]
    simp only [List.length_append, List.length_cons, List.length_nil]
    omega
theorem highP_len {pts : List (List Int)} {f : Nat} {t : List Nd} {s : List Nat} {lev : Nat} (h : s.length ≤ f + 1) (h0 : 0 < s.length) : (highP pts f t s lev).1.length = t.length + s.length := by
  unfold highP
  rw [growP_len pts f _ _ _ (by rw [List.length_drop, srt_len]; omega), lowP_len h, List.length_drop, srt_len]
  omega
theorem mid_at {pts : List (List Int)} {a : Nat} {s : List Nat} (h0 : 0 < s.length) : (srt pts a s)[s.length / 2]? = some (midP pts a s) := by
  unfold midP
  obtain ⟨x, hx⟩ : ∃ x, (srt pts a s)[s.length / 2]? = some x := ⟨_, List.getElem?_eq_getElem (by rw [srt_len]; omega)⟩
  rw [hx]; rfl

/-! slices of rows of indexes -/
theorem Sl.take {W : World} {o : Option Addr} {l : List Nat} (h : Sl W o 1 (nvals l)) (k : Nat) : Sl W o 1 (nvals (l.take k)) := by
  intro hne
  obtain ⟨b, off, e, hr⟩ := h (fun h0 => hne (by simp [nvals] at h0; subst h0; simp [nvals]))
  refine ⟨b, off, e, hr.lt, fun i r hi j v hv => ?_⟩
  refine hr.c i r ?_ j v hv
  unfold nvals at hi ⊢
  rw [List.map_take, List.getElem?_take] at hi
  split at hi
  · exact hi
  · cases hi
theorem Sl.drop {W : World} {b off : Nat} {l : List Nat} (h : Sl W (some ⟨b, off, none⟩) 1 (nvals l)) (k : Nat) : Sl W (some ⟨b, off + k, none⟩) 1 (nvals (l.drop k)) := by
  intro hne
  obtain ⟨b', off', e, hr⟩ := h (fun h0 => hne (by simp [nvals] at h0; subst h0; simp [nvals]))
  injection e with e
  injection e with e1 e2 _
  subst e1 e2
  refine ⟨b, off + k, rfl, hr.lt, fun i r hi j v hv => ?_⟩
  have h1 := hr.c (k + i) r (by unfold nvals at hi ⊢; rw [List.map_drop, List.getElem?_drop] at hi; exact hi) j v hv
  have e : off + ((k + i) * 1 + j) = off + k + (i * 1 + j) := by omega
  rw [← e]; exact h1
theorem Sl.keepO {W W' : World} {oa : Option Addr} {n : Nat} {rows : List (List Value)} {r : Option Nat} (h : Sl W oa n rows) (hg : W.grownBy W' r) (hne : ∀ b off s, oa = some ⟨b, off, s⟩ → r ≠ some b) : Sl W' oa n rows := by
  intro h0
  obtain ⟨b, off, e, hr⟩ := h h0
  refine ⟨b, off, e, Nat.lt_of_lt_of_le hr.lt hg.size, fun i row hi k v hv => ?_⟩
  rw [← hr.c i row hi k v hv]
  simp [World.cell?, hg.block b hr.lt (fun e' => hne b off none e e'.symm)]
theorem grown_chain {W A B : World} {r r' : Option Nat} (h : W.grownBy A r) (k : A.grownBy B r') (hr : ∀ g, r' = some g → r = some g ∨ W.heap.size ≤ g) : W.grownBy B r :=
  ⟨k.os.trans h.os, k.tape.trans h.tape, k.output.trans h.output, Nat.le_trans h.size k.size, fun i hi hn => (k.block i (Nat.lt_of_lt_of_le hi h.size) (fun e => by
    rcases hr i e.symm with h1 | h1
    · exact hn h1.symm
    · omega)).trans (h.block i hi hn)⟩
theorem grown_setO {W A : World} {r : Option Nat} {g : Nat} (h : W.grownBy A r) (hr : r = some g ∨ W.heap.size ≤ g) (i : Nat) (v : Value) : W.grownBy (A.setCell ⟨g, i, none⟩ v) r :=
  grown_chain h (grown_set A g i v) (fun g' e => by injection e with e; subst e; exact hr)
/-- The points of a valid list have one length. -/
theorem vp_dim {pts : List (List Int)} (h : vpB pts = true) : pts.length ≤ 1024 ∧ ∀ xs ∈ pts, xs.length = dimP pts ∧ 1 ≤ dimP pts ∧ dimP pts ≤ 10 := by
  unfold vpB at h
  rw [Bool.and_eq_true, decide_eq_true_eq, List.all_eq_true] at h
  refine ⟨h.1, fun xs hx => ?_⟩
  have h1 := h.2 xs hx
  unfold okC at h1
  rw [Bool.and_eq_true, decide_eq_true_eq] at h1
  omega
end Go.Proofs.Ng
end

section
/-
  Walks: the maker's Configs.
-/
namespace Go.Proofs.Ng
open Go.RowKit

theorem info31 : (Try.prog.info? 31).map (fun i => (i.zero, i.size, i.bytes)) = some (some (.slice none 0 0), 1, 24) := by kernel_rfl
theorem under22 : Try.prog.underlying 22 = some (.slice 31) := by kernel_rfl
/-- A row of points that grows. -/
structure PtsO (W : World) (base : Nat) (v : Value) (pts : List (List Int)) : Prop where
  ex : ∃ vs : List Value, vs.length = pts.length ∧ W.ownsRow base 31 1 v vs.length vs ∧ ∀ (k : Nat) (u : Value) (xs : List Int), vs[k]? = some u → pts[k]? = some xs → xs ≠ [] ∧ ∃ b off cap, u = .slice (some ⟨b, off, none⟩) xs.length cap ∧ RowsAt W b off 1 (pvals xs) ∧ base ≤ b ∧ v.ownBlock ≠ some b
theorem PtsO.nil (W : World) (base : Nat) : PtsO W base (.slice none 0 0) [] := ⟨[], rfl, World.ownsRow_nil _ _ _ _, fun k u xs h => by simp at h⟩
theorem PtsO.keep {W W' : World} {base : Nat} {v : Value} {pts : List (List Int)} (h : PtsO W base v pts) (hb : Below W.heap.size W W') : PtsO W' base v pts := by
  obtain ⟨vs, h1, h2, h3⟩ := h.ex
  refine ⟨vs, h1, own_keep h2 hb, fun k u xs hu hx => ?_⟩
  obtain ⟨a, b, off, cap, e, hr, h4, h5⟩ := h3 k u xs hu hx
  exact ⟨a, b, off, cap, e, hr.keep hb, h4, h5⟩
theorem PtsO.keepG {W W' : World} {base nS : Nat} {v : Value} {pts : List (List Int)} (h : PtsO W base v pts) (hg : W.grownBy W' (some nS)) (hn : nS < base) : PtsO W' base v pts := by
  obtain ⟨vs, h1, h2, h3⟩ := h.ex
  refine ⟨vs, h1, own_blk h2 fun g _ hl hb => hg.block g hl (fun e => by injection e with e; omega), fun k u xs hu hx => ?_⟩
  obtain ⟨a, b, off, cap, e, hr, h4, h5⟩ := h3 k u xs hu hx
  exact ⟨a, b, off, cap, e, hr.keepG hg (by omega), h4, h5⟩
theorem PtsO.low {W W' : World} {base : Nat} {v : Value} {pts : List (List Int)} (h : PtsO W base v pts) {r : Option Nat} (hg : W.grownBy W' r) (hr : ∀ g, r = some g → W.heap.size ≤ g) : PtsO W' base v pts := h.keep ⟨hg.os, hg.tape, hg.output, hg.size, fun k hk => hg.block k hk (fun e => by have := hr k e.symm; omega)⟩
/-- The row's values. -/
structure PtsV (W : World) (base : Nat) (v : Value) (pts : List (List Int)) (vs : List Value) : Prop where
  len : vs.length = pts.length
  own : W.ownsRow base 31 1 v pts.length vs
  row : ∀ (k : Nat) (u : Value) (xs : List Int), vs[k]? = some u → pts[k]? = some xs → xs ≠ [] ∧ ∃ b off cap, u = .slice (some ⟨b, off, none⟩) xs.length cap ∧ RowsAt W b off 1 (pvals xs) ∧ base ≤ b ∧ v.ownBlock ≠ some b
theorem PtsO.vals {W : World} {base : Nat} {v : Value} {pts : List (List Int)} (h : PtsO W base v pts) : ∃ vs, PtsV W base v pts vs := by
  obtain ⟨vs, h1, h2, h3⟩ := h.ex
  exact ⟨vs, h1, by rw [← h1]; exact h2, h3⟩
/-- One point more. -/
theorem PtsV.app {W W1 : World} {base b off cap : Nat} {v v' : Value} {pts : List (List Int)} {xs : List Int} {vs : List Value} (h : PtsV W base v pts vs) (hx : xs ≠ []) (hr : RowsAt W b off 1 (pvals xs)) (hb : base ≤ b) (hne : v.ownBlock ≠ some b)
    (ho : W1.ownsRow base 31 1 v' (pts.length + 1) (vs ++ [.slice (some ⟨b, off, none⟩) xs.length cap])) (hg : W.grownBy W1 v.ownBlock) (hv : v'.ownBlock = v.ownBlock ∨ v'.ownBlock = some W.heap.size) : PtsO W1 base v' (pts ++ [xs]) := by
  obtain ⟨h1, h2, h3⟩ := h
  have keep : ∀ {b off : Nat} {xs : List Int}, RowsAt W b off 1 (pvals xs) → v.ownBlock ≠ some b → RowsAt W1 b off 1 (pvals xs) ∧ v'.ownBlock ≠ some b := by
    intro b off xs hr hne
    refine ⟨⟨Nat.lt_of_lt_of_le hr.lt hg.size, fun i r hi k u hu => ?_⟩, ?_⟩
    · rw [← hr.c i r hi k u hu]
      simp [World.cell?, hg.block b hr.lt (fun e => hne e.symm)]
    · rcases hv with e | e
      · rw [e]; exact hne
      · rw [e]; intro e2; injection e2 with e2; have := hr.lt; omega
  refine ⟨vs ++ [.slice (some ⟨b, off, none⟩) xs.length cap], by simp [h1], by rw [List.length_append, h1]; exact ho, fun k u ys hu hy => ?_⟩
  rcases Nat.lt_or_ge k vs.length with hlt | hge
  · rw [List.getElem?_append_left hlt] at hu
    rw [List.getElem?_append_left (by omega)] at hy
    obtain ⟨a, b', off', cap', e, hr', h4, h5⟩ := h3 k u ys hu hy
    obtain ⟨k1, k2⟩ := keep hr' h5
    exact ⟨a, b', off', cap', e, k1, h4, k2⟩
  · have hk : k = vs.length := by
      have := (List.getElem?_eq_some_iff.1 hu).1
      simp at this; omega
    subst hk
    rw [List.getElem?_append_right (Nat.le_refl _), Nat.sub_self] at hu
    rw [h1, List.getElem?_append_right (Nat.le_refl _), Nat.sub_self] at hy
    simp at hu hy
    subst hu hy
    obtain ⟨k1, k2⟩ := keep hr hne
    exact ⟨hx, b, off, cap, rfl, k1, hb, k2⟩
/-- What it is in the end: a slice of points. -/
theorem PtsO.done {W : World} {base : Nat} {v : Value} {pts : List (List Int)} (h : PtsO W base v pts) : ∃ oa ca, v = .slice oa pts.length ca ∧ Pts W oa pts ∧ pts.length ≤ ca ∧ ∀ a, oa = some a → base ≤ a.block := by
  obtain ⟨vs, h1, h2, h3⟩ := h.ex
  have e : (vs.map fun u => [u]).flatten = vs := by
    clear h1 h2 h3
    induction vs with
    | nil => rfl
    | cons a r ih => simpa using ih
  obtain ⟨oa, ca, rfl, hs⟩ := own_rows (rows := vs.map fun u => [u]) (n := 1) (by intro r hr; simp at hr; obtain ⟨j, _, rfl⟩ := hr; rfl) (by rw [List.length_map, e]; exact h2)
  rw [List.length_map, h1] at h2 ⊢
  refine ⟨oa, ca, rfl, ⟨vs, h1, hs, fun k u xs hu hx => ?_⟩, (own_cap h2).1, own_fresh h2⟩
  obtain ⟨_, b, off, cap, e, hr, _, _⟩ := h3 k u xs hu hx
  exact ⟨_, cap, e, fun _ => ⟨b, off, rfl, hr⟩⟩
theorem PtsO.fresh {W W'' : World} {base : Nat} {v : Value} {pts : List (List Int)} (h : PtsO W base v pts) (hag : ∀ g, base ≤ g → g < W.heap.size → W''.heap[g]? = W.heap[g]?) : PtsO W'' base v pts := by
  obtain ⟨vs, h1, h2, h3⟩ := h.ex
  refine ⟨vs, h1, own_blk h2 fun g _ hl hb => hag g hb hl, fun k u xs hu hx => ?_⟩
  obtain ⟨a, b, off, cap, e, hr, h4, h5⟩ := h3 k u xs hu hx
  refine ⟨a, b, off, cap, e, ⟨?_, fun i r hi k v hv => ?_⟩, h4, h5⟩
  · have e2 := hag b h4 hr.lt
    rcases Nat.lt_or_ge b W''.heap.size with h | h
    · exact h
    · rw [Array.getElem?_eq_none h, Array.getElem?_eq_getElem hr.lt] at e2; cases e2
  · rw [← hr.c i r hi k v hv]
    simp [World.cell?, hag b h4 hr.lt]
/-- What Configs answers. -/
def CfgsP (js : List JV) (n : Nat) (w : World) (e : Ending) (W' : World) : Prop := ∃ (pts : List (List Int)) (oa : Option Addr) (ca : Nat), e = .returned (.slice oa pts.length ca) ∧ pts.length = n ∧ (∀ xs ∈ pts, xs.length = js.length ∧ inTo js xs) ∧ (∀ W'', (∀ g, w.heap.size ≤ g → g < W'.heap.size → W''.heap[g]? = W'.heap[g]?) → Pts W'' oa pts) ∧ Below w.heap.size w W'
/-- The world of Configs. -/
structure CsI (w Wb : World) (n3 nS : Nat) (rv : List Value) (os : Option Addr) (cap : Nat) (xs : List Int) (v : Value) (pts : List (List Int)) (W : World) : Prop where
  bel : Below w.heap.size w W
  r3 : Row W n3 rv
  src : Src W nS os cap xs
  pt : PtsO W Wb.heap.size v pts
  hb : Wb.heap.size ≤ W.heap.size
  h3 : w.heap.size ≤ n3
  h4 : n3 < nS
  h5 : nS < Wb.heap.size
theorem CsI.keep {w Wb W W' : World} {n3 nS : Nat} {rv : List Value} {os : Option Addr} {cap : Nat} {xs : List Int} {v : Value} {pts : List (List Int)} (h : CsI w Wb n3 nS rv os cap xs v pts W) (hb : Below W.heap.size W W') : CsI w Wb n3 nS rv os cap xs v pts W' :=
  ⟨below_call h.bel hb, h.r3.keep hb, h.src.keepB hb, h.pt.keep hb, Nat.le_trans h.hb hb.size, h.h3, h.h4, h.h5⟩
theorem CsI.call {w Wb W W' : World} {n3 nS : Nat} {rv : List Value} {os : Option Addr} {cap : Nat} {xs : List Int} {v : Value} {pts : List (List Int)} (h : CsI w Wb n3 nS rv os cap xs v pts W) (hg : W.grownBy W' (some nS)) (hS : Src W' nS os cap xs) : CsI w Wb n3 nS rv os cap xs v pts W' := by
  have h3 := h.h3; have h4 := h.h4; have h5 := h.h5
  have ne : ∀ k, k ≠ nS → k < W.heap.size → W'.heap[k]? = W.heap[k]? := fun k hk hl => hg.block k hl (fun e => hk (by injection e))
  refine ⟨⟨hg.os.trans h.bel.os, hg.tape.trans h.bel.tape, hg.output.trans h.bel.output, Nat.le_trans h.bel.size hg.size, fun k hk => (ne k (by omega) (Nat.lt_of_lt_of_le hk h.bel.size)).trans (h.bel.block k hk)⟩, ?_, hS, h.pt.keepG hg h5, Nat.le_trans h.hb hg.size, h3, h4, h5⟩
  have e := ne n3 (by omega) h.r3.lt
  refine ⟨fun j v hj => ?_, Nat.lt_of_lt_of_le h.r3.lt hg.size⟩
  rw [← h.r3.c j v hj]
  simp [World.cell?, e]
/-- Behind an append to a row that is newer than the points. -/
theorem CsI.raw {w Wb W W1 : World} {n3 nS base : Nat} {rv : List Value} {os : Option Addr} {cap : Nat} {xs : List Int} {v u : Value} {pts : List (List Int)} {ys : List Value} (h : CsI w Wb n3 nS rv os cap xs v pts W) (hi : Sl Wb os 1 (pvals xs)) (ho : W.ownsRow base 3 1 u ys.length ys) (hg : W.grownBy W1 u.ownBlock) (hbs : Wb.heap.size ≤ base) (hbw : base ≤ W.heap.size) (hp : ∀ W', Below base W W' → PtsO W' Wb.heap.size v pts) : CsI w Wb n3 nS rv os cap xs v pts W1 := by
  have h3 := h.h3; have h4 := h.h4; have h5 := h.h5
  have B := grown_below ho hg hbw
  exact ⟨h.bel.trans (B.mono (by have := h.bel.size; omega)), h.r3.low (by omega) B, h.src.low hi h5 (B.mono hbs), hp _ B, Nat.le_trans h.hb hg.size, h3, h4, h5⟩
end Go.Proofs.Ng
end

section
/-
  The plain law of k-d trees: links, what lies below a node, valid trees.
-/
namespace Go.Proofs.Ng
open Go.RowKit

/-- Node j hangs at node i. -/
def Lk (t : List Nd) (i j : Nat) : Prop := ∃ x, t[i]? = some x ∧ (x.lo = (j : Nat) ∨ x.hi = (j : Nat))
/-- Node j is c or lies below it. -/
inductive Dn (t : List Nd) (c : Nat) : Nat → Prop
  | self : Dn t c c
  | step {i j : Nat} : Dn t c i → Lk t i j → Dn t c j
def inR (i n : Nat) (c : Int) : Prop := c = -1 ∨ ((i : Int) < c ∧ c < n)
structure NdOk (n d i : Nat) (x : Nd) : Prop where
  p0 : 0 ≤ x.pt
  p1 : x.pt < n
  a0 : 0 ≤ x.ax
  a1 : x.ax < d
  lo : inR i n x.lo
  hi : inR i n x.hi
structure KdS (d : Nat) (t : List Nd) : Prop where
  ok : ∀ (i : Nat) (x : Nd), t[i]? = some x → NdOk t.length d i x
  pts : ∀ (i j : Nat) (x y : Nd), t[i]? = some x → t[j]? = some y → x.pt = y.pt → i = j
  one : ∀ j, 1 ≤ j → j < t.length → ∃ i, Lk t i j
  uniq : ∀ i i' j, Lk t i j → Lk t i' j → i = i'
  diff : ∀ (i : Nat) (x : Nd), t[i]? = some x → x.lo = x.hi → x.lo = -1
/-- The point of node j is on the right side of node u. -/
def Side (pts : List (List Int)) (t : List Nd) (u : Nat) (x : Nd) (j : Nat) (y : Nd) : Prop :=
  (∀ c : Nat, x.lo = (c : Nat) → Dn t c j → bef pts x.ax.toNat y.pt.toNat x.pt.toNat = true) ∧ (∀ c : Nat, x.hi = (c : Nat) → Dn t c j → bef pts x.ax.toNat x.pt.toNat y.pt.toNat = true)
def KdO (pts : List (List Int)) (t : List Nd) : Prop := ∀ (u : Nat) (x : Nd) (j : Nat) (y : Nd), t[u]? = some x → t[j]? = some y → Side pts t u x j y
def KdOk (pts : List (List Int)) (t : List Nd) : Prop := vpB pts = true ∧ t.length = pts.length ∧ KdS (dimP pts) t ∧ KdO pts t

/-- All links go up. -/
def Up (t : List Nd) : Prop := ∀ (i : Nat) (x : Nd), t[i]? = some x → inR i t.length x.lo ∧ inR i t.length x.hi
theorem KdS.up {d : Nat} {t : List Nd} (h : KdS d t) : Up t := fun i x hx => ⟨(h.ok i x hx).lo, (h.ok i x hx).hi⟩
theorem Up.lk {t : List Nd} (h : Up t) {i j : Nat} (hl : Lk t i j) : i < j ∧ j < t.length := by
  obtain ⟨x, hx, hc⟩ := hl
  obtain ⟨h1, h2⟩ := h i x hx
  unfold inR at h1 h2
  rcases hc with hc | hc <;> omega
theorem Dn.le {t : List Nd} (h : Up t) {c j : Nat} (hd : Dn t c j) : c ≤ j := by
  induction hd with
  | self => exact Nat.le_refl _
  | step _ hl ih => have := h.lk hl; omega
theorem Dn.lt {t : List Nd} (h : Up t) {c j : Nat} (hc : c < t.length) (hd : Dn t c j) : j < t.length := by
  cases hd with
  | self => exact hc
  | step _ hl => exact (h.lk hl).2
theorem Dn.trans {t : List Nd} {a b c : Nat} (h : Dn t a b) (k : Dn t b c) : Dn t a c := by
  induction k with
  | self => exact h
  | step _ hl ih => exact ih.step hl
theorem Dn.head {t : List Nd} {a b : Nat} (h : Dn t a b) : a = b ∨ ∃ c, Lk t a c ∧ Dn t c b := by
  induction h with
  | self => exact .inl rfl
  | step _ hl ih =>
    rcases ih with rfl | ⟨c, h1, h2⟩
    · exact .inr ⟨_, hl, .self⟩
    · exact .inr ⟨c, h1, h2.step hl⟩
/-- Below two nodes: one of them is below the other. -/
theorem Dn.chain {t : List Nd} (hu : ∀ i i' j, Lk t i j → Lk t i' j → i = i') {a b j : Nat} (h : Dn t a j) (k : Dn t b j) : Dn t a b ∨ Dn t b a := by
  induction h with
  | self => exact .inr k
  | step h1 hl ih =>
    cases k with
    | self => exact .inl (h1.step hl)
    | step k1 kl =>
      have := hu _ _ _ hl kl
      subst this
      exact ih k1
/-- The two sides of a node have nothing in common. -/
theorem sides_apart {t : List Nd} (hup : Up t) (hu : ∀ i i' j, Lk t i j → Lk t i' j → i = i') {i a b j : Nat} (ha : Lk t i a) (hb : Lk t i b) (hab : a ≠ b) (h : Dn t a j) (k : Dn t b j) : False := by
  have key : ∀ a b : Nat, Lk t i a → Lk t i b → a ≠ b → Dn t a b → False := by
    intro a b ha hb hab h
    cases h with
    | self => exact hab rfl
    | step h1 hl =>
      have := hu _ _ _ hl hb
      subst this
      have h2 := h1.le hup
      have h3 := hup.lk ha
      omega
  rcases h.chain hu k with h1 | h1
  · exact key a b ha hb hab h1
  · exact key b a hb ha (fun e => hab e.symm) h1

/-- The nodes below, in the reference's order. -/
def belowP (t : List Nd) : Nat → Int → List Nat
  | 0, _ => []
  | f + 1, i => if i < 0 then [] else match t[i.toNat]? with
    | none => []
    | some x => i.toNat :: (belowP t f x.lo ++ belowP t f x.hi)
theorem belowP_neg (t : List Nd) (f : Nat) {i : Int} (h : i < 0) : belowP t f i = [] := by
  cases f with
  | zero => rfl
  | succ f => unfold belowP; rw [if_pos h]
theorem belowP_at {t : List Nd} {f i : Nat} {x : Nd} (h : t[i]? = some x) : belowP t (f + 1) (i : Nat) = i :: (belowP t f x.lo ++ belowP t f x.hi) := by
  rw [belowP, if_neg (by omega)]
  simp [h]
theorem mem_belowP {t : List Nd} (hup : Up t) : ∀ (f : Nat) (i : Int) (j : Nat), i < t.length → (t.length : Int) ≤ f + i ∨ i < 0 → (j ∈ belowP t f i ↔ 0 ≤ i ∧ Dn t i.toNat j)
  | 0, i, j, h1, h2 => by
    have : i < 0 := by omega
    rw [belowP_neg _ _ this]
    simp only [List.not_mem_nil, false_iff]
    omega
  | f + 1, i, j, h1, h2 => by
    by_cases h0 : i < 0
    · rw [belowP_neg _ _ h0]
      simp only [List.not_mem_nil, false_iff]
      omega
    · obtain ⟨k, rfl⟩ : ∃ k : Nat, i = (k : Nat) := ⟨i.toNat, by omega⟩
      obtain ⟨x, hx⟩ : ∃ x, t[k]? = some x := ⟨_, List.getElem?_eq_getElem (by omega)⟩
      obtain ⟨hl, hh⟩ := hup k x hx
      unfold inR at hl hh
      rw [belowP_at hx, List.mem_cons, List.mem_append, mem_belowP hup f x.lo j (by omega) (by omega), mem_belowP hup f x.hi j (by omega) (by omega)]
      simp only [Int.toNat_natCast]
      constructor
      · rintro (rfl | ⟨h3, h4⟩ | ⟨h3, h4⟩)
        · exact ⟨by omega, .self⟩
        · exact ⟨by omega, (Dn.self.step ⟨x, hx, .inl (by omega)⟩).trans h4⟩
        · exact ⟨by omega, (Dn.self.step ⟨x, hx, .inr (by omega)⟩).trans h4⟩
      · rintro ⟨-, h4⟩
        rcases h4.head with rfl | ⟨c, ⟨y, hy, hc⟩, h5⟩
        · exact .inl rfl
        · rw [hx] at hy
          injection hy with hy
          subst hy
          rcases hc with hc | hc
          · exact .inr (.inl ⟨by omega, by rw [hc]; exact h5⟩)
          · exact .inr (.inr ⟨by omega, by rw [hc]; exact h5⟩)
theorem belowP_nodup {t : List Nd} (hup : Up t) (hu : ∀ i i' j, Lk t i j → Lk t i' j → i = i') (hd : ∀ (i : Nat) (x : Nd), t[i]? = some x → x.lo = x.hi → x.lo = -1) : ∀ (f : Nat) (i : Int), i < t.length → (t.length : Int) ≤ f + i ∨ i < 0 → (belowP t f i).Nodup
  | 0, i, _, _ => List.nodup_nil
  | f + 1, i, h1, h2 => by
    by_cases h0 : i < 0
    · rw [belowP_neg _ _ h0]; exact List.nodup_nil
    · obtain ⟨k, rfl⟩ : ∃ k : Nat, i = (k : Nat) := ⟨i.toNat, by omega⟩
      obtain ⟨x, hx⟩ : ∃ x, t[k]? = some x := ⟨_, List.getElem?_eq_getElem (by omega)⟩
      obtain ⟨hl, hh⟩ := hup k x hx
      unfold inR at hl hh
      rw [belowP_at hx, List.nodup_cons, List.nodup_append]
      have ml := fun j => mem_belowP hup f x.lo j (by omega) (by omega)
      have mh := fun j => mem_belowP hup f x.hi j (by omega) (by omega)
      refine ⟨?_, belowP_nodup hup hu hd f x.lo (by omega) (by omega), belowP_nodup hup hu hd f x.hi (by omega) (by omega), ?_⟩
      · rw [List.mem_append, ml, mh]
        rintro (⟨h3, h4⟩ | ⟨h3, h4⟩)
        · have := h4.le hup; omega
        · have := h4.le hup; omega
      · intro a ha b hb
        rw [ml] at ha
        rw [mh] at hb
        rintro rfl
        refine sides_apart hup hu (i := k) (a := x.lo.toNat) (b := x.hi.toNat) ⟨x, hx, .inl (by omega)⟩ ⟨x, hx, .inr (by omega)⟩ (fun e => ?_) ha.2 hb.2
        have := hd k x hx (by omega)
        omega
theorem nodup_le : ∀ (n : Nat) (l : List Nat), l.Nodup → (∀ x ∈ l, x < n) → l.length ≤ n
  | 0, l, _, hl => by
    cases l with
    | nil => simp
    | cons a r => exact absurd (hl a (by simp)) (Nat.not_lt_zero _)
  | n + 1, l, hn, hl => by
    by_cases hm : n ∈ l
    · have h1 := nodup_le n (l.erase n) (hn.erase n) (fun x hx => by
        have h2 := (hn.mem_erase_iff).1 hx
        have h3 := hl x h2.2
        have h4 := h2.1
        omega)
      rw [List.length_erase_of_mem hm] at h1
      omega
    · have := nodup_le n l hn (fun x hx => by
        have h3 := hl x hx
        rcases Nat.lt_or_ge x n with h | h
        · exact h
        · exact absurd (show n ∈ l by have : x = n := by omega
                                      rw [← this]; exact hx) hm)
      omega
theorem belowP_len {t : List Nd} (hup : Up t) (hu : ∀ i i' j, Lk t i j → Lk t i' j → i = i') (hd : ∀ (i : Nat) (x : Nd), t[i]? = some x → x.lo = x.hi → x.lo = -1) (f : Nat) (i : Int) (h1 : i < t.length) (h2 : (t.length : Int) ≤ f + i ∨ i < 0) : (belowP t f i).length ≤ t.length := by
  refine nodup_le _ _ (belowP_nodup hup hu hd f i h1 h2) fun j hj => ?_
  rw [mem_belowP hup f i j h1 h2] at hj
  exact hj.2.lt hup (by omega)
end Go.Proofs.Ng
end

section
/-
  The plain law of k-d trees: parents as the code finds them, links as the reference counts them.
-/
namespace Go.Proofs.Ng
open Go.RowKit

theorem kd_bad {d : Nat} {t : List Nd} {i : Nat} {x : Nd} (hx : t[i]? = some x) (h : ¬ NdOk t.length d i x) : ¬ KdS d t := fun k => h (k.ok i x hx)
/-- What the code knows behind i nodes. -/
structure ParI (d : Nat) (t : List Nd) (i : Nat) (ab : List Int) (us : List Bool) : Prop where
  la : ab.length = t.length
  lu : us.length = t.length
  ok : ∀ (k : Nat) (x : Nd), k < i → t[k]? = some x → NdOk t.length d k x
  ab : ∀ c : Nat, c < t.length → (ab[c]? = some (-1) ∧ ∀ p, p < i → ¬ Lk t p c) ∨ ∃ p : Nat, p < i ∧ ab[c]? = some ((p : Nat) : Int) ∧ Lk t p c ∧ ∀ p', p' < i → Lk t p' c → p' = p
  diff : ∀ (k : Nat) (x : Nd), k < i → t[k]? = some x → x.lo = x.hi → x.lo = -1
  us : ∀ p : Nat, p < t.length → (us[p]? = some true ∧ ∃ (k : Nat) (x : Nd), k < i ∧ t[k]? = some x ∧ x.pt = (p : Nat)) ∨ (us[p]? = some false ∧ ∀ (k : Nat) (x : Nd), k < i → t[k]? = some x → x.pt ≠ (p : Nat))
  pts : ∀ (k k' : Nat) (x y : Nd), k < i → k' < i → t[k]? = some x → t[k']? = some y → x.pt = y.pt → k = k'
  one : ∀ k, 1 ≤ k → k < i → ∃ p, p < i ∧ Lk t p k
theorem ParI.start (d : Nat) (t : List Nd) : ParI d t 0 (List.replicate t.length (-1)) (List.replicate t.length false) :=
  ⟨by simp, by simp, fun _ _ h => absurd h (Nat.not_lt_zero _), fun c hc => .inl ⟨by simp [hc], fun _ h => absurd h (Nat.not_lt_zero _)⟩, fun _ _ h => absurd h (Nat.not_lt_zero _), fun p hp => .inr ⟨by simp [hp], fun _ _ h => absurd h (Nat.not_lt_zero _)⟩, fun _ _ _ _ h => absurd h (Nat.not_lt_zero _), fun _ _ h => absurd h (Nat.not_lt_zero _)⟩
variable {d : Nat} {t : List Nd} {i : Nat} {ab : List Int} {us : List Bool} {x : Nd}
theorem ParI.used (h : ParI d t i ab us) (hx : t[i]? = some x) {p : Nat} (hp : x.pt = (p : Nat)) (hu : us[p]? = some true) : ¬ KdS d t := by
  intro k
  have hp1 := (k.ok i x hx).p1
  rcases h.us p (by omega) with ⟨_, j, y, hj, hy, hyp⟩ | ⟨h1, _⟩
  · have := k.pts j i y x hy hx (by omega)
    omega
  · rw [hu] at h1; cases h1
theorem ParI.two (h : ParI d t i ab us) {c : Nat} (hc : c < t.length) {v : Int} (hv : ab[c]? = some v) (hv1 : v ≠ -1) (hl : Lk t i c) : ¬ KdS d t := by
  intro k
  rcases h.ab c hc with ⟨h1, _⟩ | ⟨p, hp, _, hl', _⟩
  · rw [hv] at h1; injection h1 with h1; exact hv1 h1
  · have := k.uniq p i c hl' hl; omega
theorem ParI.none (h : ParI d t i ab us) (hi : 0 < i) (hil : i < t.length) (hv : ab[i]? = some (-1)) : ¬ KdS d t := by
  intro k
  obtain ⟨p, hp⟩ := k.one i hi hil
  have := (k.up.lk hp).1
  rcases h.ab i hil with ⟨_, h1⟩ | ⟨q, hq, h1, _⟩
  · exact h1 p this hp
  · rw [hv] at h1; injection h1 with h1; omega
/-- The parents behind one node more. -/
def ab1 (ab : List Int) (i : Nat) (c : Int) : List Int := if c = -1 then ab else ab.set c.toNat (i : Nat)
theorem ab1_len (ab : List Int) (i : Nat) (c : Int) : (ab1 ab i c).length = ab.length := by unfold ab1; split <;> simp
theorem ab1_low {ab : List Int} {i : Nat} {c : Int} (hc : c = -1 ∨ (i : Int) < c) : (ab1 ab i c)[i]? = ab[i]? := by
  unfold ab1
  split
  · rfl
  · rw [List.getElem?_set_ne (by omega)]
theorem ParI.next (h : ParI d t i ab us) (hx : t[i]? = some x) (ho : NdOk t.length d i x) (hu : us[x.pt.toNat]? = some false) (hl : x.lo ≠ -1 → ab[x.lo.toNat]? = some (-1)) (hh : x.hi ≠ -1 → (ab1 ab i x.lo)[x.hi.toNat]? = some (-1)) (h0 : 0 < i → ab[i]? ≠ some (-1)) : ParI d t (i + 1) (ab1 (ab1 ab i x.lo) i x.hi) (us.set x.pt.toNat true) := by
  have hil := (List.getElem?_eq_some_iff.1 hx).1
  have hol := ho.lo
  have hoh := ho.hi
  unfold inR at hol hoh
  have hnot : ∀ (p : Nat), p < i + 1 → ¬ p = i → p < i := fun p h1 h2 => by omega
  have hlk : ∀ c : Nat, Lk t i c ↔ x.lo = (c : Nat) ∨ x.hi = (c : Nat) := fun c => ⟨fun ⟨y, hy, hc⟩ => by rw [hx] at hy; injection hy with hy; subst hy; exact hc, fun hc => ⟨x, hx, hc⟩⟩
  have hdif : x.lo = x.hi → x.lo = -1 := by
    intro e
    apply Classical.byContradiction
    intro hne
    have h1 := hh (by omega)
    unfold ab1 at h1
    rw [if_neg hne, ← e, List.getElem?_set_self (by rw [h.la]; omega)] at h1
    injection h1 with h1
    omega
  refine ⟨by rw [ab1_len, ab1_len]; exact h.la, by simp [h.lu], ?_, ?_, ?_, ?_, ?_, ?_⟩
  · intro k y hk hy
    by_cases e : k = i
    · subst e; rw [hx] at hy; injection hy with hy; subst hy; exact ho
    · exact h.ok k y (hnot k hk e) hy
  · intro c hc
    have hbase := h.ab c hc
    by_cases hlc : Lk t i c
    · right
      refine ⟨i, by omega, ?_, hlc, fun p' hp' hl' => ?_⟩
      · rcases (hlk c).1 hlc with e | e
        · have e1 : (ab1 (ab1 ab i x.lo) i x.hi)[c]? = (ab1 ab i x.lo)[c]? := by
            unfold ab1
            split
            · rfl
            · rw [List.getElem?_set_ne (by have := hdif; omega)]
          rw [e1]
          unfold ab1
          rw [if_neg (by omega), show x.lo.toNat = c by omega, List.getElem?_set_self (by rw [h.la]; omega)]
        · have e2 : (ab1 (ab1 ab i x.lo) i x.hi)[c]? = some ((i : Nat) : Int) := by
            rw [ab1, if_neg (by omega), show x.hi.toNat = c by omega, List.getElem?_set_self (by rw [ab1_len, h.la]; omega)]
          exact e2
      · by_cases e : p' = i
        · exact e
        · exfalso
          have hp2 := hnot p' hp' e
          have habc : ab[c]? = some (-1) := by
            rcases (hlk c).1 hlc with e1 | e1
            · have := hl (by omega); rw [show x.lo.toNat = c by omega] at this; exact this
            · have h1 := hh (by omega)
              rw [show x.hi.toNat = c by omega] at h1
              unfold ab1 at h1
              split at h1
              · exact h1
              · rw [List.getElem?_set] at h1
                split at h1
                · split at h1
                  · injection h1 with h1; omega
                  · cases h1
                · exact h1
          rcases hbase with ⟨_, h1⟩ | ⟨p, hp, h1, _⟩
          · exact h1 p' hp2 hl'
          · rw [habc] at h1; injection h1 with h1; omega
    · have hn := fun e => hlc ((hlk c).2 e)
      have e1 : (ab1 (ab1 ab i x.lo) i x.hi)[c]? = ab[c]? := by
        have a1 : (ab1 (ab1 ab i x.lo) i x.hi)[c]? = (ab1 ab i x.lo)[c]? := by
          rw [ab1]
          split
          · rfl
          · rw [List.getElem?_set_ne (by intro e; exact hn (.inr (by omega)))]
        rw [a1, ab1]
        split
        · rfl
        · rw [List.getElem?_set_ne (by intro e; exact hn (.inl (by omega)))]
      rw [e1]
      rcases hbase with ⟨h1, h2⟩ | ⟨p, hp, h1, h2, h3⟩
      · refine .inl ⟨h1, fun p hp hl' => ?_⟩
        by_cases e : p = i
        · subst e; exact hlc hl'
        · exact h2 p (hnot p hp e) hl'
      · refine .inr ⟨p, by omega, h1, h2, fun p' hp' hl' => ?_⟩
        by_cases e : p' = i
        · subst e; exact absurd hl' hlc
        · exact h3 p' (hnot p' hp' e) hl'
  · intro k y hk hy
    by_cases e : k = i
    · subst e; rw [hx] at hy; injection hy with hy; subst hy; exact hdif
    · exact h.diff k y (hnot k hk e) hy
  · intro p hp
    have h0 := ho.p0
    by_cases e : x.pt = (p : Nat)
    · refine .inl ⟨?_, i, x, by omega, hx, e⟩
      rw [show x.pt.toNat = p by omega, List.getElem?_set_self (by rw [h.lu]; exact hp)]
    · rw [List.getElem?_set_ne (by omega)]
      rcases h.us p hp with ⟨h1, k, y, hk, hy, hyp⟩ | ⟨h1, h2⟩
      · exact .inl ⟨h1, k, y, by omega, hy, hyp⟩
      · refine .inr ⟨h1, fun k y hk hy => ?_⟩
        by_cases e2 : k = i
        · subst e2; rw [hx] at hy; injection hy with hy; subst hy; exact e
        · exact h2 k y (hnot k hk e2) hy
  · have key : ∀ k y, k < i → t[k]? = some y → x.pt = y.pt → False := fun k y hk hy e => by
      have h0 := ho.p0
      have h1 := ho.p1
      rcases h.us x.pt.toNat (by omega) with ⟨h2, _⟩ | ⟨_, h2⟩
      · rw [hu] at h2; cases h2
      · exact h2 k y hk hy (by omega)
    intro k k' y z hk hk' hy hz e
    by_cases e1 : k = i
    · by_cases e2 : k' = i
      · omega
      · exfalso
        subst e1; rw [hx] at hy; injection hy with hy; subst hy
        exact key k' z (hnot k' hk' e2) hz e
    · by_cases e2 : k' = i
      · exfalso
        subst e2; rw [hx] at hz; injection hz with hz; subst hz
        exact key k y (hnot k hk e1) hy e.symm
      · exact h.pts k k' y z (hnot k hk e1) (hnot k' hk' e2) hy hz e
  · intro k hk hki
    by_cases e : k = i
    · subst e
      rcases h.ab k hil with ⟨h1, _⟩ | ⟨p, hp, _, h2, _⟩
      · exact absurd h1 (h0 (by omega))
      · exact ⟨p, by omega, h2⟩
    · obtain ⟨p, hp, h2⟩ := h.one k hk (hnot k hki e)
      exact ⟨p, by omega, h2⟩
/-- All nodes are checked. -/
theorem ParI.fin (h : ParI d t t.length ab us) : KdS d t ∧ ∀ c : Nat, c < t.length → (ab[c]? = some (-1) ∧ c = 0) ∨ ∃ p : Nat, ab[c]? = some ((p : Nat) : Int) ∧ Lk t p c := by
  have hlt : ∀ i j, Lk t i j → i < t.length := fun i j ⟨x, hx, _⟩ => (List.getElem?_eq_some_iff.1 hx).1
  have hget : ∀ i y, t[i]? = some y → i < t.length := fun i y hx => (List.getElem?_eq_some_iff.1 hx).1
  have hj : ∀ i j, Lk t i j → j < t.length := fun i j ⟨x, hx, hc⟩ => by
    have h1 := (h.ok i x (hget i x hx) hx).lo
    have h2 := (h.ok i x (hget i x hx) hx).hi
    unfold inR at h1 h2
    rcases hc with hc | hc <;> omega
  have hS : KdS d t := by
    refine ⟨fun i x hx => h.ok i x (hget i x hx) hx, fun i j x y hx hy e => h.pts i j x y (hget i x hx) (hget j y hy) hx hy e, fun j h1 h2 => ?_, fun i i' j h1 h2 => ?_, fun i x hx => h.diff i x (hget i x hx) hx⟩
    · obtain ⟨p, _, hp⟩ := h.one j h1 h2
      exact ⟨p, hp⟩
    · rcases h.ab j (hj i j h1) with ⟨_, h3⟩ | ⟨p, _, _, _, h3⟩
      · exact absurd h1 (h3 i (hlt i j h1))
      · rw [h3 i (hlt i j h1) h1, h3 i' (hlt i' j h2) h2]
  refine ⟨hS, fun c hc => ?_⟩
  rcases h.ab c hc with ⟨h1, h2⟩ | ⟨p, _, h1, h2, _⟩
  · refine .inl ⟨h1, ?_⟩
    apply Classical.byContradiction
    intro h0
    obtain ⟨p, hp⟩ := hS.one c (by omega) hc
    exact h2 p (hlt p c hp) hp
  · exact .inr ⟨p, h1, h2⟩

/-! the reference's count -/
def lk1 (c : Nat) (x : Nd) : Nat := (if x.lo = (c : Nat) then 1 else 0) + (if x.hi = (c : Nat) then 1 else 0)
def cntL (t : List Nd) (c : Nat) : Nat := (t.map (lk1 c)).sum
theorem cntL_snoc (t : List Nd) (x : Nd) (c : Nat) : cntL (t ++ [x]) c = cntL t c + lk1 c x := by simp [cntL]
theorem mem_le_sum : ∀ (l : List Nat) (a : Nat), a ∈ l → a ≤ l.sum
  | [], a, h => by cases h
  | x :: l, a, h => by
    rw [List.mem_cons] at h
    rw [List.sum_cons]
    rcases h with rfl | h
    · omega
    · have := mem_le_sum l a h; omega
theorem sum_two : ∀ (l : List Nat) (i j a b : Nat), i < j → l[i]? = some a → l[j]? = some b → a + b ≤ l.sum
  | [], i, j, a, b, _, h, _ => by simp at h
  | x :: l, 0, j + 1, a, b, _, h1, h2 => by
    simp at h1 h2
    subst h1
    have : b ≤ l.sum := mem_le_sum _ _ (List.mem_of_getElem? h2)
    simp; omega
  | x :: l, i + 1, j + 1, a, b, h, h1, h2 => by
    simp at h1 h2
    have := sum_two l i j a b (by omega) h1 h2
    simp; omega
theorem sum_at : ∀ (l : List Nat) (i a : Nat), l[i]? = some a → (∀ j b, l[j]? = some b → j ≠ i → b = 0) → l.sum = a
  | [], i, a, h, _ => by simp at h
  | x :: l, 0, a, h, h0 => by
    simp at h; subst h
    have : l.sum = 0 := by
      rw [List.sum_eq_zero_iff_forall_eq_nat]
      intro b hb
      obtain ⟨j, hj⟩ := List.getElem?_of_mem hb
      exact h0 (j + 1) b (by simpa using hj) (by omega)
    simp [this]
  | x :: l, i + 1, a, h, h0 => by
    have hx := h0 0 x (by simp) (by omega)
    subst hx
    have := sum_at l i a (by simpa using h) (fun j b hj hne => h0 (j + 1) b (by simpa using hj) (by omega))
    simp [this]
theorem lk1_pos {t : List Nd} {i c : Nat} {x : Nd} (hx : t[i]? = some x) : 1 ≤ lk1 c x ↔ Lk t i c := by
  unfold lk1 Lk
  constructor
  · intro h
    refine ⟨x, hx, ?_⟩
    split at h
    · left; assumption
    · split at h
      · right; assumption
      · omega
  · rintro ⟨y, hy, hc⟩
    rw [hx] at hy; injection hy with hy; subst hy
    rcases hc with hc | hc
    · rw [if_pos hc]; omega
    · rw [if_pos hc]; omega
theorem KdS.cnt (h : KdS d t) {c : Nat} (h1 : 1 ≤ c) (h2 : c < t.length) : cntL t c = 1 := by
  obtain ⟨i, hl⟩ := h.one c h1 h2
  obtain ⟨x, hx, hc⟩ := id hl
  refine (sum_at _ i (lk1 c x) (by simp [hx]) fun j b hj hne => ?_).trans ?_
  · rw [List.getElem?_map, Option.map_eq_some_iff] at hj
    obtain ⟨y, hy, rfl⟩ := hj
    apply Classical.byContradiction
    intro h0
    exact hne (h.uniq j i c ((lk1_pos hy).1 (by omega)) hl)
  · have := h.diff i x hx
    unfold lk1
    rcases hc with hc | hc
    · rw [if_pos hc, if_neg (by omega)]
    · rw [if_neg (by omega), if_pos hc]
theorem cnt_uniq (hup : Up t) (hone : ∀ c, 1 ≤ c → c < t.length → cntL t c = 1) : (∀ j, 1 ≤ j → j < t.length → ∃ i, Lk t i j) ∧ (∀ i i' j, Lk t i j → Lk t i' j → i = i') ∧ (∀ (i : Nat) (x : Nd), t[i]? = some x → x.lo = x.hi → x.lo = -1) := by
  refine ⟨fun j h1 h2 => ?_, fun i i' j h1 h2 => ?_, fun i x hx e => ?_⟩
  · apply Classical.byContradiction
    intro hno
    have h0 : cntL t j = 0 := by
      unfold cntL
      rw [List.sum_eq_zero_iff_forall_eq_nat]
      intro b hb
      rw [List.mem_map] at hb
      obtain ⟨y, hy, rfl⟩ := hb
      obtain ⟨i, hi⟩ := List.getElem?_of_mem hy
      apply Classical.byContradiction
      intro h3
      exact hno ⟨i, (lk1_pos hi).1 (by omega)⟩
    have := hone j h1 h2
    omega
  · apply Classical.byContradiction
    intro hne
    have hj := hup.lk h1
    have hc := hone j (by omega) hj.2
    obtain ⟨x, hx, _⟩ := id h1
    obtain ⟨y, hy, _⟩ := id h2
    have a1 := (lk1_pos (c := j) hx).2 h1
    have a2 := (lk1_pos (c := j) hy).2 h2
    have hxm : (t.map (lk1 j))[i]? = some (lk1 j x) := by simp [hx]
    have hym : (t.map (lk1 j))[i']? = some (lk1 j y) := by simp [hy]
    rcases Nat.lt_or_gt_of_ne hne with h | h
    · have := sum_two _ i i' _ _ h hxm hym
      unfold cntL at hc; omega
    · have := sum_two _ i' i _ _ h hym hxm
      unfold cntL at hc; omega
  · apply Classical.byContradiction
    intro hne
    have h1 := (hup i x hx).1
    unfold inR at h1
    have hc := hone x.lo.toNat (by omega) (by omega)
    have hm : lk1 x.lo.toNat x ≤ cntL t x.lo.toNat := mem_le_sum _ _ (List.mem_map.2 ⟨x, List.mem_of_getElem? hx, rfl⟩)
    unfold lk1 at hm
    rw [if_pos (by omega), if_pos (by omega)] at hm
    omega
/-- What the reference knows behind i nodes. -/
structure RefI (d : Nat) (t : List Nd) (i : Nat) (us : List Bool) (cn : List Int) : Prop where
  lu : us.length = t.length
  lc : cn.length = t.length
  ok : ∀ (k : Nat) (x : Nd), k < i → t[k]? = some x → NdOk t.length d k x
  us : ∀ p : Nat, p < t.length → (us[p]? = some true ∧ ∃ (k : Nat) (x : Nd), k < i ∧ t[k]? = some x ∧ x.pt = (p : Nat)) ∨ (us[p]? = some false ∧ ∀ (k : Nat) (x : Nd), k < i → t[k]? = some x → x.pt ≠ (p : Nat))
  pts : ∀ (k k' : Nat) (x y : Nd), k < i → k' < i → t[k]? = some x → t[k']? = some y → x.pt = y.pt → k = k'
  cn : ∀ c : Nat, c < t.length → cn[c]? = some ((cntL (t.take i) c : Nat) : Int)
theorem RefI.start (d : Nat) (t : List Nd) : RefI d t 0 (List.replicate t.length false) (List.replicate t.length 0) :=
  ⟨by simp, by simp, fun _ _ h => absurd h (Nat.not_lt_zero _), fun p hp => .inr ⟨by simp [hp], fun _ _ h => absurd h (Nat.not_lt_zero _)⟩, fun _ _ _ _ h => absurd h (Nat.not_lt_zero _), fun c hc => by simp [hc, cntL]⟩
theorem RefI.used {cn : List Int} (h : RefI d t i us cn) (hx : t[i]? = some x) {p : Nat} (hp : x.pt = (p : Nat)) (hu : us[p]? = some true) : ¬ KdS d t := by
  intro k
  have hp1 := (k.ok i x hx).p1
  rcases h.us p (by omega) with ⟨_, j, y, hj, hy, hyp⟩ | ⟨h1, _⟩
  · have := k.pts j i y x hy hx (by omega)
    omega
  · rw [hu] at h1; cases h1
/-- The counts behind one link more. -/
def cn1 (cn : List Int) (c : Int) : List Int := if c = -1 then cn else cn.set c.toNat ((cn[c.toNat]?.getD 0) + 1)
theorem cn1_len (cn : List Int) (c : Int) : (cn1 cn c).length = cn.length := by unfold cn1; split <;> simp
theorem cn1_get {cn : List Int} {c : Int} {j : Nat} {v : Int} (hj : cn[j]? = some v) (hc : c = -1 ∨ 0 ≤ c) : (cn1 cn c)[j]? = some (v + if c = (j : Nat) then 1 else 0) := by
  have hl := (List.getElem?_eq_some_iff.1 hj).1
  unfold cn1
  split
  · rw [hj, if_neg (by omega), Int.add_zero]
  · by_cases e : c = (j : Nat)
    · rw [if_pos e, show c.toNat = j by omega, List.getElem?_set_self hl, hj]; rfl
    · rw [if_neg e, Int.add_zero, List.getElem?_set_ne (by omega), hj]
theorem RefI.next {cn : List Int} (h : RefI d t i us cn) (hx : t[i]? = some x) (ho : NdOk t.length d i x) (hu : us[x.pt.toNat]? = some false) : RefI d t (i + 1) (us.set x.pt.toNat true) (cn1 (cn1 cn x.lo) x.hi) := by
  have hnot : ∀ (p : Nat), p < i + 1 → ¬ p = i → p < i := fun p h1 h2 => by omega
  have hol := ho.lo
  have hoh := ho.hi
  unfold inR at hol hoh
  refine ⟨by simp [h.lu], by rw [cn1_len, cn1_len]; exact h.lc, ?_, ?_, ?_, ?_⟩
  · intro k y hk hy
    by_cases e : k = i
    · subst e; rw [hx] at hy; injection hy with hy; subst hy; exact ho
    · exact h.ok k y (hnot k hk e) hy
  · intro p hp
    have h0 := ho.p0
    by_cases e : x.pt = (p : Nat)
    · refine .inl ⟨?_, i, x, by omega, hx, e⟩
      rw [show x.pt.toNat = p by omega, List.getElem?_set_self (by rw [h.lu]; exact hp)]
    · rw [List.getElem?_set_ne (by omega)]
      rcases h.us p hp with ⟨h1, k, y, hk, hy, hyp⟩ | ⟨h1, h2⟩
      · exact .inl ⟨h1, k, y, by omega, hy, hyp⟩
      · refine .inr ⟨h1, fun k y hk hy => ?_⟩
        by_cases e2 : k = i
        · subst e2; rw [hx] at hy; injection hy with hy; subst hy; exact e
        · exact h2 k y (hnot k hk e2) hy
  · have key : ∀ k y, k < i → t[k]? = some y → x.pt = y.pt → False := fun k y hk hy e => by
      have h0 := ho.p0
      have h1 := ho.p1
      rcases h.us x.pt.toNat (by omega) with ⟨h2, _⟩ | ⟨_, h2⟩
      · rw [hu] at h2; cases h2
      · exact h2 k y hk hy (by omega)
    intro k k' y z hk hk' hy hz e
    by_cases e1 : k = i
    · by_cases e2 : k' = i
      · omega
      · exfalso
        subst e1; rw [hx] at hy; injection hy with hy; subst hy
        exact key k' z (hnot k' hk' e2) hz e
    · by_cases e2 : k' = i
      · exfalso
        subst e2; rw [hx] at hz; injection hz with hz; subst hz
        exact key k y (hnot k hk e1) hy e.symm
      · exact h.pts k k' y z (hnot k hk e1) (hnot k' hk' e2) hy hz e
  · intro c hc
    have e : t.take (i + 1) = t.take i ++ [x] := by rw [List.take_add_one, hx]; rfl
    rw [e, cntL_snoc, cn1_get (cn1_get (h.cn c hc) (by omega)) (by omega)]
    unfold lk1
    congr 1
    split <;> split <;> simp <;> omega
/-- All nodes are counted. -/
theorem RefI.fin {cn : List Int} (h : RefI d t t.length us cn) (h1 : ∀ c, 1 ≤ c → c < t.length → cn[c]? = some 1) : KdS d t := by
  have hget : ∀ i y, t[i]? = some y → i < t.length := fun i y hx => (List.getElem?_eq_some_iff.1 hx).1
  have hup : Up t := fun i x hx => ⟨(h.ok i x (hget i x hx) hx).lo, (h.ok i x (hget i x hx) hx).hi⟩
  obtain ⟨k1, k2, k3⟩ := cnt_uniq hup fun c a b => by
    have := h.cn c b
    rw [h1 c a b, List.take_length] at this
    injection this with this
    omega
  exact ⟨fun i x hx => h.ok i x (hget i x hx) hx, fun i j x y hx hy e => h.pts i j x y (hget i x hx) (hget j y hy) hx hy e, k1, k2, k3⟩
theorem RefI.not {cn : List Int} (h : RefI d t t.length us cn) {c : Nat} (h1 : 1 ≤ c) (h2 : c < t.length) {v : Int} (hv : cn[c]? = some v) (hne : v ≠ 1) : ¬ KdS d t := fun k => by
  have := h.cn c h2
  rw [hv, List.take_length, k.cnt h1 h2] at this
  injection this with this
  exact hne this
end Go.Proofs.Ng
end

