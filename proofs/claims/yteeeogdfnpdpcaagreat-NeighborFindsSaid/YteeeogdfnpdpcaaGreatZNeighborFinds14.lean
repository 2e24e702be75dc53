/-
  Texts put together: Bi Bj Db Bk Bl Bs.
-/
import Derived.Test.YteeeogdfnpdpcaaGreatZNeighborFinds13
import Derived.Maps.AppendAt
import Derived.Shelf.SlSortCmp.NoneTotal
import Derived.Test.YteeeogdfnpdpcaaGreatProg
set_option linter.unusedVariables false
section
/-
  Walks: the reference's sorted: the walk.
-/
namespace Go.Proofs.Ng
open Go.RowKit

set_option maxRecDepth 100000 in
set_option maxHeartbeats 4000000 in
theorem sorted58 (oa os : Option Addr) (ca cs : Nat) (pts : List (List Int)) (s : List Nat) (a : Nat) (w : World) (hP : Pts w oa pts) (hS : Sl w os 1 (nvals s)) (hlt : ∀ x ∈ s, x < pts.length) (ha : ∀ xs ∈ pts, a < xs.length) (hn : pts.length ≤ 100000) (haN : a < 1000) (hs : s.length ≤ 100000) :
    Calls Tryz.prog 61 #[.slice oa pts.length ca, .slice os s.length cs, .int .i64 a] w (NatsP (srt pts a s) w) := by
  have HLT := Lib.hid hlt
  have HA := Lib.hid ha
  have HPP := Lib.hid hP
  have HSS := Lib.hid hS
  clear hlt ha hP hS
  go_enter Tryz.func61, Tryz.ntmps61
  go_wp2_with fail
  go_loopw [7, 8, 9] (fun v i _ W => ∃ o : List Nat, o.length ≤ s.length ∧ i = .int .i64 (o.length : Nat) ∧ SoI pts a s w o v W) (fun _ i _ _ => s.length - (intOf i).toNat)
  case atStart => exact ⟨[], by simp, rfl, ⟨by simp, List.Pairwise.nil, World.ownsRow_nil _ _ _ _, Below.refl _ _⟩⟩
  case round =>
    obtain ⟨o, hk, rfl, hI⟩ := hrel
    by_cases hlo : o.length < s.length
    · obtain ⟨x, hx⟩ : ∃ x, s[o.length]? = some x := ⟨_, List.getElem?_eq_getElem hlo⟩
      obtain ⟨bs, offs, hos, x0, lbs⟩ := nv_get (HSS.out.keep hI.bel) hx
      subst hos
      obtain ⟨i0, hi, hz0, hz1, hz2⟩ := info_parts info3
      obtain ⟨ob, co, rfl, -⟩ := own_rows (nvals_one o) (by rw [nvals_len]; exact hI.own)
      rw [nvals_len] at hI ⊢
      have HI := Lib.hid hI
      have HX := Lib.hid hx
      have hb2 : Below wr.heap.size wr (wr.alloc (.cells #[.int .i64 (x : Nat)] 3)) := (Below.refl _ _).alloc (Nat.le_refl _) _
      have HC2 := Lib.hid (own_keep hI.own hb2)
      have HBC := Lib.hid (below_call hI.bel hb2)
      clear hI hx hb2
      go_wp2_with (at_builtin; refine wpList_append_own _ rfl _ _ 29 rfl w.heap.size 3 i0 (.int .i64 0) 1 8 under24 hi hz0 hz1 hz2 rfl (by decide) _ _ _ rfl HC2.out ⟨wr.heap.size, 0, none⟩ 1 1 [.int .i64 (x : Nat)] rfl rfl ?c1 ?c2 ?c3 ?c4 ?c5 ?_)
      case c1 => exact new_cells _ _ _
      case c2 => intro u hu; simp at hu; subst hu; rfl
      case c3 => unfold maxLen; omega
      case c4 => omega
      case c5 => exact HBC.out.size
      intro v' w' hown' hgrow _
      obtain ⟨g, c, rfl⟩ := own_some hown' (by omega)
      have hgl := (own_lt hown' g rfl).2
      have hJ : SoJ pts a s w o.length x g c o [] w' := by
        refine ⟨by simp, by rw [List.append_nil]; exact HI.out.perm, by rw [List.append_nil]; exact HI.out.pw, by simp, ?_, ?_⟩
        · have e : (nvals (o ++ [x])).flatten = (nvals o).flatten ++ [.int .i64 (x : Nat)] := by simp [nvals_flat]
          rw [e]; exact hown'
        · exact HBC.out.trans (grown_below HC2.out hgrow HBC.out.size)
      clear hown' hgrow HC2 HBC
      have HGL := Lib.hid hgl
      have hol : o.length ≤ 100000 := by omega
      generalize hK : o.length = k at hJ HX hlo hk hol ⊢
      have HK := Lib.hid hK
      have hxk : x < pts.length := HLT.out x (List.mem_of_getElem? HX.out)
      clear hi hz0 hz1 hz2 hgl x0 lbs hK
      go_wp2_with fail
      go_loopw [9] (fun i W => ∃ (p : Nat) (A B : List Nat), i = .int .i64 (p : Nat) ∧ A.length = p ∧ SoJ pts a s w k x g c A B W) (fun i _ => (intOf i).toNat)
      case atStart => exact ⟨k, o, [], rfl, HK.out, hJ⟩
      case round =>
        clear hJ
        obtain ⟨p, A, B, rfl, hAp, hJ⟩ := hrel
        obtain ⟨Wb, rfl⟩ : ∃ X, X = wr := ⟨_, rfl⟩
        have hl := hJ.len
        rcases p with _ | p
        · have hA0 : A = [] := List.length_eq_zero_iff.1 hAp
          subst hA0
          have HF := Lib.hid (hJ.fin HX.out (fun z h => by simp at h))
          clear hJ
          go_wp2_with fail
          go_quiet (fail)
          simp only [List.length_nil, Nat.zero_add] at hl
          have HFQ : Hid (SoI pts a s w ([] ++ x :: B) (.slice (some ⟨g, 0, none⟩) ([] ++ x :: B).length c) (Wb.drewN nq)) := Lib.hid ⟨HF.out.perm, HF.out.pw, own_keep HF.out.own (below_drew Wb nq), below_call HF.out.bel (below_drew Wb nq)⟩
          have hln : ([] ++ x :: B).length = k + 1 := by simp; omega
          generalize ([] ++ x :: B) = o' at HFQ hln
          generalize Wb.drewN nq = V at HFQ ⊢
          have HL := Lib.hid hln
          clear hln
          go_wp2_with fail
          go_roundw
          case rel => exact ⟨o', by rw [HL.out]; omega, by rw [HL.out]; simp, by have := HFQ.out; rw [HL.out] at this; exact this⟩
          case measure => have := HK.out; simp [intOf]; omega
        · obtain ⟨A', z, rfl⟩ : ∃ A' z, A = A' ++ [z] := by
            rcases List.eq_nil_or_concat A with h | ⟨A', z, h⟩
            · subst h; simp at hAp
            · exact ⟨A', z, by rw [h, List.concat_eq_append]⟩
          have hA' : A'.length = p := by simp at hAp; omega
          subst hA'
          have hlA : A'.length + 1 + B.length = k := by simpa using hl
          have hx1 : (A' ++ [z] ++ x :: B)[A'.length + 1]? = some x := by simp
          have hz1 : (A' ++ [z] ++ x :: B)[A'.length]? = some z := by simp
          have x1 := own_cell hJ.own _ _ hx1
          have x2 := own_cell hJ.own _ _ hz1
          have f1 := own_frozen hJ.own (by omega) (A'.length + 1)
          have f2 := own_frozen hJ.own (by omega) A'.length
          have lg := (own_lt hJ.own g rfl).1
          have hzl : z < pts.length := HLT.out z (by
            have : z ∈ s.take k := hJ.perm.mem_iff.1 (by simp)
            exact List.mem_of_mem_take this)
          have i1 : (A'.length : Int) + 1 < (k : Int) + 1 := by omega
          have i2 : (A'.length : Int) < (k : Int) + 1 := by omega
          have i3 : (0 : Int) ≤ (A'.length : Int) := by omega
          have i4 : (0 : Int) ≤ (A'.length : Int) + 1 := by omega
          have hw1 : IntKind.i64.wrap ((A'.length : Int) + 1 - 1) = (A'.length : Int) := by rw [IntWalk.i64_in _ (by omega)]; omega
          have hbf : ∀ X, Below w.heap.size w X → Calls Tryz.prog 51 #[.slice oa pts.length ca, .int .i64 a, .int .i64 x, .int .i64 z] X fun e w' => e = .returned (.bool (bef pts a x z)) ∧ ∃ q, w' = X.drewN q := fun X hX => before36 oa ca pts a x z X (HPP.out.keep hX) hxk hzl HA.out hn haN
          have HBF := Lib.hid hbf
          have HB := Lib.hid hJ.bel
          have HJ := Lib.hid hJ
          clear hbf hJ hx1 hz1 hAp hl
          cases hq : bef pts a x z with
          | false =>
            rw [hq] at HBF
            have hF := HJ.out.fin HX.out (fun u hu => by simp at hu; subst hu; exact hq)
            go_upto_region 7 with fail
            go_quiet ((go_at_call 51; exact Calls.quiet_of (HBF.out _ (below_call HB.out (below_drew _ _)))))
            have HF := Lib.hid hF
            clear hF x1 x2 f1 f2 lg i1 i2 i3 i4 hw1
            have HFQ : Hid (SoI pts a s w (A' ++ [z] ++ x :: B) (.slice (some ⟨g, 0, none⟩) (A' ++ [z] ++ x :: B).length c) (Wb.drewN nq)) := Lib.hid ⟨HF.out.perm, HF.out.pw, own_keep HF.out.own (below_drew Wb nq), below_call HF.out.bel (below_drew Wb nq)⟩
            have hln : (A' ++ [z] ++ x :: B).length = k + 1 := by simp; omega
            generalize (A' ++ [z] ++ x :: B) = o' at HFQ hln
            generalize Wb.drewN nq = V at HFQ ⊢
            have HL := Lib.hid hln
            clear hln
            go_wp2_with fail
            go_roundw
            case rel => exact ⟨o', by rw [HL.out]; omega, by rw [HL.out]; simp, by have := HFQ.out; rw [HL.out] at this; exact this⟩
            case measure => have := HK.out; simp [intOf]; omega
          | true =>
            rw [hq] at HBF
            go_upto_region 7 with fail
            go_quiet ((go_at_call 51; exact Calls.quiet_of (HBF.out _ (below_call HB.out (below_drew _ _)))))
            have HJ2 : Hid (SoJ pts a s w k x g c (A' ++ [z]) B (Wb.drewN nq)) := Lib.hid ⟨HJ.out.len, HJ.out.perm, HJ.out.pw, HJ.out.lt, own_keep HJ.out.own (below_drew Wb nq), below_call HJ.out.bel (below_drew Wb nq)⟩
            have y1 : (Wb.drewN nq).cell? ⟨g, A'.length + 1, none⟩ = some (.int .i64 (x : Nat)) := x1
            have y2 : (Wb.drewN nq).cell? ⟨g, A'.length, none⟩ = some (.int .i64 (z : Nat)) := x2
            have e1 : (Wb.drewN nq).frozen? ⟨g, A'.length + 1, none⟩ = false := f1
            have e2 : (Wb.drewN nq).frozen? ⟨g, A'.length, none⟩ = false := f2
            have ly : g < (Wb.drewN nq).heap.size := lg
            clear x1 x2 f1 f2 lg HJ HB
            generalize Wb.drewN nq = V at HJ2 y1 y2 e1 e2 ly ⊢
            have HST := Lib.hid (HJ2.out.step hq HGL.out)
            have hne : ¬ (A'.length + 1 = A'.length) := by omega
            go_upto_region 8 with fail
            go_region
            go_wp2_with fail
            go_roundw
            case rel => exact ⟨A'.length, A', z :: B, by simp, rfl, HST.out⟩
            case measure => simp [intOf]
    · have hle : o.length = s.length := by omega
      obtain ⟨ob, co, rfl, hsl⟩ := own_rows (nvals_one o) (by rw [nvals_len]; exact hI.own)
      have hcap := own_cap hI.own
      have hfr := own_fresh hI.own
      have hp := hI.perm
      rw [hle, List.take_length] at hp
      have he := srt_uniq hp hI.pw
      rw [nvals_len] at hI ⊢
      subst he
      have HF : Hid (NatsP (srt pts a s) w (.returned (.slice ob (srt pts a s).length co)) wr) := Lib.hid ⟨ob, co, rfl, by have := hcap.1; rwa [nvals_len] at this, hsl, hI.bel, hfr⟩
      clear hI hcap hfr hp hsl
      go_wp2
      go_ret
      exact HF.out
end Go.Proofs.Ng
end

section
/-
  The plain law of a k-d tree's building; rows of nodes.
-/
namespace Go.Proofs.Ng
open Go.RowKit

structure Nd where
  pt : Int
  ax : Int
  lo : Int
  hi : Int
deriving DecidableEq
def Nd.vals (n : Nd) : List Value := [.int .i64 n.pt, .int .i64 n.ax, .int .i64 n.lo, .int .i64 n.hi]
def nflat (t : List Nd) : List Value := (t.map Nd.vals).flatten
theorem nflat_snoc (t : List Nd) (n : Nd) : nflat (t ++ [n]) = nflat t ++ n.vals := by simp [nflat]
theorem nd_four (t : List Nd) : ∀ r ∈ t.map Nd.vals, r.length = 4 := by intro r hr; simp at hr; obtain ⟨j, _, rfl⟩ := hr; rfl
theorem nflat_at {t : List Nd} {k j : Nat} {n : Nd} {v : Value} (h : t[k]? = some n) (hv : n.vals[j]? = some v) : (nflat t)[k * 4 + j]? = some v := flat_get (t.map Nd.vals) 4 (nd_four t) k n.vals (map_get h) j v hv
def setLH (t : List Nd) (k : Nat) (lo hi : Int) : List Nd := t.modify k fun n => { n with lo := lo, hi := hi }
theorem setLH_len (t : List Nd) (k : Nat) (lo hi : Int) : (setLH t k lo hi).length = t.length := by simp [setLH]
theorem nflat_lh : ∀ {t : List Nd} {k : Nat} {lo hi : Int}, k < t.length → ((nflat t).set (k * 4 + 2) (.int .i64 lo)).set (k * 4 + 3) (.int .i64 hi) = nflat (setLH t k lo hi)
  | [], k, _, _, h => by simp at h
  | a :: t, 0, lo, hi, h => by simp [nflat, setLH, Nd.vals]
  | a :: t, k + 1, lo, hi, h => by
    have ih := nflat_lh (t := t) (k := k) (lo := lo) (hi := hi) (by simpa using h)
    have hl : a.vals.length = 4 := rfl
    have e : nflat (setLH (a :: t) (k + 1) lo hi) = a.vals ++ nflat (setLH t k lo hi) := by simp [nflat, setLH]
    rw [e, ← ih]
    have e2 : nflat (a :: t) = a.vals ++ nflat t := by simp [nflat]
    rw [e2, List.set_append_right _ _ (by omega), List.set_append_right _ _ (by omega)]
    congr 2
    · congr 1; omega
    · omega
/-- The middle of a set. -/
def midP (pts : List (List Int)) (a : Nat) (s : List Nat) : Nat := ((srt pts a s)[s.length / 2]?).getD 0
def axP (pts : List (List Int)) (lev : Nat) : Nat := lev % dimP pts
/-- The tree behind a set's growing, and the set's node. -/
def growP (pts : List (List Int)) : Nat → List Nd → List Nat → Nat → List Nd × Int
  | 0, t, _, _ => (t, -1)
  | f + 1, t, s, lev => match s with
    | [] => (t, -1)
    | x :: r =>
      let l := srt pts (axP pts lev) (x :: r)
      let k := (x :: r).length / 2
      let r1 := growP pts f (t ++ [⟨(midP pts (axP pts lev) (x :: r) : Nat), (axP pts lev : Nat), 0, 0⟩]) (l.take k) (lev + 1)
      let r2 := growP pts f r1.1 (l.drop (k + 1)) (lev + 1)
      (setLH r2.1 t.length r1.2 r2.2, t.length)
def lowP (pts : List (List Int)) (f : Nat) (t : List Nd) (s : List Nat) (lev : Nat) : List Nd × Int :=
  growP pts f (t ++ [⟨(midP pts (axP pts lev) s : Nat), (axP pts lev : Nat), 0, 0⟩]) ((srt pts (axP pts lev) s).take (s.length / 2)) (lev + 1)
def highP (pts : List (List Int)) (f : Nat) (t : List Nd) (s : List Nat) (lev : Nat) : List Nd × Int :=
  growP pts f (lowP pts f t s lev).1 ((srt pts (axP pts lev) s).drop (s.length / 2 + 1)) (lev + 1)
theorem growP_nil (pts : List (List Int)) (f : Nat) (t : List Nd) (lev : Nat) : growP pts f t [] lev = (t, -1) := by cases f <;> rfl
theorem growP_step {pts : List (List Int)} {f : Nat} {t : List Nd} {s : List Nat} {lev : Nat} (hs : s ≠ []) : growP pts (f + 1) t s lev = (setLH (highP pts f t s lev).1 t.length (lowP pts f t s lev).2 (highP pts f t s lev).2, (t.length : Int)) := by
  cases s with
  | nil => exact absurd rfl hs
  | cons x r => rfl
theorem growP_len (pts : List (List Int)) : ∀ (f : Nat) (t : List Nd) (s : List Nat) (lev : Nat), s.length ≤ f → (growP pts f t s lev).1.length = t.length + s.length
  | 0, t, s, lev, h => by
    have : s = [] := List.length_eq_zero_iff.1 (by omega)
    subst this; simp [growP]
  | f + 1, t, s, lev, h => by
    by_cases hs : s = []
    · subst hs; rw [growP_nil]; rfl
    · have h0 : 0 < s.length := List.length_pos_iff.2 hs
      rw [growP_step hs]
      simp only [setLH_len]
      unfold highP
      rw [growP_len pts f _ _ _ (by rw [List.length_drop, srt_len]; omega), List.length_drop, srt_len]
      unfold lowP
      rw [growP_len pts f _ _ _ (by rw [List.length_take, srt_len]; omega), List.length_take, srt_len]
      simp only [List.length_append, List.length_cons, List.length_nil]
      omega
theorem lowP_len {pts : List (List Int)} {f : Nat} {t : List Nd} {s : List Nat} {lev : Nat} (h : s.length ≤ f + 1) : (lowP pts f t s lev).1.length = t.length + 1 + s.length / 2 := by
  unfold lowP
  by_cases h0 : s.length = 0
  · have : s = [] := List.length_eq_zero_iff.1 h0
    subst this
    simp [growP_nil, srt]
  · rw [growP_len pts f _ _ _ (by rw [List.length_take, srt_len]; omega), List.length_take, srt_len]
    simp only [List.length_append, List.length_cons, List.length_nil]
    omega
theorem highP_len {pts : List (List Int)} {f : Nat} {t : List Nd} {s : List Nat} {lev : Nat} (h : s.length ≤ f + 1) (h0 : 0 < s.length) : (highP pts f t s lev).1.length = t.length + s.length := by
  unfold highP
  rw [growP_len pts f _ _ _ (by rw [List.length_drop, srt_len]; omega), lowP_len h, List.length_drop, srt_len]
  omega
theorem mid_at {pts : List (List Int)} {a : Nat} {s : List Nat} (h0 : 0 < s.length) : (srt pts a s)[s.length / 2]? = some (midP pts a s) := by
  unfold midP
  obtain ⟨x, hx⟩ : ∃ x, (srt pts a s)[s.length / 2]? = some x := ⟨_, List.getElem?_eq_getElem (by rw [srt_len]; omega)⟩
  rw [hx]; rfl

/-! slices of rows of indexes -/
theorem Sl.take {W : World} {o : Option Addr} {l : List Nat} (h : Sl W o 1 (nvals l)) (k : Nat) : Sl W o 1 (nvals (l.take k)) := by
  intro hne
  obtain ⟨b, off, e, hr⟩ := h (fun h0 => hne (by simp [nvals] at h0; subst h0; simp [nvals]))
  refine ⟨b, off, e, hr.lt, fun i r hi j v hv => ?_⟩
  refine hr.c i r ?_ j v hv
  unfold nvals at hi ⊢
  rw [List.map_take, List.getElem?_take] at hi
  split at hi
  · exact hi
  · cases hi
theorem Sl.drop {W : World} {b off : Nat} {l : List Nat} (h : Sl W (some ⟨b, off, none⟩) 1 (nvals l)) (k : Nat) : Sl W (some ⟨b, off + k, none⟩) 1 (nvals (l.drop k)) := by
  intro hne
  obtain ⟨b', off', e, hr⟩ := h (fun h0 => hne (by simp [nvals] at h0; subst h0; simp [nvals]))
  injection e with e
  injection e with e1 e2 _
  subst e1 e2
  refine ⟨b, off + k, rfl, hr.lt, fun i r hi j v hv => ?_⟩
  have h1 := hr.c (k + i) r (by unfold nvals at hi ⊢; rw [List.map_drop, List.getElem?_drop] at hi; exact hi) j v hv
  have e : off + ((k + i) * 1 + j) = off + k + (i * 1 + j) := by omega
  rw [← e]; exact h1
theorem Sl.keepO {W W' : World} {oa : Option Addr} {n : Nat} {rows : List (List Value)} {r : Option Nat} (h : Sl W oa n rows) (hg : W.grownBy W' r) (hne : ∀ b off s, oa = some ⟨b, off, s⟩ → r ≠ some b) : Sl W' oa n rows := by
  intro h0
  obtain ⟨b, off, e, hr⟩ := h h0
  refine ⟨b, off, e, Nat.lt_of_lt_of_le hr.lt hg.size, fun i row hi k v hv => ?_⟩
  rw [← hr.c i row hi k v hv]
  simp [World.cell?, hg.block b hr.lt (fun e' => hne b off none e e'.symm)]
theorem grown_chain {W A B : World} {r r' : Option Nat} (h : W.grownBy A r) (k : A.grownBy B r') (hr : ∀ g, r' = some g → r = some g ∨ W.heap.size ≤ g) : W.grownBy B r :=
  ⟨k.os.trans h.os, k.tape.trans h.tape, k.output.trans h.output, Nat.le_trans h.size k.size, fun i hi hn => (k.block i (Nat.lt_of_lt_of_le hi h.size) (fun e => by
    rcases hr i e.symm with h1 | h1
    · exact hn h1.symm
    · omega)).trans (h.block i hi hn)⟩
theorem grown_setO {W A : World} {r : Option Nat} {g : Nat} (h : W.grownBy A r) (hr : r = some g ∨ W.heap.size ≤ g) (i : Nat) (v : Value) : W.grownBy (A.setCell ⟨g, i, none⟩ v) r :=
  grown_chain h (grown_set A g i v) (fun g' e => by injection e with e; subst e; exact hr)
/-- The points of a valid list have one length. -/
theorem vp_dim {pts : List (List Int)} (h : vpB pts = true) : pts.length ≤ 1024 ∧ ∀ xs ∈ pts, xs.length = dimP pts ∧ 1 ≤ dimP pts ∧ dimP pts ≤ 10 := by
  unfold vpB at h
  rw [Bool.and_eq_true, decide_eq_true_eq, List.all_eq_true] at h
  refine ⟨h.1, fun xs hx => ?_⟩
  have h1 := h.2 xs hx
  unfold okC at h1
  rw [Bool.and_eq_true, decide_eq_true_eq] at h1
  omega
end Go.Proofs.Ng
end

section
/-
  The plain law of the library's heap.
-/
namespace Go.Proofs.Ng
open Go.RowKit

/-- A strict order whose 'not before' is transitive. -/
structure Bf (bf : Nat → Nat → Bool) : Prop where
  irr : ∀ a, bf a a = false
  tr : ∀ a b c, bf a b = true → bf b c = true → bf a c = true
  nt : ∀ a b c, bf a b = false → bf b c = false → bf a c = false
theorem Bf.asym {bf : Nat → Nat → Bool} (h : Bf bf) {a b : Nat} (k : bf a b = true) : bf b a = false := by
  cases e : bf b a with
  | false => rfl
  | true => have := h.tr a b a k e; rw [h.irr] at this; cases this
def hat (h : List Nat) (i : Nat) : Nat := (h[i]?).getD 0
theorem hat_some {h : List Nat} {i : Nat} (hi : i < h.length) : h[i]? = some (hat h i) := by unfold hat; rw [List.getElem?_eq_getElem hi]; rfl
def par (c : Nat) : Nat := (c - 1) / 2
def swp (h : List Nat) (i j : Nat) : List Nat := (h.set i (hat h j)).set j (hat h i)
theorem swp_len (h : List Nat) (i j : Nat) : (swp h i j).length = h.length := by simp [swp]
theorem swp_hat {h : List Nat} {i j : Nat} (hi : i < h.length) (hj : j < h.length) (k : Nat) : hat (swp h i j) k = if k = j then hat h i else if k = i then hat h j else hat h k := by
  unfold swp hat
  rw [List.getElem?_set, List.getElem?_set]
  have hj' : j < (h.set i ((h[j]?).getD 0)).length := by simpa using hj
  by_cases e1 : k = j
  · subst e1; simp [hj]
  · have e1' : ¬ j = k := fun e => e1 e.symm
    by_cases e2 : k = i
    · subst e2; simp [e1, e1', hi]
    · have e2' : ¬ i = k := fun e => e2 e.symm
      simp [e1, e1', e2, e2']
theorem swp_perm {h : List Nat} {i j : Nat} (hi : i < h.length) (hj : j < h.length) : (swp h i j).Perm h := by
  have e1 : hat h j = h[j] := by unfold hat; rw [List.getElem?_eq_getElem hj]; rfl
  have e2 : hat h i = h[i] := by unfold hat; rw [List.getElem?_eq_getElem hi]; rfl
  unfold swp
  rw [e1, e2]
  exact List.set_set_perm hi hj
theorem swp_ge {h : List Nat} {i j k : Nat} (hi : i < k) (hj : j < k) : (swp h i j).drop k = h.drop k := by
  apply List.ext_getElem?
  intro m
  rw [List.getElem?_drop, List.getElem?_drop]
  unfold swp
  rw [List.getElem?_set_ne (by omega), List.getElem?_set_ne (by omega)]
def IsH (bf : Nat → Nat → Bool) (h : List Nat) (n : Nat) : Prop := ∀ c, 0 < c → c < n → bf (hat h c) (hat h (par c)) = false
def UpH (bf : Nat → Nat → Bool) (h : List Nat) (n j : Nat) : Prop := (∀ c, 0 < c → c < n → c ≠ j → bf (hat h c) (hat h (par c)) = false) ∧ ∀ c, 0 < c → c < n → par c = j → 0 < j → bf (hat h c) (hat h (par j)) = false
def DnH (bf : Nat → Nat → Bool) (h : List Nat) (n i : Nat) : Prop := (∀ c, 0 < c → c < n → par c ≠ i → bf (hat h c) (hat h (par c)) = false) ∧ ∀ c, 0 < c → c < n → par c = i → 0 < i → bf (hat h c) (hat h (par i)) = false
variable {bf : Nat → Nat → Bool} {h : List Nat} {n : Nat}
theorem par_lt {c : Nat} (hc : 0 < c) : par c < c := by unfold par; omega
/-- The root is not behind any other. -/
theorem IsH.root (hb : Bf bf) (hh : IsH bf h n) : ∀ c, c < n → bf (hat h c) (hat h 0) = false := by
  intro c
  induction c using Nat.strongRecOn with
  | _ c ih =>
    intro hc
    rcases Nat.eq_zero_or_pos c with h0 | h0
    · subst h0; exact hb.irr _
    · have hp := par_lt h0
      exact hb.nt _ _ _ (hh c h0 hc) (ih (par c) hp (by omega))
/-- A new element at the end. -/
theorem UpH.push {x : Nat} (hh : IsH bf h h.length) : UpH bf (h ++ [x]) (h ++ [x]).length ((h ++ [x]).length - 1) := by
  have hl : (h ++ [x]).length = h.length + 1 := by simp
  have e : ∀ k, k < h.length → hat (h ++ [x]) k = hat h k := fun k hk => by unfold hat; rw [List.getElem?_append_left hk]
  rw [hl]
  refine ⟨fun c h0 hc hne => ?_, fun c h0 hc hp => ?_⟩
  · have := par_lt h0
    rw [e c (by omega), e (par c) (by omega)]
    exact hh c h0 (by omega)
  · have := par_lt h0; omega
theorem UpH.done {j : Nat} (hu : UpH bf h n j) (hj : j = 0 ∨ bf (hat h j) (hat h (par j)) = false) : IsH bf h n := by
  intro c h0 hc
  by_cases e : c = j
  · subst e
    rcases hj with hj | hj
    · omega
    · exact hj
  · exact hu.1 c h0 hc e
theorem UpH.step (hb : Bf bf) {j : Nat} (hu : UpH bf h n j) (hn : n ≤ h.length) (hj0 : 0 < j) (hj : j < n) (hlt : bf (hat h j) (hat h (par j)) = true) : UpH bf (swp h (par j) j) n (par j) := by
  have hp := par_lt hj0
  have sw := swp_hat (h := h) (i := par j) (j := j) (by omega) (by omega)
  have has := hb.asym hlt
  refine ⟨fun c h0 hc hne => ?_, fun c h0 hc hpc hpp => ?_⟩
  · have hpc := par_lt h0
    rw [sw c, sw (par c)]
    by_cases e1 : c = j
    · subst e1
      rw [if_pos rfl, if_neg (by omega), if_pos rfl]
      exact has
    · rw [if_neg e1, if_neg hne]
      by_cases e2 : par c = j
      · rw [if_pos e2]
        exact hu.2 c h0 hc e2 hj0
      · rw [if_neg e2]
        by_cases e3 : par c = par j
        · rw [if_pos e3]
          have h1 := hu.1 c h0 hc e1
          rw [e3] at h1
          exact hb.nt _ _ _ h1 has
        · rw [if_neg e3]
          exact hu.1 c h0 hc e1
  · have hppj := par_lt hpp
    have h1 := hu.1 (par j) hpp (by omega) (by omega)
    have hpc' := par_lt h0
    rw [sw c, sw (par (par j)), if_neg (show par (par j) ≠ j by omega), if_neg (show par (par j) ≠ par j by omega)]
    by_cases e1 : c = j
    · rw [if_pos e1]
      exact h1
    · rw [if_neg e1, if_neg (by omega)]
      have h2 := hu.1 c h0 hc e1
      rw [hpc] at h2
      exact hb.nt _ _ _ h2 h1
/-- The last in the root's place. -/
theorem DnH.start (hh : IsH bf h (n + 1)) (hn : n < h.length) : DnH bf (swp h 0 n) n 0 := by
  have sw := swp_hat (h := h) (i := 0) (j := n) (by omega) hn
  refine ⟨fun c h0 hc hp => ?_, fun c h0 hc hp hp0 => ?_⟩
  · have := par_lt h0
    rw [sw c, sw (par c), if_neg (by omega), if_neg (by omega), if_neg (by omega), if_neg hp]
    exact hh c h0 (by omega)
  · omega
theorem par_child {c i : Nat} (h0 : 0 < c) (hp : par c = i) : c = 2 * i + 1 ∨ c = 2 * i + 2 := by unfold par at hp; omega
theorem DnH.done {i : Nat} (hd : DnH bf h n i) (hc : ∀ c, 0 < c → c < n → par c = i → bf (hat h c) (hat h i) = false) : IsH bf h n := by
  intro c h0 hcn
  by_cases e : par c = i
  · rw [e]; exact hc c h0 hcn e
  · exact hd.1 c h0 hcn e
/-- j is the child that is first. -/
structure Kid (bf : Nat → Nat → Bool) (h : List Nat) (n i j : Nat) : Prop where
  lt : j < n
  ch : j = 2 * i + 1 ∨ j = 2 * i + 2
  best : ∀ c, 0 < c → c < n → par c = i → bf (hat h c) (hat h j) = false
theorem DnH.stop (hb : Bf bf) {i j : Nat} (hd : DnH bf h n i) (hk : Kid bf h n i j) (hj : bf (hat h j) (hat h i) = false) : IsH bf h n :=
  hd.done fun c h0 hc hp => hb.nt _ _ _ (hk.best c h0 hc hp) hj
theorem DnH.step (hb : Bf bf) {i j : Nat} (hd : DnH bf h n i) (hn : n ≤ h.length) (hk : Kid bf h n i j) (hlt : bf (hat h j) (hat h i) = true) : DnH bf (swp h i j) n j := by
  have hij : i < j := by have := hk.ch; omega
  have hjn := hk.lt
  have hpj : par j = i := by have := hk.ch; unfold par; omega
  have sw := swp_hat (h := h) (i := i) (j := j) (by omega) (by omega)
  have has := hb.asym hlt
  refine ⟨fun c h0 hc hp => ?_, fun c h0 hc hp hj0 => ?_⟩
  · have hpc := par_lt h0
    rw [sw c, sw (par c)]
    by_cases e1 : c = j
    · subst e1
      rw [if_pos rfl, if_neg (by omega), if_pos hpj]
      exact has
    · rw [if_neg e1, if_neg hp]
      by_cases e2 : c = i
      · rw [if_pos e2, if_neg (by omega)]
        subst e2
        exact hd.2 j (by omega) hjn hpj h0
      · rw [if_neg e2]
        by_cases e3 : par c = i
        · rw [if_pos e3]
          exact hk.best c h0 hc e3
        · rw [if_neg e3]
          exact hd.1 c h0 hc e3
  · have hcj := par_lt h0
    rw [sw c, sw (par j), if_neg (by omega), if_neg (by omega), hpj, if_neg (by omega), if_pos rfl]
    have := hd.1 c h0 hc (by omega)
    rw [hp] at this
    exact this
/-- Which child the code takes. -/
theorem kid_left (hb : Bf bf) {i : Nat} (hl : 2 * i + 1 < n) (h2 : 2 * i + 2 < n → bf (hat h (2 * i + 2)) (hat h (2 * i + 1)) = false) : Kid bf h n i (2 * i + 1) :=
  ⟨hl, .inl rfl, fun c h0 hc hp => by
    rcases par_child h0 hp with e | e
    · rw [e]; exact hb.irr _
    · rw [e]; rw [e] at hc; exact h2 hc⟩
theorem kid_right (hb : Bf bf) {i : Nat} (hr : 2 * i + 2 < n) (h2 : bf (hat h (2 * i + 2)) (hat h (2 * i + 1)) = true) : Kid bf h n i (2 * i + 2) :=
  ⟨hr, .inr rfl, fun c h0 hc hp => by
    rcases par_child h0 hp with e | e
    · rw [e]; exact hb.asym h2
    · rw [e]; exact hb.irr _⟩
end Go.Proofs.Ng
end

section
/-
  Walks: the reference's grow.
-/
namespace Go.Proofs.Ng
open Go.RowKit

theorem info36 : (Tryz.prog.info? 57).map (fun i => (i.zero, i.size, i.bytes)) = some (some (.agg #[.int .i64 0, .int .i64 0, .int .i64 0, .int .i64 0]), 4, 32) := by kernel_rfl
theorem under23 : Tryz.prog.underlying 27 = some (.slice 57) := by kernel_rfl
/-- What the reference's grow answers. -/
def GrR (base : Nat) (v : Value) (R : List Nd × Int) (W : World) (e : Ending) (W' : World) : Prop :=
  ∃ v', e = .returned (.tuple #[v', .int .i64 R.2]) ∧ W'.ownsRow base 57 4 v' R.1.length (nflat R.1) ∧ W.grownBy W' v.ownBlock ∧ ∀ g, v'.ownBlock = some g → v.ownBlock = some g ∨ W.heap.size ≤ g
set_option maxRecDepth 100000 in
set_option maxHeartbeats 4000000 in
theorem grow31 {w0 : World} {oa : Option Addr} {ca base : Nat} {pts : List (List Int)} (hP : Pts w0 oa pts) (hvp : vpB pts = true) (hw0 : w0.heap.size ≤ base) :
    ∀ (f : Nat) (s : List Nat) (lev : Nat) (t : List Nd) (v : Value) (os : Option Addr) (cs : Nat) (W : World), s.length ≤ f → lev + s.length ≤ 100000 → t.length + s.length ≤ 100000 → (∀ x ∈ s, x < pts.length) → Below w0.heap.size w0 W → base ≤ W.heap.size → W.ownsRow base 57 4 v t.length (nflat t) → Sl W os 1 (nvals s) → s.length ≤ cs → (∀ b off q, os = some ⟨b, off, q⟩ → v.ownBlock ≠ some b) →
    Calls Tryz.prog 26 #[.slice oa pts.length ca, v, .slice os s.length cs, .int .i64 lev] W (GrR base v (growP pts f t s lev) W) := by
  intro f
  induction f with
  | zero =>
    intro s lev t v os cs W hf hlv hts hlt hB hbs ho hS hcs hne
    have hs0 : s = [] := List.length_eq_zero_iff.1 (by omega)
    subst hs0
    rw [growP_nil]
    go_enter Tryz.func26, Tryz.ntmps26
    go_wp2
    exact bodyPost_ret (v := .tuple #[v, .int .i64 (-1)]) (by simp [results, Tryz.results26, go_sem]) rfl ⟨v, rfl, ho, grown_of_below (Below.refl _ _), fun g hg => .inl hg⟩
  | succ f ih =>
    intro s lev t v os cs W hf hlv hts hlt hB hbs ho hS hcs hne
    by_cases hs0 : s = []
    · subst hs0
      rw [growP_nil]
      go_enter Tryz.func26, Tryz.ntmps26
      go_wp2
      exact bodyPost_ret (v := .tuple #[v, .int .i64 (-1)]) (by simp [results, Tryz.results26, go_sem]) rfl ⟨v, rfl, ho, grown_of_below (Below.refl _ _), fun g hg => .inl hg⟩
    · have hpos : 0 < s.length := List.length_pos_iff.2 hs0
      rw [growP_step hs0]
      obtain ⟨hp1024, hdim⟩ := vp_dim hvp
      obtain ⟨x0, hx0⟩ := List.exists_mem_of_length_pos hpos
      have hx0l := hlt x0 hx0
      obtain ⟨c0, hc0⟩ : ∃ c, pts[0]? = some c := ⟨_, List.getElem?_eq_getElem (by omega)⟩
      have hcd := hdim c0 (List.mem_of_getElem? hc0)
      obtain ⟨bp, offp, oc, cc, rfl, p0, lbp, -⟩ := (hP.keep hB).get hc0
      have hl0 : ((s.length : Int) == 0) = false := by simp; omega
      rw [hcd.1] at p0
      have hd1 : ((dimP pts : Int) == 0) = false := by simp; omega
      have hmod : ((lev : Int)).tmod (dimP pts : Int) = ((axP pts lev : Nat) : Int) := by
        unfold axP
        rw [Int.tmod_eq_emod_of_nonneg (by omega)]
        omega
      have hax : axP pts lev < dimP pts := Nat.mod_lt _ (by omega)
      have haxs : ∀ xs ∈ pts, axP pts lev < xs.length := fun xs hx => by rw [(hdim xs hx).1]; exact hax
      have haN : axP pts lev < 1000 := by omega
      rw [Nat.add_zero] at p0
      have hso := sorted58 (some ⟨bp, offp, none⟩) os ca cs pts s (axP pts lev) W (hP.keep hB) hS hlt haxs (by omega) haN (by omega)
      have HLT := Lib.hid hlt
      have HB := Lib.hid hB
      have HO := Lib.hid ho
      have HNE := Lib.hid hne
      have HSO := Lib.hid hso
      clear hlt hB ho hne hso hS hdim haxs hx0
      go_enter Tryz.func26, Tryz.ntmps26
      go_wp2_with fail
      with_reducible refine HSO.out.mono ?_
      rintro e W1 ⟨ol, cl, rfl, hcl, hSl, hB1, hfr⟩
      rw [srt_len] at hcl ⊢
      have hmid := mid_at (pts := pts) (a := axP pts lev) hpos
      obtain ⟨gl, offl, rfl, xm, lgl⟩ := nv_get hSl hmid
      have hgl := hfr _ rfl
      have ho1 := own_keep HO.out hB1
      have hBW1 : Below w0.heap.size w0 W1 := HB.out.trans (hB1.mono HB.out.size)
      obtain ⟨tb, ct, rfl, -⟩ := own_rows (rows := t.map Nd.vals) (nd_four t) (by rw [List.length_map]; exact ho1)
      rw [List.length_map] at ho1 HO HNE ⊢
      have hvg : ∀ g, (Value.slice tb t.length ct).ownBlock = some g → g < W.heap.size := fun g hg => (own_lt HO.out g hg).1
      generalize hmp : midP pts (axP pts lev) s = mp at xm
      obtain ⟨i0, hi, hz0, hz1, hz2⟩ := info_parts info36
      obtain ⟨k, hk⟩ : ∃ k, k = s.length / 2 := ⟨_, rfl⟩
      have hk0 : ((s.length : Int)).tdiv 2 = (k : Int) := by rw [Int.tdiv_eq_ediv_of_nonneg (by omega)]; omega
      have hkl : k < s.length := by omega
      rw [← hk] at xm
      have hba : Below W1.heap.size W1 (W1.alloc (.cells #[.int .i64 (mp : Nat), .int .i64 (axP pts lev : Nat), .int .i64 0, .int .i64 0] 57)) := (Below.refl _ _).alloc (Nat.le_refl _) _
      have HC := Lib.hid (own_keep ho1 hba)
      have HSL := Lib.hid (hSl.keep hba)
      have HBa := Lib.hid (hB1.trans (hba.mono hB1.size))
      have HK := Lib.hid hk
      have HMP := Lib.hid hmp
      have HG1 : Hid (∀ g, (Value.slice tb t.length ct).ownBlock = some g → g < W.heap.size) := Lib.hid hvg
      have hszl : W.heap.size ≤ W1.heap.size := hB1.size
      clear ho1 hba hSl hB1 hBW1 hk hmp hvg hmid
      go_wp2_with (at_builtin; refine wpList_append_own_at _ rfl _ _ 27 rfl base 57 i0 (.agg #[.int .i64 0, .int .i64 0, .int .i64 0, .int .i64 0]) 4 32 under23 hi hz0 hz1 hz2 rfl (by decide) _ _ _ rfl HC.out ⟨W1.heap.size, 0, none⟩ 1 1 [.int .i64 (mp : Nat), .int .i64 (axP pts lev : Nat), .int .i64 0, .int .i64 0] rfl rfl ?c1 ?c2 ?c3 ?c4 ?c5 ?_)
      case c1 => exact new_cells _ _ _
      case c2 => intro u hu; simp at hu; rcases hu with rfl | rfl | rfl <;> rfl
      case c3 => unfold maxLen; omega
      case c4 => omega
      case c5 => exact Nat.le_trans hbs HBa.out.size
      intro v1 W2 ho2 hg2 hn2 hob2
      have hgW2 : W.grownBy W2 (Value.slice tb t.length ct).ownBlock := grown_trans (grown_of_below HBa.out) hg2
      have hSl2 : Sl W2 (some ⟨gl, offl, none⟩) 1 (nvals (srt pts (axP pts lev) s)) := HSL.out.keepO hg2 (fun b off q e => by
        injection e with e; injection e with e _ _
        subst e
        intro h; have := HG1.out _ h; omega)
      have hB2 : Below w0.heap.size w0 W2 := (HB.out.trans (HBa.out.mono HB.out.size)).trans ((grown_below HC.out hg2 (Nat.le_trans hbs HBa.out.size)).mono hw0)
      have hbs2 : base ≤ W2.heap.size := Nat.le_trans hbs hgW2.size
      have hv1 : ∀ g, v1.ownBlock = some g → (Value.slice tb t.length ct).ownBlock = some g ∨ (W.heap.size ≤ g ∧ g ≠ gl) := fun g hg => by
        rcases hob2 with h | h
        · exact .inl (h ▸ hg)
        · rw [h] at hg
          injection hg with hg
          have : W1.heap.size + 1 ≤ (W1.alloc (.cells #[.int .i64 (mp : Nat), .int .i64 (axP pts lev : Nat), .int .i64 0, .int .i64 0] 57)).heap.size := by simp
          exact .inr ⟨by omega, by omega⟩
      obtain ⟨g1, c1, rfl⟩ := own_some ho2 (by omega)
      have ho2' : W2.ownsRow base 57 4 (.slice (some ⟨g1, 0, none⟩) (t.length + 1) c1) (t ++ [(⟨(mp : Nat), (axP pts lev : Nat), 0, 0⟩ : Nd)]).length (nflat (t ++ [⟨(mp : Nat), (axP pts lev : Nat), 0, 0⟩])) := by rw [nflat_snoc, List.length_append]; exact ho2
      have hlow := ih ((srt pts (axP pts lev) s).take k) (lev + 1) (t ++ [⟨(mp : Nat), (axP pts lev : Nat), 0, 0⟩]) (.slice (some ⟨g1, 0, none⟩) (t.length + 1) c1) (some ⟨gl, offl, none⟩) cl W2 (by rw [List.length_take, srt_len]; omega) (by rw [List.length_take, srt_len]; omega) (by rw [List.length_take, srt_len]; simp; omega) (fun x hx => HLT.out x (srt_mem.1 (List.mem_of_mem_take hx))) hB2 hbs2 ho2' (hSl2.take k) (by rw [List.length_take, srt_len]; omega) (fun b off q e => by
        injection e with e; injection e with e _ _
        subst e
        intro h
        rcases hv1 _ h with h1 | h1
        · have := HG1.out _ h1; omega
        · exact h1.2 rfl)
      have e1 : ((lev + 1 : Nat) : Int) = (lev : Int) + 1 := by omega
      have e2 : growP pts f (t ++ [⟨(mp : Nat), (axP pts lev : Nat), 0, 0⟩]) ((srt pts (axP pts lev) s).take k) (lev + 1) = lowP pts f t s lev := by rw [← HMP.out, HK.out]; rfl
      rw [e1, e2, List.length_take, srt_len, Nat.min_eq_left (by omega)] at hlow
      have HLOW := Lib.hid hlow
      have HS2 := Lib.hid hSl2
      have HGW2 := Lib.hid hgW2
      have HB2 := Lib.hid hB2
      have HV1 := Lib.hid hv1
      have hll := lowP_len (pts := pts) (t := t) (lev := lev) hf
      rw [← HK.out] at hll
      generalize hR1 : lowP pts f t s lev = R1 at HLOW hll ⊢
      have HR1 := Lib.hid hR1
      have HLL := Lib.hid hll
      clear hR1 hlow hSl2 hgW2 hB2 hv1 ho2 ho2' hob2 hn2 e1 e2 hll HC HSL HBa hi hz0 hz1 hz2 hg2
      go_wp2_with fail
      with_reducible refine HLOW.out.mono ?_
      rintro e W3 ⟨v2, rfl, ho3, hg3, hv3⟩
      obtain ⟨g2, c2, rfl⟩ := own_some ho3 (by rw [HLL.out]; omega)
      have hSl3 : Sl W3 (some ⟨gl, offl, none⟩) 1 (nvals (srt pts (axP pts lev) s)) := HS2.out.keepO hg3 (fun b off q e => by
        injection e with e; injection e with e _ _
        subst e
        intro h
        rcases HV1.out _ h with h1 | h1
        · have := HG1.out _ h1; omega
        · exact h1.2 rfl)
      have hgW3 : W.grownBy W3 (Value.slice tb t.length ct).ownBlock := grown_chain HGW2.out hg3 (fun g hg => by
        rcases HV1.out g hg with h1 | h1
        · exact .inl h1
        · exact .inr h1.1)
      have hv2 : ∀ g, (Value.slice (some ⟨g2, 0, none⟩) R1.1.length c2).ownBlock = some g → (Value.slice tb t.length ct).ownBlock = some g ∨ (W.heap.size ≤ g ∧ g ≠ gl) := fun g hg => by
        rcases hv3 g hg with h | h
        · exact HV1.out g h
        · have := HGW2.out.size
          have := HS2.out
          exact .inr ⟨by omega, fun e => by subst e; have := (HS2.out (by intro h0; simp [nvals] at h0; rw [← List.length_eq_zero_iff, srt_len] at h0; omega)); obtain ⟨b, off, e, hr⟩ := this; injection e with e; injection e with e _ _; have := hr.lt; omega⟩
      have hB3 : Below w0.heap.size w0 W3 := HB2.out.trans ⟨hg3.os, hg3.tape, hg3.output, hg3.size, fun q hq => hg3.block q (Nat.lt_of_lt_of_le hq HB2.out.size) (fun e => by
        have := HB.out.size
        rcases HV1.out q e.symm with h1 | h1
        · have := (own_lt HO.out q h1).2; omega
        · omega)⟩
      have hbs3 : base ≤ W3.heap.size := Nat.le_trans hbs hgW3.size
      have hhigh : ∀ o' c' : Nat, (o' = offl + (k + 1) ∨ s.length - (k + 1) = 0) → s.length - (k + 1) ≤ c' → _ := fun o' c' ho' hc' => ih ((srt pts (axP pts lev) s).drop (k + 1)) (lev + 1) R1.1 (.slice (some ⟨g2, 0, none⟩) R1.1.length c2) (some ⟨gl, o', none⟩) c' W3 (by rw [List.length_drop, srt_len]; omega) (by rw [List.length_drop, srt_len]; omega) (by rw [List.length_drop, srt_len, HLL.out]; omega) (fun x hx => HLT.out x (srt_mem.1 (List.mem_of_mem_drop hx))) hB3 hbs3 ho3 (by
          rcases ho' with h | h
          · rw [h]; exact hSl3.drop (k + 1)
          · have h0 : (srt pts (axP pts lev) s).drop (k + 1) = [] := List.length_eq_zero_iff.1 (by rw [List.length_drop, srt_len]; exact h)
            rw [h0]; exact fun h => absurd rfl h) (by rw [List.length_drop, srt_len]; omega) (fun b off q e => by
        injection e with e; injection e with e _ _
        subst e
        intro h
        rcases hv2 _ h with h1 | h1
        · have := HG1.out _ h1; omega
        · exact h1.2 rfl)
      have e1 : ((lev + 1 : Nat) : Int) = (lev : Int) + 1 := by omega
      have e2 : growP pts f R1.1 ((srt pts (axP pts lev) s).drop (k + 1)) (lev + 1) = highP pts f t s lev := by rw [← HR1.out, HK.out]; rfl
      rw [e1, e2, List.length_drop, srt_len] at hhigh
      have HHI := Lib.hid hhigh
      have HGW3 := Lib.hid hgW3
      have HV2 := Lib.hid hv2
      have hhl := highP_len (pts := pts) (t := t) (lev := lev) hf hpos
      generalize hR2 : highP pts f t s lev = R2 at HHI hhl ⊢
      have HR2 := Lib.hid hR2
      have HHL := Lib.hid hhl
      clear hR2 hhigh hSl3 hgW3 hv2 hB3 ho3 e1 e2 hhl HS2 HLOW HB2 HV1 HGW2 hg3 hv3
      by_cases hck : cl = k + 1
      · subst hck
        have hhj := HHI.out offl 0 (.inr (by omega)) (by omega)
        rw [show s.length - (k + 1) = 0 by omega] at hhj
        have HHJ := Lib.hid hhj
        clear HHI hhj
        go_wp2_with fail
        with_reducible refine HHJ.out.mono ?_
        rintro e W4 ⟨v3, rfl, ho4, hg4, hv4⟩
        obtain ⟨g3, c3, rfl⟩ := own_some ho4 (by rw [HHL.out]; omega)
        have hgW4 : W.grownBy W4 (Value.slice tb t.length ct).ownBlock := grown_chain HGW3.out hg4 (fun g hg => by
          rcases HV2.out g hg with h1 | h1
          · exact .inl h1
          · exact .inr h1.1)
        have hv3' : ∀ g, (Value.slice (some ⟨g3, 0, none⟩) R2.1.length c3).ownBlock = some g → (Value.slice tb t.length ct).ownBlock = some g ∨ W.heap.size ≤ g := fun g hg => by
          rcases hv4 g hg with h | h
          · rcases HV2.out g h with h1 | h1
            · exact .inl h1
            · exact .inr h1.1
          · have := HGW3.out.size; exact .inr (by omega)
        obtain ⟨nd, hnd⟩ : ∃ nd, R2.1[t.length]? = some nd := ⟨_, List.getElem?_eq_getElem (by rw [HHL.out]; omega)⟩
        have z2 : W4.cell? ⟨g3, t.length * 4 + 2, none⟩ = some (.int .i64 nd.lo) := own_at ho4 _ _ (nflat_at hnd (j := 2) rfl)
        have z3 : W4.cell? ⟨g3, t.length * 4 + 3, none⟩ = some (.int .i64 nd.hi) := own_at ho4 _ _ (nflat_at hnd (j := 3) rfl)
        have f2 := own_frozen ho4 (by rw [HHL.out]; omega) (t.length * 4 + 2)
        have f3 := own_frozen ho4 (by rw [HHL.out]; omega) (t.length * 4 + 3)
        have l3 := (own_lt ho4 g3 rfl).1
        have hog : (Value.slice tb t.length ct).ownBlock = some g3 ∨ W.heap.size ≤ g3 := hv3' g3 rfl
        have HF1 := Lib.hid (grown_setO (grown_setO hgW4 hog (t.length * 4 + 2) (.int .i64 R1.2)) hog (t.length * 4 + 3) (.int .i64 R2.2))
        have hFo := own_set1 (own_set1 ho4 (t.length * 4 + 2) (by rw [HHL.out]; omega) (.int .i64 R1.2)) (t.length * 4 + 3) (by rw [HHL.out]; omega) (.int .i64 R2.2)
        rw [nflat_lh (by rw [HHL.out]; omega)] at hFo
        have HFO := Lib.hid hFo
        have HV3 := Lib.hid hv3'
        have hi1 : ((t.length : Nat) : Int) < ((R2.1.length : Nat) : Int) := by rw [HHL.out]; omega
        clear hgW4 hv3' hFo hnd ho4 hog hg4 hv4 HHJ HGW3 HV2
        go_wp2_with fail
        refine bodyPost_ret (v := .tuple #[.slice (some ⟨g3, 0, none⟩) R2.1.length c3, .int .i64 t.length]) (by simp [results, Tryz.results26, go_sem]) rfl ?_
        rw [HR1.out, HR2.out, List.length_map]
        exact ⟨_, rfl, by rw [setLH_len]; exact HFO.out, HF1.out, HV3.out⟩
      · have HHJ := Lib.hid (HHI.out (offl + (k + 1)) (cl - (k + 1)) (.inl rfl) (by omega))
        clear HHI
        go_wp2_with fail
        with_reducible refine HHJ.out.mono ?_
        rintro e W4 ⟨v3, rfl, ho4, hg4, hv4⟩
        obtain ⟨g3, c3, rfl⟩ := own_some ho4 (by rw [HHL.out]; omega)
        have hgW4 : W.grownBy W4 (Value.slice tb t.length ct).ownBlock := grown_chain HGW3.out hg4 (fun g hg => by
          rcases HV2.out g hg with h1 | h1
          · exact .inl h1
          · exact .inr h1.1)
        have hv3' : ∀ g, (Value.slice (some ⟨g3, 0, none⟩) R2.1.length c3).ownBlock = some g → (Value.slice tb t.length ct).ownBlock = some g ∨ W.heap.size ≤ g := fun g hg => by
          rcases hv4 g hg with h | h
          · rcases HV2.out g h with h1 | h1
            · exact .inl h1
            · exact .inr h1.1
          · have := HGW3.out.size; exact .inr (by omega)
        obtain ⟨nd, hnd⟩ : ∃ nd, R2.1[t.length]? = some nd := ⟨_, List.getElem?_eq_getElem (by rw [HHL.out]; omega)⟩
        have z2 : W4.cell? ⟨g3, t.length * 4 + 2, none⟩ = some (.int .i64 nd.lo) := own_at ho4 _ _ (nflat_at hnd (j := 2) rfl)
        have z3 : W4.cell? ⟨g3, t.length * 4 + 3, none⟩ = some (.int .i64 nd.hi) := own_at ho4 _ _ (nflat_at hnd (j := 3) rfl)
        have f2 := own_frozen ho4 (by rw [HHL.out]; omega) (t.length * 4 + 2)
        have f3 := own_frozen ho4 (by rw [HHL.out]; omega) (t.length * 4 + 3)
        have l3 := (own_lt ho4 g3 rfl).1
        have hog : (Value.slice tb t.length ct).ownBlock = some g3 ∨ W.heap.size ≤ g3 := hv3' g3 rfl
        have HF1 := Lib.hid (grown_setO (grown_setO hgW4 hog (t.length * 4 + 2) (.int .i64 R1.2)) hog (t.length * 4 + 3) (.int .i64 R2.2))
        have hFo := own_set1 (own_set1 ho4 (t.length * 4 + 2) (by rw [HHL.out]; omega) (.int .i64 R1.2)) (t.length * 4 + 3) (by rw [HHL.out]; omega) (.int .i64 R2.2)
        rw [nflat_lh (by rw [HHL.out]; omega)] at hFo
        have HFO := Lib.hid hFo
        have HV3 := Lib.hid hv3'
        have hi1 : ((t.length : Nat) : Int) < ((R2.1.length : Nat) : Int) := by rw [HHL.out]; omega
        clear hgW4 hv3' hFo hnd ho4 hog hg4 hv4 HHJ HGW3 HV2
        go_wp2_with fail
        refine bodyPost_ret (v := .tuple #[.slice (some ⟨g3, 0, none⟩) R2.1.length c3, .int .i64 t.length]) (by simp [results, Tryz.results26, go_sem]) rfl ?_
        rw [HR1.out, HR2.out, List.length_map]
        exact ⟨_, rfl, by rw [setLH_len]; exact HFO.out, HF1.out, HV3.out⟩
end Go.Proofs.Ng
end

section
/-
  Walks: the reference's Build.
-/
namespace Go.Proofs.Ng
open Go.RowKit

def buildP (pts : List (List Int)) : List Nd := if vpB pts = true then (growP pts pts.length [] (List.range pts.length) 0).1 else []
/-- A new slice of nodes. -/
def NodesP (nodes : List Nd) (W : World) (e : Ending) (W' : World) : Prop := ∃ (ot : Option Addr) (ct : Nat), e = .returned (.slice ot nodes.length ct) ∧ nodes.length ≤ ct ∧ Sl W' ot 4 (nodes.map Nd.vals) ∧ Below W.heap.size W W' ∧ ∀ a, ot = some a → W.heap.size ≤ a.block
theorem own_nodes {W W' : World} {v : Value} {nodes : List Nd} (ho : W'.ownsRow W.heap.size 57 4 v nodes.length (nflat nodes)) (hb : Below W.heap.size W W') : NodesP nodes W (.returned v) W' := by
  obtain ⟨ot, ct, rfl, hs⟩ := own_rows (rows := nodes.map Nd.vals) (nd_four nodes) (by rw [List.length_map]; exact ho)
  rw [List.length_map] at ho ⊢
  exact ⟨ot, ct, rfl, (own_cap ho).1, hs, hb, own_fresh ho⟩
set_option maxRecDepth 100000 in
set_option maxHeartbeats 4000000 in
theorem refBuild12 (oa : Option Addr) (ca : Nat) (pts : List (List Int)) (w : World) (hP : Pts w oa pts) :
    Calls Tryz.prog 10 #[.slice oa pts.length ca] w (NodesP (buildP pts) w) := by
  by_cases hv : vpB pts = true
  · have hbp : buildP pts = (growP pts pts.length [] (List.range pts.length) 0).1 := by unfold buildP; rw [if_pos hv]
    obtain ⟨hp1024, -⟩ := vp_dim hv
    have h30 := validPoints30 oa ca pts w hP
    rw [hv] at h30
    have hgl := growP_len pts pts.length [] (List.range pts.length) 0 (by simp)
    have hgrow := fun (W : World) (ho : Below w.heap.size w W) (os : Option Addr) (cs : Nat) (hS : Sl W os 1 (nvals (List.range pts.length))) (hcs : pts.length ≤ cs) => grow31 hP hv (Nat.le_refl w.heap.size) (ca := ca) pts.length (List.range pts.length) 0 [] (.slice none 0 0) os cs W (by simp) (by simp; omega) (by simp; omega) (fun x hx => List.mem_range.1 hx) ho ho.size (World.ownsRow_nil _ _ _ _) hS (by simpa using hcs) (fun b off q _ h => by cases h)
    rw [List.length_range, show (((0 : Nat) : Int)) = 0 from rfl] at hgrow
    rw [hbp]
    generalize growP pts pts.length [] (List.range pts.length) 0 = R at hgrow hgl ⊢
    have HG := Lib.hid hgrow
    have HGL := Lib.hid hgl
    have H30 := Lib.hid h30
    clear hgrow hgl h30 hbp hv
    go_enter Tryz.func10, Tryz.ntmps10
    go_wp2_with fail
    with_reducible refine H30.out.mono ?_
    rintro e W1 ⟨rfl, q, rfl⟩
    have hB1 := below_drew w q
    generalize w.drewN q = W1 at hB1 ⊢
    go_wp2_with fail
    go_loopw [3, 4] (fun v i W => ∃ k : Nat, k ≤ pts.length ∧ i = .int .i64 (k : Nat) ∧ W.ownsRow w.heap.size 3 1 v k (nvals (List.range k)).flatten ∧ Below w.heap.size w W) (fun _ i _ => pts.length - (intOf i).toNat)
    case atStart => exact ⟨0, Nat.zero_le _, rfl, World.ownsRow_nil _ _ _ _, hB1⟩
    case round =>
      clear hB1
      obtain ⟨k, hk, rfl, hO, hB⟩ := hrel
      by_cases hlt : k < pts.length
      · obtain ⟨i0, hi, hz0, hz1, hz2⟩ := info_parts info3
        have hb2 : Below wr.heap.size wr (wr.alloc (.cells #[.int .i64 (k : Nat)] 3)) := (Below.refl _ _).alloc (Nat.le_refl _) _
        have HC2 := Lib.hid (own_keep hO hb2)
        have HBC := Lib.hid (below_call hB hb2)
        clear hO hB hb2
        go_wp2_with (at_builtin; refine wpList_append_own _ rfl _ _ 29 rfl w.heap.size 3 i0 (.int .i64 0) 1 8 under24 hi hz0 hz1 hz2 rfl (by decide) _ _ _ rfl HC2.out ⟨wr.heap.size, 0, none⟩ 1 1 [.int .i64 (k : Nat)] rfl rfl ?c1 ?c2 ?c3 ?c4 ?c5 ?_)
        case c1 => exact new_cells _ _ _
        case c2 => intro u hu; simp at hu; subst hu; rfl
        case c3 => unfold maxLen; omega
        case c4 => omega
        case c5 => exact HBC.out.size
        intro v' w' hown' hgrow _
        have HO : Hid (w'.ownsRow w.heap.size 3 1 v' (k + 1) (nvals (List.range (k + 1))).flatten) := Lib.hid (by
          have e : (nvals (List.range (k + 1))).flatten = (nvals (List.range k)).flatten ++ [.int .i64 (k : Nat)] := by simp [nvals_flat, List.range_succ]
          rw [e]; exact hown')
        have HB := Lib.hid (HBC.out.trans (grown_below HC2.out hgrow HBC.out.size))
        clear hown' hgrow HC2 HBC hi hz0 hz1 hz2
        go_wp2_with fail
        go_roundw
        case rel => exact ⟨k + 1, by omega, by simp, HO.out, HB.out⟩
        case measure => simp [intOf]; omega
      · have hke : k = pts.length := by omega
        subst hke
        obtain ⟨os, cs, rfl, hS⟩ := own_rows (nvals_one (List.range pts.length)) (by rw [nvals_len, List.length_range]; exact hO)
        rw [nvals_len, List.length_range] at hO ⊢
        have hcs := (own_cap hO).1
        have HGG := Lib.hid (HG.out wr hB os cs hS hcs)
        have HB := Lib.hid hB
        clear hO hS hcs hB HG
        go_wp2_with fail
        with_reducible refine HGG.out.mono ?_
        rintro e W2 ⟨v', rfl, ho2, hg2, -⟩
        have hB2 : Below w.heap.size w W2 := HB.out.trans ⟨hg2.os, hg2.tape, hg2.output, hg2.size, fun q hq => hg2.block q (Nat.lt_of_lt_of_le hq HB.out.size) (fun e => by cases e)⟩
        have HF := Lib.hid (own_nodes ho2 hB2)
        clear ho2 hg2 hB2
        go_wp2
        go_ret
        exact HF.out
  · have hv' : vpB pts = false := by simpa using hv
    have hbp : buildP pts = [] := by unfold buildP; rw [if_neg hv]
    rw [hbp]
    have h30 := validPoints30 oa ca pts w hP
    rw [hv'] at h30
    have H30 := Lib.hid h30
    clear h30 hv hv' hbp
    go_enter Tryz.func10, Tryz.ntmps10
    go_wp2_with fail
    with_reducible refine H30.out.mono ?_
    rintro e W1 ⟨rfl, q, rfl⟩
    go_wp2
    go_ret
    exact ⟨none, 0, rfl, Nat.le_refl _, fun h => absurd rfl h, below_drew w q, fun a h => by cases h⟩
end Go.Proofs.Ng
end

section
/-
  The library sort by a function, laid at this program in plain words (printed by lay-plain.mjs).
-/
namespace Go.Proofs
open Go.Shelf
def Tryz.sortL_ren : Go.Shelf.Ren := ⟨fun | 6 => 30 | 15 => 64 | 14 => 63 | 28 => 87 | 29 => 88 | 20 => 79 | 21 => 80 | 22 => 81 | 23 => 82 | 24 => 83 | 25 => 84 | 26 => 85 | 27 => 86 | 46 => 107 | 47 => 108 | 48 => 109 | 49 => 110 | 50 => 111 | 57 => 121 | n => n, fun | 22 => 29 | 24 => 3 | 25 => 36 | 3 => 3 | 39 => 50 | 0 => 0 | 53 => 117 | 55 => 119 | 4 => 4 | 46 => 110 | 45 => 109 | 50 => 114 | 5 => 5 | 9 => 9 | 66 => 139 | 70 => 143 | 76 => 151 | 77 => 152 | n => n, fun | n => n⟩
theorem Tryz.sortL : Go.Proofs.SlLaysF.n6 Tryz.prog Tryz.sortL_ren := {
  mixed := by kernel_rfl
  f6 := ⟨Tryz.f30.name, by decide, Tryz.func30.trans (congrArg some (by kernel_rfl))⟩
  f14 := ⟨Tryz.f63.name, by decide, Tryz.func63.trans (congrArg some (by kernel_rfl))⟩
  f15 := Tryz.func64.trans (congrArg some (by kernel_rfl))
  f20 := ⟨Tryz.f79.name, by decide, Tryz.func79.trans (congrArg some (by kernel_rfl))⟩
  f21 := ⟨Tryz.f80.name, by decide, Tryz.func80.trans (congrArg some (by kernel_rfl))⟩
  f22 := ⟨Tryz.f81.name, by decide, Tryz.func81.trans (congrArg some (by kernel_rfl))⟩
  f23 := ⟨Tryz.f82.name, by decide, Tryz.func82.trans (congrArg some (by kernel_rfl))⟩
  f24 := ⟨Tryz.f83.name, by decide, Tryz.func83.trans (congrArg some (by kernel_rfl))⟩
  f25 := ⟨Tryz.f84.name, by decide, Tryz.func84.trans (congrArg some (by kernel_rfl))⟩
  f26 := ⟨Tryz.f85.name, by decide, Tryz.func85.trans (congrArg some (by kernel_rfl))⟩
  f27 := ⟨Tryz.f86.name, by decide, Tryz.func86.trans (congrArg some (by kernel_rfl))⟩
  f28 := Tryz.func87.trans (congrArg some (by kernel_rfl))
  f29 := Tryz.func88.trans (congrArg some (by kernel_rfl))
  f46 := ⟨Tryz.f107.name, by decide, Tryz.func107.trans (congrArg some (by kernel_rfl))⟩
  f47 := Tryz.func108.trans (congrArg some (by kernel_rfl))
  f48 := Tryz.func109.trans (congrArg some (by kernel_rfl))
  f49 := ⟨Tryz.f110.name, by decide, Tryz.func110.trans (congrArg some (by kernel_rfl))⟩
  f50 := ⟨Tryz.f111.name, by decide, Tryz.func111.trans (congrArg some (by kernel_rfl))⟩
  f57 := ⟨Tryz.f121.name, by decide, Tryz.func121.trans (congrArg some (by kernel_rfl))⟩
  t0 := Tryz.underlying0
  a0 := Tryz.isAgg0
  z0 := Tryz.sizeOf0
  v0 := Tryz.zeroValue0
  t3 := Tryz.underlying3
  a3 := Tryz.isAgg3
  z3 := Tryz.sizeOf3
  v3 := Tryz.zeroValue3
  t4 := Tryz.underlying4
  a4 := Tryz.isAgg4
  z4 := Tryz.sizeOf4
  v4 := Tryz.zeroValue4
  t5 := Tryz.underlying5
  a5 := Tryz.isAgg5
  z5 := Tryz.sizeOf5
  v5 := Tryz.zeroValue5
  t9 := Tryz.underlying9
  a9 := Tryz.isAgg9
  z9 := Tryz.sizeOf9
  v9 := Tryz.zeroValue9
  t22 := Tryz.underlying29
  a22 := Tryz.isAgg29
  z22 := Tryz.sizeOf29
  v22 := Tryz.zeroValue29
  a24 := Tryz.isAgg3
  z24 := Tryz.sizeOf3
  t25 := Tryz.underlying36
  a25 := Tryz.isAgg36
  z25 := Tryz.sizeOf36
  v25 := Tryz.zeroValue36
  t39 := Tryz.underlying50
  a39 := Tryz.isAgg50
  z39 := Tryz.sizeOf50
  v39 := Tryz.zeroValue50
  t45 := Tryz.underlying109
  a45 := Tryz.isAgg109
  z45 := Tryz.sizeOf109
  v45 := Tryz.zeroValue109
  t46 := Tryz.underlying110
  a46 := Tryz.isAgg110
  z46 := Tryz.sizeOf110
  v46 := Tryz.zeroValue110
  t50 := Tryz.underlying114
  a50 := Tryz.isAgg114
  z50 := Tryz.sizeOf114
  v50 := Tryz.zeroValue114
  t53 := Tryz.underlying117
  a53 := Tryz.isAgg117
  z53 := Tryz.sizeOf117
  v53 := Tryz.zeroValue117
  t55 := Tryz.underlying119
  a55 := Tryz.isAgg119
  z55 := Tryz.sizeOf119
  v55 := Tryz.zeroValue119
  t66 := Tryz.underlying139
  a66 := Tryz.isAgg139
  z66 := Tryz.sizeOf139
  v66 := Tryz.zeroValue139
  t70 := Tryz.underlying143
  a70 := Tryz.isAgg143
  z70 := Tryz.sizeOf143
  v70 := Tryz.zeroValue143
  t76 := Tryz.underlying151
  a76 := Tryz.isAgg151
  z76 := Tryz.sizeOf151
  v76 := Tryz.zeroValue151
  t77 := Tryz.underlying152
  a77 := Tryz.isAgg152
  z77 := Tryz.sizeOf152
  v77 := Tryz.zeroValue152 }
end Go.Proofs
end

