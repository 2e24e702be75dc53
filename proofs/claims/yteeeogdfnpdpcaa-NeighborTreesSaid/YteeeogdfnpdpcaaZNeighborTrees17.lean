/-
  Texts put together: Ce Bn Bo Bp.
-/
import Derived.Test.YteeeogdfnpdpcaaZNeighborTrees16
import Derived.Test.YteeeogdfnpdpcaaZNeighborTrees15
import Derived.Defers
import Derived.Recover
set_option linter.unusedVariables false
section
/-
  Walks: ordered.
-/
namespace Go.Proofs.Ng
open Go.RowKit

/-! the order of a node and one above it -/
theorem bef_flip {pts : List (List Int)} {a i j : Nat} (h : i ≠ j) : bef pts a i j = !bef pts a j i := by
  unfold bef
  rw [Bool.eq_iff_iff]
  simp only [decide_eq_true_eq, Bool.not_eq_true', decide_eq_false_iff_not]
  omega
/-- Node i below u by its child c. -/
def SideC (pts : List (List Int)) (t : List Nd) (u c i : Nat) : Prop := ∀ x y : Nd, t[u]? = some x → t[i]? = some y → (x.lo = (c : Nat) → bef pts x.ax.toNat y.pt.toNat x.pt.toNat = true) ∧ (x.hi = (c : Nat) → bef pts x.ax.toNat x.pt.toNat y.pt.toNat = true)
theorem kdO_iff (pts : List (List Int)) (t : List Nd) : KdO pts t ↔ ∀ i, i < t.length → ∀ u c, Lk t u c → Dn t c i → SideC pts t u c i := by
  constructor
  · intro h i _ u c _ hd x y hx hy
    exact ⟨fun e => (h u x i y hx hy).1 c e hd, fun e => (h u x i y hx hy).2 c e hd⟩
  · intro h u x j y hx hy
    have hj := (List.getElem?_eq_some_iff.1 hy).1
    exact ⟨fun c e hd => (h j hj u c ⟨x, hx, .inl e⟩ hd x y hx hy).1 e, fun c e hd => (h j hj u c ⟨x, hx, .inr e⟩ hd x y hx hy).2 e⟩
theorem sideC_iff {d : Nat} {pts : List (List Int)} {t : List Nd} (hK : KdS d t) {u c i a pu pi : Nat} {ul uh yl yh ya : Int} (hx : t[u]? = some ⟨(pu : Nat), (a : Nat), ul, uh⟩) (hy : t[i]? = some ⟨(pi : Nat), ya, yl, yh⟩) (hl : Lk t u c) (hd : Dn t c i) :
    SideC pts t u c i ↔ bef pts a pi pu = decide ((c : Int) = ul) := by
  have hui : u < i := by have := (hK.up.lk hl).1; have := hd.le hK.up; omega
  have hne : pi ≠ pu := fun e => by
    have := hK.pts u i _ _ hx hy (by simp only; rw [e])
    omega
  obtain ⟨x, hx', hc⟩ := hl
  rw [hx] at hx'
  injection hx' with hx'
  subst hx'
  have hdf := hK.diff u _ hx
  simp only at hc hdf
  constructor
  · intro h
    obtain ⟨h1, h2⟩ := h _ _ hx hy
    simp only [Int.toNat_natCast] at h1 h2
    by_cases e : (c : Int) = ul
    · rw [decide_eq_true e]; exact h1 e.symm
    · rw [decide_eq_false e, bef_flip hne, h2 (by omega)]; rfl
  · intro h x y hx' hy'
    rw [hx] at hx'; injection hx' with hx'; subst hx'
    rw [hy] at hy'; injection hy' with hy'; subst hy'
    simp only [Int.toNat_natCast]
    refine ⟨fun e => by rw [h, decide_eq_true e.symm], fun e => ?_⟩
    rw [bef_flip (fun e => hne e.symm), h, decide_eq_false (by omega)]; rfl
/-- What is checked on the way up from node i. -/
def OrdI (pts : List (List Int)) (t : List Nd) (i c : Nat) : Prop := Dn t c i ∧ ∀ u c', Lk t u c' → Dn t c' i → Dn t c' c ∨ SideC pts t u c' i
theorem OrdI.start (pts : List (List Int)) (t : List Nd) (i : Nat) : OrdI pts t i i := ⟨.self, fun _ _ _ h => .inl h⟩
theorem OrdI.next {d : Nat} {pts : List (List Int)} {t : List Nd} (hK : KdS d t) {i c u : Nat} (h : OrdI pts t i c) (hl : Lk t u c) (hs : SideC pts t u c i) : OrdI pts t i u := by
  refine ⟨(Dn.self.step hl).trans h.1, fun u' c' hl' hd' => ?_⟩
  rcases h.2 u' c' hl' hd' with h1 | h1
  · cases h1 with
    | self =>
      have := hK.uniq u u' _ hl hl'
      subst this
      exact .inr hs
    | step h2 hl2 =>
      have := hK.uniq _ _ _ hl hl2
      subst this
      exact .inl h2
  · exact .inr h1
theorem OrdI.fin {d : Nat} {pts : List (List Int)} {t : List Nd} (hK : KdS d t) {i : Nat} (h : OrdI pts t i 0) : ∀ u c, Lk t u c → Dn t c i → SideC pts t u c i := by
  intro u c hl hd
  rcases h.2 u c hl hd with h1 | h1
  · have := h1.le hK.up
    have := (hK.up.lk hl).1
    omega
  · exact h1
/-- The parents' row. -/
def AbOk (t : List Nd) (ab : List Int) : Prop := ∀ c : Nat, c < t.length → (ab[c]? = some (-1) ∧ c = 0) ∨ ∃ p : Nat, ab[c]? = some ((p : Nat) : Int) ∧ Lk t p c
def upOk (t : List Nd) (c : Nat) (up : Int) : Prop := (up = -1 ∧ c = 0) ∨ ∃ p : Nat, up = (p : Nat) ∧ Lk t p c
theorem ab_up {t : List Nd} {ab : List Int} (h : AbOk t ab) {c : Nat} (hc : c < t.length) : ∃ up, ab[c]? = some up ∧ upOk t c up := by
  rcases h c hc with ⟨h1, h2⟩ | ⟨p, h1, h2⟩
  · exact ⟨-1, h1, .inl ⟨rfl, h2⟩⟩
  · exact ⟨_, h1, .inr ⟨p, rfl, h2⟩⟩
set_option maxRecDepth 100000 in
set_option maxHeartbeats 4000000 in
theorem ordered34 (oa ot : Option Addr) (ca ct g cg : Nat) (pts : List (List Int)) (t : List Nd) (ab : List Int) (w : World) (hP : Pts w oa pts) (hT : Sl w ot 4 (t.map Nd.vals)) (hl : t.length = pts.length) (hv : vpB pts = true) (hK : KdS (dimP pts) t) (hab : AbOk t ab) (hB : Blk w g (pflat ab)) :
    Calls Try.prog 34 #[.slice oa pts.length ca, .slice ot t.length ct, .slice (some ⟨g, 0, none⟩) t.length cg] w (VerP (KdO pts t) w) := by
  obtain ⟨hp1024, hdim⟩ := vp_dim hv
  have htl : t.length ≤ 1024 := by omega
  have HP := Lib.hid hP
  have HTr := Lib.hid hT
  have HD := Lib.hid hdim
  have HK := Lib.hid hK
  have HAB := Lib.hid hab
  have HB := Lib.hid hB
  have HL := Lib.hid hl
  clear hP hT hdim hl hv hK hab hB
  go_enter Try.func34, Try.ntmps34
  go_wp2_with fail
  go_loopw [14] (fun i W => ∃ k : Nat, i = .int .i64 (k : Nat) ∧ k ≤ t.length ∧ Below w.heap.size w W ∧ ∀ j, j < k → ∀ u c, Lk t u c → Dn t c j → SideC pts t u c j) (fun i _ => t.length - (intOf i).toNat)
  case atStart => exact ⟨0, rfl, Nat.zero_le _, Below.refl _ _, fun j h => absurd h (Nat.not_lt_zero _)⟩
  case round =>
    obtain ⟨k, rfl, hk, hB, hdone⟩ := hrel
    obtain ⟨Wb, rfl⟩ : ∃ X, X = wr := ⟨_, rfl⟩
    have HDN := Lib.hid hdone
    clear hdone
    by_cases hlt : k < t.length
    · obtain ⟨y, hy⟩ : ∃ y, t[k]? = some y := ⟨_, List.getElem?_eq_getElem hlt⟩
      have hok := HK.out.ok k y hy
      obtain ⟨yp, ya, yl, yh⟩ := y
      obtain ⟨pi, rfl⟩ : ∃ p : Nat, yp = (p : Nat) := ⟨yp.toNat, by have := hok.p0; simp only at this; omega⟩
      have hpi : pi < t.length := by have := hok.p1; simp only at this; omega
      obtain ⟨bt, offt, rfl, hTr⟩ := HTr.out (map_ne hlt)
      have hTr2 := hTr.keep hB
      have x0 : Wb.cell? ⟨bt, offt + k * 4, none⟩ = some (.int .i64 (pi : Nat)) := hTr2.c k _ (map_get hy) 0 _ rfl
      have x1 : Wb.cell? ⟨bt, offt + k * 4 + 1, none⟩ = some (.int .i64 ya) := hTr2.c k _ (map_get hy) 1 _ rfl
      have x2 : Wb.cell? ⟨bt, offt + k * 4 + 2, none⟩ = some (.int .i64 yl) := hTr2.c k _ (map_get hy) 2 _ rfl
      have x3 : Wb.cell? ⟨bt, offt + k * 4 + 3, none⟩ = some (.int .i64 yh) := hTr2.c k _ (map_get hy) 3 _ rfl
      have lt0 := hTr2.lt
      obtain ⟨up, hup, hupo⟩ := ab_up HAB.out hlt
      have HY := Lib.hid hy
      have HT0 := Lib.hid hTr
      clear hTr hTr2 hy hok
      go_upto_region 4 with fail
      clear x0 x1 x2 x3 lt0
      have hbx_ := blks1 Wb [.int .i64 (pi : Nat), .int .i64 ya, .int .i64 yl, .int .i64 yh] 36
      have HB3 := Lib.hid (below_call hB hbx_.2)
      have hod : Wb.heap.size ≤ Wb.heap.size := by omega
      generalize Wb.alloc (.cells #[.int .i64 (pi : Nat), .int .i64 ya, .int .i64 yl, .int .i64 yh] 36) = W3 at hbx_ HB3 ⊢
      obtain ⟨r8, hbel_⟩ := hbx_
      obtain ⟨n8, hn_⟩ : ∃ n, n = Wb.heap.size := ⟨_, rfl⟩
      rw [← hn_] at r8 ⊢
      replace hod := Nat.le_of_eq hn_.symm
      clear hn_ hbel_
      have hg3 := HB.out.keep HB3.out
      have z0 : W3.cell? ⟨g, k, none⟩ = some (.int .i64 up) := hg3.c k _ (pfl_get hup)
      have lg := hg3.lt
      clear hg3 hod hB
      go_quiet (fail)
      have hr8 := r8.keep (below_drew W3 nq)
      have hB4 := below_call HB3.out (below_drew W3 nq)
      clear z0 lg r8 HB3
      generalize W3.drewN nq = W4 at hr8 hB4 ⊢
      go_wp2_with fail
      go_loopw [9, 10] (fun ch up W => ∃ (c : Nat) (u : Int), ch = .int .i64 (c : Nat) ∧ up = .int .i64 u ∧ upOk t c u ∧ OrdI pts t k c ∧ Below w.heap.size w W ∧ Blk W n8 [.int .i64 (pi : Nat), .int .i64 ya, .int .i64 yl, .int .i64 yh]) (fun ch _ _ => (intOf ch).toNat)
      case atStart => exact ⟨k, up, rfl, rfl, hupo, OrdI.start _ _ _, hB4, hr8⟩
      case round =>
        clear hr8 hB4 hup hupo
        obtain ⟨c, u, rfl, rfl, hupo, hO, hB5, r8⟩ := hrel
        obtain ⟨Wc, rfl⟩ : ∃ X, X = wr := ⟨_, rfl⟩
        rcases hupo with ⟨rfl, rfl⟩ | ⟨p, rfl, hlk⟩
        · have HN := Lib.hid (hO.fin HK.out)
          clear hO r8
          go_wp2_with fail
          go_roundw
          case rel =>
            refine ⟨k + 1, by simp, by omega, hB5, fun j hj => ?_⟩
            rcases Nat.lt_or_ge j k with h | h
            · exact HDN.out j h
            · have : j = k := by omega
              subst this
              exact HN.out
          case measure => simp [intOf]; omega
        · have hd1 : ((p : Int) != -1) = true := by simp
          obtain ⟨x, hu, hc⟩ := id hlk
          have hok := HK.out.ok p x hu
          have hcl := HK.out.up.lk hlk
          obtain ⟨xp, xa, ul, uh⟩ := x
          obtain ⟨pu, rfl⟩ : ∃ q : Nat, xp = (q : Nat) := ⟨xp.toNat, by have := hok.p0; simp only at this; omega⟩
          obtain ⟨a, rfl⟩ : ∃ q : Nat, xa = (q : Nat) := ⟨xa.toNat, by have := hok.a0; simp only at this; omega⟩
          have hpu : pu < t.length := by have := hok.p1; simp only at this; omega
          have hal : a < dimP pts := by have := hok.a1; simp only at this; omega
          have hdp : dimP pts ≤ 10 := by
            obtain ⟨c0, hc0⟩ : ∃ c, pts[0]? = some c := ⟨_, List.getElem?_eq_getElem (by have := HL.out; omega)⟩
            exact (HD.out c0 (List.mem_of_getElem? hc0)).2.2
          have hside := sideC_iff (pts := pts) HK.out hu HY.out hlk hO.1
          have hT5 := HT0.out.keep hB5
          have x1 : Wc.cell? ⟨bt, offt + p * 4 + 1, none⟩ = some (.int .i64 (a : Nat)) := hT5.c p _ (map_get hu) 1 _ rfl
          have x0 : Wc.cell? ⟨bt, offt + p * 4, none⟩ = some (.int .i64 (pu : Nat)) := hT5.c p _ (map_get hu) 0 _ rfl
          have x2 : Wc.cell? ⟨bt, offt + p * 4 + 2, none⟩ = some (.int .i64 ul) := hT5.c p _ (map_get hu) 2 _ rfl
          have lt1 := hT5.lt
          have y0 : Wc.cell? ⟨n8, 0, none⟩ = some (.int .i64 (pi : Nat)) := r8.c 0 _ rfl
          have l8 := r8.lt
          have hpl : (p : Int) < (t.length : Int) := by have := (List.getElem?_eq_some_iff.1 hu).1; omega
          have hord : ∀ X, Gr Wc X → _ := fun X hX => order29 oa ca pts a pi pu X (HP.out.keep (below_call hB5 hX.below)) (by have := HL.out; omega) (by have := HL.out; omega) (fun xs hx => by rw [(HD.out xs hx).1]; exact hal) (by omega) (by omega)
          have hmk : ∀ Y, Gr Wc Y → Y.cell? ⟨bt, offt + p * 4 + 1, none⟩ = some (.int .i64 (a : Nat)) ∧ Y.cell? ⟨bt, offt + p * 4, none⟩ = some (.int .i64 (pu : Nat)) ∧ Y.cell? ⟨n8, 0, none⟩ = some (.int .i64 (pi : Nat)) ∧ Gr Wc Y :=
            fun Y hY => ⟨(hY.below.cell (p := ⟨bt, offt + p * 4 + 1, none⟩) lt1).trans x1, (hY.below.cell (p := ⟨bt, offt + p * 4, none⟩) lt1).trans x0, (hY.below.cell (p := ⟨n8, 0, none⟩) l8).trans y0, hY⟩
          have hS := hmk Wc (Gr.refl Wc)
          have HMK := Lib.hid hmk
          have HORD := Lib.hid hord
          have HSI := Lib.hid hside
          have HO := Lib.hid hO
          have HB5 := Lib.hid hB5
          have HR8 := Lib.hid r8
          have HLK := Lib.hid hlk
          have HU := Lib.hid hu
          clear hmk hord hside hO hB5 r8 hT5 hc hok hlk hu
          go_upto_region 7 with fail
          go_cut [11] (fun y X => y = .int .i64 (ordI pts a pi pu) ∧ Gr Wc X)
          case first =>
            clear x0 x1 x2 y0
            go_region_held3 (fun Y => Y.cell? ⟨bt, offt + p * 4 + 1, none⟩ = some (.int .i64 (a : Nat)) ∧ Y.cell? ⟨bt, offt + p * 4, none⟩ = some (.int .i64 (pu : Nat)) ∧ Y.cell? ⟨n8, 0, none⟩ = some (.int .i64 (pi : Nat)) ∧ Gr Wc Y)
              (first
                | assumption
                | exact HMK.out _ (by repeat (first | assumption | exact Gr.refl _ | apply Gr.drew | exact (by assumption : _ ∧ _ ∧ _ ∧ Gr Wc _).2.2.2)))
              (first
                | (go_at_call 29; refine (HORD.out _ (by assumption : _ ∧ _ ∧ _ ∧ Gr Wc _).2.2.2).mono ?_; rintro e Xa ⟨rfl, hgr⟩; replace hgr := Gr.trans (by assumption : _ ∧ _ ∧ _ ∧ Gr Wc _).2.2.2 hgr))
            all_goals
              go_wp2_with fail
              go_meet
              exact ⟨rfl, hgr⟩
          case rest =>
            clear x0 x1 y0 hS HMK HORD
            obtain ⟨rfl, hgr⟩ := hcut
            have x2 := (hgr.below.cell (p := ⟨bt, offt + p * 4 + 2, none⟩) lt1).trans x2
            have lt1 := Nat.lt_of_lt_of_le lt1 hgr.below.size
            have hB6 := below_call HB5.out hgr.below
            have r8 := HR8.out.keep hgr.below
            obtain ⟨up2, hup2, hupo2⟩ := ab_up HAB.out (show p < t.length by omega)
            have hg3 := HB.out.keep hB6
            have z0 : wc.cell? ⟨g, p, none⟩ = some (.int .i64 up2) := hg3.c p _ (pfl_get hup2)
            have lg := hg3.lt
            have hbb := ordI_lt pts a pi pu
            generalize ordI pts a pi pu = q at hbb ⊢
            have HB6 := Lib.hid hB6
            have HR8b := Lib.hid r8
            have HUO := Lib.hid hupo2
            by_cases hsi : SideC pts t p c k
            · have HSC := Lib.hid (HO.out.next HK.out HLK.out hsi)
              have hbd := HSI.out.1 hsi
              rw [hbd] at hbb
              clear hgr hB6 r8 hg3 hupo2 hsi hbd
              by_cases e : (c : Int) = ul
              · rw [decide_eq_true e] at hbb
                have e2 : ((c : Int) == ul) = true := by simp [e]
                clear e
                go_wp2_with fail
                go_quiet (fail)
                go_wp2_with fail
                go_roundw
                case rel => exact ⟨p, up2, rfl, rfl, HUO.out, HSC.out, below_call HB6.out (below_drew wc nq), HR8b.out.keep (below_drew wc nq)⟩
                case measure => simp [intOf]; omega
              · rw [decide_eq_false e] at hbb
                have e2 : ((c : Int) == ul) = false := by simp [e]
                clear e
                go_wp2_with fail
                go_quiet (fail)
                go_wp2_with fail
                go_roundw
                case rel => exact ⟨p, up2, rfl, rfl, HUO.out, HSC.out, below_call HB6.out (below_drew wc nq), HR8b.out.keep (below_drew wc nq)⟩
                case measure => simp [intOf]; omega
            · have HNO : Hid (¬ KdO pts t) := Lib.hid (fun h => hsi ((kdO_iff pts t).1 h k hlt p c HLK.out HO.out.1))
              have hbd : bef pts a pi pu ≠ decide ((c : Int) = ul) := fun h => hsi (HSI.out.2 h)
              clear hgr hB6 r8 hg3 hupo2 hsi
              by_cases e : (c : Int) = ul
              · rw [decide_eq_true e] at hbd
                have hb2 : bef pts a pi pu = false := by simpa using hbd
                rw [hb2] at hbb
                have e2 : ((c : Int) == ul) = true := by simp [e]
                clear e hb2 hbd
                go_wp2_with fail
                go_ret
                exact verP_no HNO.out HB6.out
              · rw [decide_eq_false e] at hbd
                have hb2 : bef pts a pi pu = true := by simpa using hbd
                rw [hb2] at hbb
                have e2 : ((c : Int) == ul) = false := by simp [e]
                clear e hb2 hbd
                go_wp2_with fail
                go_ret
                exact verP_no HNO.out HB6.out
    · have hke : k = t.length := by omega
      subst hke
      have HF := Lib.hid ((kdO_iff pts t).2 HDN.out)
      go_wp2_with fail
      go_ret
      exact verP_yes HF.out hB
end Go.Proofs.Ng
end

section
/-
  Walks: Build's grow: the state; the plain facts of its parts.
-/
namespace Go.Proofs.Ng
open Go.RowKit

/-- What stands where: the boxes of points, tree and grow, and the set; base lies behind them. -/
structure Pl (w0 : World) (base b1 b2 b5 bs : Nat) : Prop where
  p1 : w0.heap.size ≤ b1 ∧ b1 < base
  p2 : w0.heap.size ≤ b2 ∧ b2 < base
  p5 : w0.heap.size ≤ b5 ∧ b5 < base
  ps : w0.heap.size ≤ bs ∧ bs < base
  n12 : b1 ≠ b2
  n15 : b1 ≠ b5
  n1s : b1 ≠ bs
  n25 : b2 ≠ b5
  n2s : b2 ≠ bs
  n5s : b5 ≠ bs
def growV (b1 b2 b5 : Nat) : Value := .func (.func 26) #[] #[.pointer (some ⟨b1, 0, none⟩), .pointer (some ⟨b2, 0, none⟩), .pointer (some ⟨b5, 0, none⟩)]
/-- The world of Build's grow. -/
structure GW (w0 : World) (base b1 b2 b5 bs : Nat) (oa : Option Addr) (n ca : Nat) (c : List Nat) (t : List Nd) (v : Value) (W : World) : Prop where
  bel : Below w0.heap.size w0 W
  k1 : Blk W b1 [.slice oa n ca]
  k2 : Blk W b2 [v]
  k5 : Blk W b5 [growV b1 b2 b5]
  own : W.ownsRow base 36 4 v t.length (nflat t)
  set : Blk W bs (cvs c)
  hb : base ≤ W.heap.size
variable {w0 : World} {base b1 b2 b5 bs n ca : Nat} {oa : Option Addr} {c : List Nat} {t : List Nd} {v : Value}
theorem GW.keep {W W' : World} (h : GW w0 base b1 b2 b5 bs oa n ca c t v W) (hb : Below W.heap.size W W') : GW w0 base b1 b2 b5 bs oa n ca c t v W' :=
  ⟨below_call h.bel hb, h.k1.keep hb, h.k2.keep hb, h.k5.keep hb, own_keep h.own hb, h.set.keep hb, Nat.le_trans h.hb hb.size⟩
theorem GW.sorted {W W' : World} {c' : List Nat} (p : Pl w0 base b1 b2 b5 bs) (h : GW w0 base b1 b2 b5 bs oa n ca c t v W) (hg : W.grownBy W' (some bs)) (hs : Blk W' bs (cvs c')) : GW w0 base b1 b2 b5 bs oa n ca c' t v W' := by
  refine ⟨h.bel.trans ⟨hg.os, hg.tape, hg.output, hg.size, fun k hk => hg.block k (Nat.lt_of_lt_of_le hk h.bel.size) (fun e => by injection e with e; have := p.ps; omega)⟩, h.k1.keepG hg p.n1s, h.k2.keepG hg p.n2s, h.k5.keepG hg p.n5s, own_blk h.own fun g hg1 hg2 hg3 => hg.block g hg2 (fun e => by injection e with e; have := p.ps; omega), hs, Nat.le_trans h.hb hg.size⟩
/-- Behind an append and the store into the tree's box. -/
theorem GW.app {W W1 : World} {t' : List Nd} {v' : Value} (p : Pl w0 base b1 b2 b5 bs) (h : GW w0 base b1 b2 b5 bs oa n ca c t v W) (hg : W.grownBy W1 v.ownBlock) (ho : W1.ownsRow base 36 4 v' t'.length (nflat t')) : GW w0 base b1 b2 b5 bs oa n ca c t' v' (W1.setCell ⟨b2, 0, none⟩ v') := by
  have B1 : Below base W W1 := grown_below h.own hg h.hb
  have e : ∀ k, k ≠ b2 → (W1.setCell ⟨b2, 0, none⟩ v').heap[k]? = W1.heap[k]? := fun k hk => Below.heap_setCell W1 ⟨b2, 0, none⟩ v' k hk
  have hG := grown_set W1 b2 0 v'
  have p1 := p.p1; have p2 := p.p2; have p5 := p.p5; have ps := p.ps
  refine ⟨(h.bel.trans (B1.mono (by omega))).setCell (p := ⟨b2, 0, none⟩) p2.1 _, (h.k1.low p1.2 B1).keepG hG p.n12, (h.k2.low p2.2 B1).put 0 _, (h.k5.low p5.2 B1).keepG hG (fun e => p.n25 e.symm), own_blk ho fun g _ _ hb => e g (by omega), (h.set.low ps.2 B1).keepG hG (fun e => p.n2s e.symm), Nat.le_trans h.hb (Nat.le_trans B1.size hG.size)⟩
/-- Behind two stores into the tree. -/
theorem GW.put {W : World} {g m c0 i j : Nat} {x y : Value} {t' : List Nd} (p : Pl w0 base b1 b2 b5 bs) (h : GW w0 base b1 b2 b5 bs oa n ca c t (.slice (some ⟨g, 0, none⟩) t.length c0) W) (hm : 0 < t.length) (hl : t'.length = t.length) (ht : nflat t' = ((nflat t).set i x).set j y) (_ : m = 0) : GW w0 base b1 b2 b5 bs oa n ca c t' (.slice (some ⟨g, 0, none⟩) t.length c0) ((W.setCell ⟨g, i, none⟩ x).setCell ⟨g, j, none⟩ y) := by
  have hgb := (own_lt h.own g rfl).2
  have p1 := p.p1; have p2 := p.p2; have p5 := p.p5; have ps := p.ps
  have h1 := own_set1 (own_set1 h.own i hm x) j hm y
  rw [← ht] at h1
  have e : ∀ k, k ≠ g → ((W.setCell ⟨g, i, none⟩ x).setCell ⟨g, j, none⟩ y).heap[k]? = W.heap[k]? := fun k hk => (Below.heap_setCell _ ⟨g, j, none⟩ y k hk).trans (Below.heap_setCell W ⟨g, i, none⟩ x k hk)
  have hG : W.grownBy ((W.setCell ⟨g, i, none⟩ x).setCell ⟨g, j, none⟩ y) (some g) := grown_trans (grown_set W g i x) (grown_set _ g j y)
  refine ⟨(h.bel.setCell (p := ⟨g, i, none⟩) (show w0.heap.size ≤ g by omega) x).setCell (p := ⟨g, j, none⟩) (show w0.heap.size ≤ g by omega) y, h.k1.keepG hG (by omega), h.k2.keepG hG (by omega), h.k5.keepG hG (by omega), by rw [hl]; exact h1, h.set.keepG hG (by omega), Nat.le_trans h.hb hG.size⟩

/-! parts of the set -/
theorem part_mid {c l : List Nat} {off k : Nat} (ho : off + l.length ≤ c.length) (hk : k ≤ l.length) : ((c.take off ++ (l ++ c.drop (off + l.length))).drop off).take k = l.take k := by
  have h1 : (c.take off).length = off := by rw [List.length_take]; omega
  rw [List.drop_append, h1, Nat.sub_self, List.drop_zero, List.drop_eq_nil_of_le (by omega), List.nil_append, List.take_append_of_le_length hk]
theorem part_len {c l : List Nat} {off : Nat} (ho : off + l.length ≤ c.length) : (c.take off ++ (l ++ c.drop (off + l.length))).length = c.length := by
  simp only [List.length_append, List.length_take, List.length_drop]; omega
theorem part_out {c l : List Nat} {off : Nat} (ho : off + l.length ≤ c.length) (i : Nat) (hi : i < off ∨ off + l.length ≤ i) : (c.take off ++ (l ++ c.drop (off + l.length)))[i]? = c[i]? := by
  have h1 : (c.take off).length = off := by rw [List.length_take]; omega
  rcases hi with hi | hi
  · rw [List.getElem?_append_left (by omega), List.getElem?_take, if_pos hi]
  · rw [List.getElem?_append_right (by omega), h1, List.getElem?_append_right (by omega), List.getElem?_drop]
    congr 1
    omega
theorem part_mem {c l : List Nat} {off : Nat} {x : Nat} (hx : x ∈ c.take off ++ (l ++ c.drop (off + l.length))) (hl : ∀ y ∈ l, y ∈ c) : x ∈ c := by
  simp only [List.mem_append] at hx
  rcases hx with hx | hx | hx
  · exact List.mem_of_mem_take hx
  · exact hl x hx
  · exact List.mem_of_mem_drop hx
theorem part_in {c l : List Nat} {off i : Nat} (ho : off + l.length ≤ c.length) (hi : i < l.length) : (c.take off ++ (l ++ c.drop (off + l.length)))[off + i]? = l[i]? := by
  have h1 : (c.take off).length = off := by rw [List.length_take]; omega
  rw [List.getElem?_append_right (by omega), h1, Nat.add_sub_cancel_left, List.getElem?_append_left hi]
/-- The upper part, where the lower one has turned. -/
theorem part_high {c c3 l : List Nat} {off k : Nat} (ho : off + l.length ≤ c.length) (hk : k < l.length) (h3 : ∀ i, i < off ∨ off + k ≤ i → c3[i]? = (c.take off ++ (l ++ c.drop (off + l.length)))[i]?) (o' m : Nat) (hm : m = l.length - (k + 1)) (ho' : o' = off + (k + 1) ∨ m = 0) : (c3.drop o').take m = l.drop (k + 1) := by
  rcases ho' with rfl | rfl
  · apply List.ext_getElem?
    intro i
    rw [List.getElem?_take, List.getElem?_drop, List.getElem?_drop]
    split
    · rename_i hi
      rw [h3 _ (.inr (by omega)), show off + (k + 1) + i = off + (k + 1 + i) by omega, part_in ho (by omega)]
    · rw [List.getElem?_eq_none (by omega)]
  · rw [List.take_zero]
    symm
    exact List.drop_eq_nil_of_le (by omega)

/-- What Build's grow answers. -/
def GrowE (w0 : World) (base b1 b2 b5 bs : Nat) (oa : Option Addr) (ca : Nat) (pts : List (List Int)) (off m : Nat) (R : List Nd × Int) (c : List Nat) (e : Ending) (W' : World) : Prop :=
  ∃ c' v', e = .returned (.int .i64 R.2) ∧ GW w0 base b1 b2 b5 bs oa pts.length ca c' R.1 v' W' ∧ (∀ i, i < off ∨ off + m ≤ i → c'[i]? = c[i]?) ∧ c'.length = c.length ∧ ∀ x ∈ c', x < pts.length
end Go.Proofs.Ng
end

section
/-
  Walks: Build's grow.
-/
namespace Go.Proofs.Ng
open Go.RowKit

set_option maxRecDepth 100000 in
set_option maxHeartbeats 8000000 in
theorem grow26 {w0 : World} {oa : Option Addr} {ca base b1 b2 b5 bs : Nat} {pts : List (List Int)} (hP : Pts w0 oa pts) (hvp : vpB pts = true) (p : Pl w0 base b1 b2 b5 bs) :
    ∀ (f off m lev cap : Nat) (c : List Nat) (t : List Nd) (v : Value) (W : World), m ≤ f → off + m ≤ c.length → lev + m ≤ 100000 → t.length + m ≤ 100000 → m ≤ cap → c.length ≤ 100000 → (∀ x ∈ c, x < pts.length) → GW w0 base b1 b2 b5 bs oa pts.length ca c t v W →
    Calls Try.prog 26 #[.slice (some ⟨bs, off, none⟩) m cap, .int .i64 lev, .pointer (some ⟨b1, 0, none⟩), .pointer (some ⟨b2, 0, none⟩), .pointer (some ⟨b5, 0, none⟩)] W (GrowE w0 base b1 b2 b5 bs oa ca pts off m (growP pts f t ((c.drop off).take m) lev) c) := by
  have nil : ∀ (f off lev cap : Nat) (c : List Nat) (t : List Nd) (v : Value) (W : World), (∀ x ∈ c, x < pts.length) → GW w0 base b1 b2 b5 bs oa pts.length ca c t v W → Calls Try.prog 26 #[.slice (some ⟨bs, off, none⟩) 0 cap, .int .i64 lev, .pointer (some ⟨b1, 0, none⟩), .pointer (some ⟨b2, 0, none⟩), .pointer (some ⟨b5, 0, none⟩)] W (GrowE w0 base b1 b2 b5 bs oa ca pts off 0 (growP pts f t ((c.drop off).take 0) lev) c) := by
    intro f off lev cap c t v W hlt hG
    rw [List.take_zero, growP_nil]
    go_enter Try.func26, Try.ntmps26
    go_wp2
    go_ret
    exact ⟨c, v, rfl, hG, fun _ _ => rfl, rfl, hlt⟩
  intro f
  induction f with
  | zero =>
    intro off m lev cap c t v W hf ho hlv hts hcap hcl hlt hG
    have hm0 : m = 0 := by omega
    subst hm0
    exact nil 0 off lev cap c t v W hlt hG
  | succ f ih =>
    intro off m lev cap c t v W hf ho hlv hts hcap hcl hlt hG
    rcases Nat.eq_zero_or_pos m with hm0 | hm0
    · subst hm0
      exact nil (f + 1) off lev cap c t v W hlt hG
    · clear nil
      have hsl : ((c.drop off).take m).length = m := by rw [List.length_take, List.length_drop]; omega
      have hs0 : (c.drop off).take m ≠ [] := fun e => by rw [e] at hsl; simp at hsl; omega
      have hsm : ∀ x ∈ (c.drop off).take m, x ∈ c := fun x hx => List.mem_of_mem_drop (List.mem_of_mem_take hx)
      obtain ⟨hp1024, hdim⟩ := vp_dim hvp
      obtain ⟨x0, hx0⟩ := List.exists_mem_of_length_pos (l := c) (by omega)
      have hx0l := hlt x0 hx0
      obtain ⟨c0, hc0⟩ : ∃ c, pts[0]? = some c := ⟨_, List.getElem?_eq_getElem (by omega)⟩
      have hcd := hdim c0 (List.mem_of_getElem? hc0)
      obtain ⟨bp, offp, oc, cc, hoa, q0, lbp, -⟩ := (hP.keep hG.bel).get hc0
      have hl0 : ((m : Int) == 0) = false := by simp; omega
      rw [hcd.1, Nat.add_zero] at q0
      have hd1 : ((dimP pts : Int) == 0) = false := by simp; omega
      have hmod : ((lev : Int)).tmod (dimP pts : Int) = ((axP pts lev : Nat) : Int) := by
        unfold axP
        rw [Int.tmod_eq_emod_of_nonneg (by omega)]
        omega
      have hax : axP pts lev < dimP pts := Nat.mod_lt _ (by omega)
      have haxs : ∀ xs ∈ pts, axP pts lev < xs.length := fun xs hx => by rw [(hdim xs hx).1]; exact hax
      have haN : axP pts lev < 1000 := by omega
      subst hoa
      generalize hs : (c.drop off).take m = s at hsl hs0 hsm ⊢
      have HLT := Lib.hid hlt
      have HAX := Lib.hid haxs
      have HG := Lib.hid hG
      have HSM := Lib.hid hsm
      have HS := Lib.hid hs
      have k1 : W.cell? ⟨b1, 0, none⟩ = some (.slice (some ⟨bp, offp, none⟩) pts.length ca) := hG.k1.c 0 _ rfl
      have l1 := hG.k1.lt
      clear hlt haxs hG hsm hx0 hc0 hdim hs
      go_enter Try.func26, Try.ntmps26
      go_wp2_with fail
      have hba : Below W.heap.size W (W.alloc (.cells #[.int .i64 (axP pts lev : Nat)] 3)) := (Below.refl _ _).alloc (Nat.le_refl _) _
      have hG1 := HG.out.keep hba
      have ka := Blk.new W [.int .i64 (axP pts lev : Nat)] 3
      have hbaB : base ≤ W.heap.size := HG.out.hb
      generalize (W.alloc (.cells #[.int .i64 (axP pts lev : Nat)] 3)) = W1 at hG1 ka ⊢
      generalize W.heap.size = ba at ka hbaB ⊢
      have hps := p.ps
      have hsort := sort27 (off := off) (n := m) (cap := cap) hP (axP pts lev) W1 hG1.bel p.ps.1 hG1.set (hG1.k1.c 0 _ rfl) (ka.c 0 _ rfl) hG1.k1.lt ka.lt p.n1s (by omega) hm0 ho HLT.out HAX.out (by omega) haN hcl
      rw [HS.out] at hsort
      have HSO := Lib.hid hsort
      have HG1 := Lib.hid hG1
      have HKA := Lib.hid ka
      clear hsort hG1 ka hba k1 l1 q0 HG hd1 hmod
      with_reducible refine HSO.out.mono ?_
      rintro e W2 ⟨rfl, hset, hg⟩
      have hll : (srt pts (axP pts lev) s).length = m := by rw [srt_len, hsl]
      have hG2 := HG1.out.sorted p hg hset
      have ka2 := HKA.out.keepG hg (by omega)
      have HPO := Lib.hid (part_out (c := c) (l := srt pts (axP pts lev) s) (off := off) (by omega))
      have HPL := Lib.hid (part_len (c := c) (l := srt pts (axP pts lev) s) (off := off) (by omega))
      have HPM := Lib.hid (fun k (hk : k ≤ (srt pts (axP pts lev) s).length) => part_mid (c := c) (l := srt pts (axP pts lev) s) (off := off) (k := k) (by omega) hk)
      have HPI := Lib.hid (fun i (hi : i < (srt pts (axP pts lev) s).length) => part_in (c := c) (l := srt pts (axP pts lev) s) (off := off) (i := i) (by omega) hi)
      have HPH := Lib.hid (fun (c3 : List Nat) (k : Nat) => part_high (c := c) (c3 := c3) (l := srt pts (axP pts lev) s) (off := off) (k := k) (by omega))
      have hc2 : ∀ x ∈ c.take off ++ (srt pts (axP pts lev) s ++ c.drop (off + m)), x < pts.length := fun x hx => HLT.out x (by rw [← hll] at hx; exact part_mem hx (fun y hy => HSM.out y (srt_mem.1 hy)))
      rw [hll] at HPO HPL HPM HPI HPH
      generalize c.take off ++ (srt pts (axP pts lev) s ++ c.drop (off + m)) = c2 at hset hG2 HPO HPL HPM HPI HPH hc2
      have HC2 := Lib.hid hc2
      clear hset hg hc2 HSO HG1 HKA
      have hmid := mid_at (pts := pts) (a := axP pts lev) (s := s) (by omega)
      rw [hsl] at hmid
      obtain ⟨mp, hmp⟩ : ∃ mp, mp = midP pts (axP pts lev) s := ⟨_, rfl⟩
      rw [← hmp] at hmid
      have HMP := Lib.hid hmp
      clear hmp
      obtain ⟨k, hk⟩ : ∃ k, k = m / 2 := ⟨_, rfl⟩
      have hk0 : ((m : Int)).tdiv 2 = (k : Int) := by rw [Int.tdiv_eq_ediv_of_nonneg (by omega)]; omega
      have hkl : k < m := by omega
      rw [← hk] at hmid
      have HK := Lib.hid hk
      clear hk
      have xm : W2.cell? ⟨bs, off + k, none⟩ = some (.int .i64 (mp : Nat)) := hG2.set.c _ _ (cvs_get (by rw [HPI.out k hkl]; exact hmid))
      have xa : W2.cell? ⟨ba, 0, none⟩ = some (.int .i64 (axP pts lev : Nat)) := ka2.c 0 _ rfl
      obtain ⟨tb, ct, rfl, -⟩ := own_rows (rows := t.map Nd.vals) (nd_four t) (by rw [List.length_map]; exact hG2.own)
      rw [List.length_map] at hG2
      have xt : W2.cell? ⟨b2, 0, none⟩ = some (.slice tb t.length ct) := hG2.k2.c 0 _ rfl
      have ft := hG2.k2.f 0
      have ls := hG2.set.lt
      have la := ka2.lt
      have lt2 := hG2.k2.lt
      have HG2 := Lib.hid hG2
      clear hG2 ka2 hmid
      go_upto_region 6 with fail
      obtain ⟨i0, hi, hz0, hz1, hz2⟩ := info_parts info36
      have hl1 : (t ++ [(⟨(mp : Nat), (axP pts lev : Nat), 0, 0⟩ : Nd)]).length = t.length + 1 := by simp
      go_cut [] (fun X => ∃ v', GW w0 base b1 b2 b5 bs (some ⟨bp, offp, none⟩) pts.length ca c2 (t ++ [⟨(mp : Nat), (axP pts lev : Nat), 0, 0⟩]) v' X)
      case first =>
        have HA := Lib.hid (HG2.out.keep (W' := (W2.alloc (.cells #[.int .i64 (mp : Nat), .int .i64 (axP pts lev : Nat), .int .i64 0, .int .i64 0] 36)).drew) ((Below.refl _ _).alloc (Nat.le_refl _) _).drew)
        have hcl4 : ∀ (j : Nat) (u : Value), [Value.int .i64 (mp : Nat), .int .i64 (axP pts lev : Nat), .int .i64 0, .int .i64 0][j]? = some u → (W2.alloc (.cells #[.int .i64 (mp : Nat), .int .i64 (axP pts lev : Nat), .int .i64 0, .int .i64 0] 36)).drew.cell? ((⟨W2.heap.size, 0, none⟩ : Addr).add j) = some u := new_cells W2 [.int .i64 (mp : Nat), .int .i64 (axP pts lev : Nat), .int .i64 0, .int .i64 0] 36
        go_region_law (first
          | (refine step_append_lies _ rfl (.tmp 30) (.tmp 37) 23 rfl base 36 i0 _ 4 32 under23 hi hz0 hz1 hz2 rfl (by decide) (.slice tb t.length ct) t.length (nflat t) (by simp [Act.eval]) HA.out.own ⟨W2.heap.size, 0, none⟩ 1 1 [.int .i64 (mp : Nat), .int .i64 (axP pts lev : Nat), .int .i64 0, .int .i64 0] (by simp [Act.eval]) rfl hcl4 (by intro u hu; simp at hu; rcases hu with rfl | rfl | rfl <;> rfl) (by decide) (by unfold maxLen; omega) (by omega) HA.out.hb _ rfl ?_
             intro g cg W3 hown hgrow hat hlt3
             have hB3 := (HA.out.k2.low p.p2.2 (grown_below HA.out.own hgrow HA.out.hb))
             have c04 := hB3.c 0 _ rfl
             have f04 := hB3.f 0
             have l04 := hB3.lt
             have HO := Lib.hid hown
             clear hown))
        all_goals
          go_wp2_with fail
          go_meet
          exact ⟨_, HA.out.app p hgrow (by rw [hl1, nflat_snoc]; exact HO.out)⟩
      case rest =>
        clear xm xa xt ft ls la lt2 HG2 hi hz0 hz1 hz2
        obtain ⟨v1, hG3⟩ := hcut
        have e1 : ((lev + 1 : Nat) : Int) = (lev : Int) + 1 := by omega
        have e2 : growP pts f (t ++ [⟨(mp : Nat), (axP pts lev : Nat), 0, 0⟩]) ((c2.drop off).take k) (lev + 1) = lowP pts f t s lev := by rw [HPM.out k (by omega), HMP.out, HK.out, ← hsl]; rfl
        have hlow : ∀ X, Below wc.heap.size wc X → _ := fun X hX => ih off k (lev + 1) cap c2 (t ++ [⟨(mp : Nat), (axP pts lev : Nat), 0, 0⟩]) v1 X (by omega) (by rw [HPL.out]; omega) (by omega) (by rw [hl1]; omega) (by omega) (by rw [HPL.out]; exact hcl) HC2.out (hG3.keep hX)
        rw [e1, e2] at hlow
        have hll1 := lowP_len (pts := pts) (f := f) (t := t) (s := s) (lev := lev) (by omega)
        rw [hsl, ← HK.out] at hll1
        generalize hR1 : lowP pts f t s lev = R1 at hlow hll1
        have HR1 := Lib.hid hR1
        have HLOW := Lib.hid hlow
        have HLL := Lib.hid hll1
        have x5 : wc.cell? ⟨b5, 0, none⟩ = some (growV b1 b2 b5) := hG3.k5.c 0 _ rfl
        unfold growV at x5
        have l5 := hG3.k5.lt
        have hkc : k ≤ cap := by omega
        have hwl : IntKind.i64.wrap ((lev : Int) + 1) = (lev : Int) + 1 := IntWalk.i64_in _ (by omega)
        clear hlow hll1 hR1 e2 hG3
        go_upto_region 7 with fail
        go_cut [11] (fun y X => ∃ c3 v2, y = .int .i64 R1.2 ∧ GW w0 base b1 b2 b5 bs (some ⟨bp, offp, none⟩) pts.length ca c3 R1.1 v2 X ∧ (∀ i, i < off ∨ off + k ≤ i → c3[i]? = c2[i]?) ∧ c3.length = c2.length ∧ ∀ x ∈ c3, x < pts.length)
        case first =>
          have hq := HLOW.out wc.drew (Below.refl _ _).drew
          go_region_law
            (go_simp
             go_at_call 26
             refine hq.mono ?_
             rintro e X ⟨c3, v2, rfl, h1, h2, h3, h4⟩)
          all_goals
            go_wp2_with fail
            go_meet
            exact ⟨c3, v2, rfl, h1, h2, h3, h4⟩
        case rest =>
          clear x5 l5 HLOW
          obtain ⟨c3, v2, rfl, hG4, hag, hcl3, hm3⟩ := hcut
          have hhigh : ∀ (o' c' : Nat), (o' = off + (k + 1) ∨ m - (k + 1) = 0) → o' + (m - (k + 1)) ≤ off + m → m - (k + 1) ≤ c' → ∀ X, Below wc.heap.size wc X → _ := fun o' c' ho' hoo hc' X hX => ih o' (m - (k + 1)) (lev + 1) c' c3 R1.1 v2 X (by omega) (by rw [hcl3, HPL.out]; omega) (by omega) (by rw [HLL.out]; omega) hc' (by rw [hcl3, HPL.out]; exact hcl) hm3 (hG4.keep hX)
          have hpart : ∀ (o' : Nat), (o' = off + (k + 1) ∨ m - (k + 1) = 0) → (c3.drop o').take (m - (k + 1)) = (srt pts (axP pts lev) s).drop (k + 1) := fun o' ho' => HPH.out c3 k hkl hag o' (m - (k + 1)) rfl ho'
          have e3 : growP pts f R1.1 ((srt pts (axP pts lev) s).drop (k + 1)) (lev + 1) = highP pts f t s lev := by rw [← HR1.out, HK.out, ← hsl]; rfl
          have hhl := highP_len (pts := pts) (f := f) (t := t) (s := s) (lev := lev) (by omega) (by omega)
          rw [hsl] at hhl
          have hhigh2 : ∃ o' c' : Nat, (if cap = k + 1 then o' = off ∧ c' = 0 else o' = off + (k + 1) ∧ c' = cap - (k + 1)) ∧ (o' = off + (k + 1) ∨ m - (k + 1) = 0) ∧ o' + (m - (k + 1)) ≤ off + m ∧ m - (k + 1) ≤ c' := by
            by_cases h : cap = k + 1
            · exact ⟨off, 0, by rw [if_pos h]; exact ⟨rfl, rfl⟩, .inr (by omega), by omega, by omega⟩
            · exact ⟨off + (k + 1), cap - (k + 1), by rw [if_neg h]; exact ⟨rfl, rfl⟩, .inl rfl, by omega, by omega⟩
          obtain ⟨o', c', hoc, ho', hoo, hc'⟩ := hhigh2
          have hhi := hhigh o' c' ho' hoo hc'
          rw [hpart o' ho', e1, e3] at hhi
          generalize hR2 : highP pts f t s lev = R2 at hhi hhl
          have HR2 := Lib.hid hR2
          have HHI := Lib.hid hhi
          have HHL := Lib.hid hhl
          have HAG := Lib.hid hag
          have HC3 := Lib.hid hcl3
          have HOO := Lib.hid hoo
          have HO' := Lib.hid ho'
          have x5 : wc.cell? ⟨b5, 0, none⟩ = some (growV b1 b2 b5) := hG4.k5.c 0 _ rfl
          unfold growV at x5
          have l5 := hG4.k5.lt
          clear hhigh hpart hhi hhl hR2 e3 hag hcl3 hm3 hG4 hoo ho'
          have fin : ∀ (X : World) (c4 : List Nat) (v3 : Value), GW w0 base b1 b2 b5 bs (some ⟨bp, offp, none⟩) pts.length ca c4 R2.1 v3 X → (∀ i, i < o' ∨ o' + (m - (k + 1)) ≤ i → c4[i]? = c3[i]?) → c4.length = c3.length → (∀ x ∈ c4, x < pts.length) → GW w0 base b1 b2 b5 bs (some ⟨bp, offp, none⟩) pts.length ca c4 R2.1 v3 X ∧ (∀ i, i < off ∨ off + m ≤ i → c4[i]? = c[i]?) ∧ c4.length = c.length ∧ (∀ x ∈ c4, x < pts.length) := by
            intro X c4 v3 h1 h2 h3 h4
            refine ⟨h1, fun i hi => ?_, by rw [h3, HC3.out, HPL.out], h4⟩
            have q1 := HO'.out
            have q2 := HOO.out
            rw [h2 i (by omega), HAG.out i (by omega)]
            exact HPO.out i hi
          have FIN := Lib.hid fin
          clear fin
          go_upto_region 8 with fail
          go_cut [12] (fun y X => ∃ c4 v3, y = .int .i64 R2.2 ∧ GW w0 base b1 b2 b5 bs (some ⟨bp, offp, none⟩) pts.length ca c4 R2.1 v3 X ∧ (∀ i, i < off ∨ off + m ≤ i → c4[i]? = c[i]?) ∧ c4.length = c.length ∧ ∀ x ∈ c4, x < pts.length)
          case first =>
            have hq := HHI.out wc.drew (Below.refl _ _).drew
            have hwk : IntKind.i64.wrap ((k : Int) + 1) = (k : Int) + 1 := IntWalk.i64_in _ (by omega)
            have i2 : 0 ≤ (k : Int) + 1 := by omega
            have i3 : (k : Int) + 1 ≤ (m : Int) := by omega
            have i4 : ((k : Int) + 1).toNat = k + 1 := by omega
            by_cases hck : cap = k + 1
            · rw [if_pos hck] at hoc
              obtain ⟨ho1, hc1⟩ := hoc
              rw [ho1, hc1] at hq
              have FI2 := Lib.hid (fun X c4 v3 h1 h2 h3 h4 => FIN.out X c4 v3 h1 (by rw [ho1]; exact h2) h3 h4)
              have h0 : m - (k + 1) = 0 := by omega
              have hck' := hck.symm
              rw [h0] at hq FI2
              rw [hck'] at i4
              clear ho1 hc1 hck hkc h0
              go_region_law
                (go_simp
                 go_at_call 26
                 refine hq.mono ?_
                 rintro e X ⟨c4, v3, rfl, h1, h2, h3, h4⟩)
              all_goals
                go_wp2_with fail
                go_meet
                exact ⟨c4, v3, rfl, FI2.out X c4 v3 h1 h2 h3 h4⟩
            · rw [if_neg hck] at hoc
              obtain ⟨rfl, rfl⟩ := hoc
              go_region_law
                (go_simp
                 go_at_call 26
                 refine hq.mono ?_
                 rintro e X ⟨c4, v3, rfl, h1, h2, h3, h4⟩)
              all_goals
                go_wp2_with fail
                go_meet
                exact ⟨c4, v3, rfl, FIN.out X c4 v3 h1 h2 h3 h4⟩
          case rest =>
            clear x5 l5 HHI
            obtain ⟨c4, v3, rfl, hG5, hag, hcl4, hm4⟩ := hcut
            obtain ⟨g3, cg, rfl⟩ := own_some hG5.own (by rw [HHL.out]; omega)
            obtain ⟨nd, hnd⟩ : ∃ nd, R2.1[t.length]? = some nd := ⟨_, List.getElem?_eq_getElem (by rw [HHL.out]; omega)⟩
            have z2 : wc.cell? ⟨g3, t.length * 4 + 2, none⟩ = some (.int .i64 nd.lo) := own_at hG5.own _ _ (nflat_at hnd (j := 2) rfl)
            have z3 : wc.cell? ⟨g3, t.length * 4 + 3, none⟩ = some (.int .i64 nd.hi) := own_at hG5.own _ _ (nflat_at hnd (j := 3) rfl)
            have f2 := own_frozen hG5.own (by rw [HHL.out]; omega) (t.length * 4 + 2)
            have f3 := own_frozen hG5.own (by rw [HHL.out]; omega) (t.length * 4 + 3)
            have l3 := (own_lt hG5.own g3 rfl).1
            have x2 : wc.cell? ⟨b2, 0, none⟩ = some (.slice (some ⟨g3, 0, none⟩) R2.1.length cg) := hG5.k2.c 0 _ rfl
            have l2 := hG5.k2.lt
            have hi1 : ((t.length : Nat) : Int) < ((R2.1.length : Nat) : Int) := by rw [HHL.out]; omega
            have HG6 := Lib.hid (hG5.put (t' := setLH R2.1 t.length R1.2 R2.2) (m := 0) (i := t.length * 4 + 2) (j := t.length * 4 + 3) (x := .int .i64 R1.2) (y := .int .i64 R2.2) p (by rw [HHL.out]; omega) (setLH_len _ _ _ _) (nflat_lh (by rw [HHL.out]; omega)).symm rfl)
            have HAG4 := Lib.hid hag
            have HCL4 := Lib.hid hcl4
            have HM4 := Lib.hid hm4
            clear hG5 hag hcl4 hm4 hnd
            go_wp2_with fail
            go_ret
            rw [growP_step hs0, HR1.out, HR2.out]
            exact ⟨c4, _, rfl, HG6.out, HAG4.out, HCL4.out, HM4.out⟩
end Go.Proofs.Ng
end

section
/-
  Walks: Build.
-/
namespace Go.Proofs.Ng
open Go.RowKit

theorem catch24 (p : Addr) (w : World) :
    CallsD Try.prog 24 #[.pointer (some p)] .returning w fun e u' w' => e = .returned (.tuple #[]) ∧ u' = .returning ∧ w' = w := by
  refine callsD_of_wpS Try.func24 rfl fun c₀ cs hu => ?_
  apply wpS_seq
  apply wpS_region
  simp [wpOpsS, go_sem, recoverD, hu, Try.ntmps24, Exit.thenS]
  refine wpS_cond (t := false) (by simp [Act.eval, Array.replicate]) ?_
  simp only [Bool.false_eq_true, if_false]
  refine wpS_of_wp (wp_skip ?_)
  cases c₀
  simp_all [bodyPostS, results, Try.results24]
/-- The first k are their places, the others nought. -/
def upL (n k : Nat) : List Nat := (List.range n).map fun i => if i < k then i else 0
theorem upL_len (n k : Nat) : (upL n k).length = n := by simp [upL]
theorem upL_zero (n : Nat) : cvs (upL n 0) = pflat (List.replicate n 0) := by
  apply List.ext_getElem
  · simp [upL, cvs, pflat]
  · intro i h1 h2; simp [upL, cvs, pflat]
theorem upL_all (n : Nat) : upL n n = List.range n := by
  apply List.ext_getElem
  · simp [upL]
  · intro i h1 h2; simp [upL] at h1 ⊢; omega
theorem upL_set (n k : Nat) (h : k < n) : (cvs (upL n k)).set k (.int .i64 (k : Nat)) = cvs (upL n (k + 1)) := by
  apply List.ext_getElem
  · simp [upL, cvs]
  · intro i h1 h2
    simp only [upL, cvs, List.getElem_set, List.getElem_map, List.getElem_range]
    by_cases e : k = i
    · subst e; simp
    · rw [if_neg e]
      by_cases h3 : i < k
      · rw [if_pos h3, if_pos (by omega)]
      · rw [if_neg h3, if_neg (by omega)]
set_option maxRecDepth 100000 in
set_option maxHeartbeats 4000000 in
theorem build11 (oa : Option Addr) (ca : Nat) (pts : List (List Int)) (w : World) (hP : Pts w oa pts) :
    Calls Try.prog 11 #[.slice oa pts.length ca] w (NodesP (buildP pts) w) := by
  have hmf : ∀ (fn : Fn) (first cap : Array Value) (w : World), (Instr.makeFunc fn first cap).run Try.prog w = .ok (.func fn first cap) w := fun _ _ _ _ => rfl
  have hsf : ∀ (a : Addr) (fn : Fn) (x y : Array Value) (u : World), (store a (.func fn x y)).run Try.prog u = stored Try.prog u a (.func fn x y) .plain := fun a fn x y u => run_store Try.prog u a (.func fn x y) .plain rfl
  have h25 := fun X hX => validPoints25 oa ca pts X (hP.keep hX)
  have HPP := Lib.hid hP
  clear hP
  by_cases hv : vpB pts = true
  · have hbp : buildP pts = (growP pts pts.length [] (List.range pts.length) 0).1 := by unfold buildP; rw [if_pos hv]
    obtain ⟨hp1024, -⟩ := vp_dim hv
    rw [hv] at h25
    have HV := Lib.hid hv
    have HB25 := Lib.hid h25
    rw [hbp]
    clear h25 hbp hv
    go_enter_defers Try.func11, Try.ntmps11
    go_upto_region 2 with fail
    have hbx_ := blks2 w [.slice oa pts.length ca] [.slice none 0 0] 22 23
    have HB := Lib.hid (hbx_.2.2)
    have hod : w.heap.size ≤ w.heap.size ∧ w.heap.size < w.heap.size + 1 := by omega
    generalize (w.alloc (.cells #[.slice oa pts.length ca] 22)).alloc (.cells #[.slice none 0 0] 23) = W1 at hbx_ HB ⊢
    obtain ⟨r1, r2, hbel_⟩ := hbx_
    generalize w.heap.size + 1 = b2 at r2 hod ⊢
    obtain ⟨b1, hn_⟩ : ∃ n, n = w.heap.size := ⟨_, rfl⟩
    rw [← hn_] at r1 ⊢
    replace hod := And.intro (Nat.le_of_eq hn_.symm) (hn_ ▸ hod.2)
    clear hn_ hbel_
    have HO1 : Hid (w.heap.size ≤ b1 ∧ w.heap.size ≤ b2 ∧ b1 ≠ b2) := Lib.hid (by omega)
    clear hod
    have a0 : W1.cell? ⟨b1, 0, none⟩ = some (.slice oa pts.length ca) := r1.c 0 _ rfl
    have l1 := r1.lt
    have H25 := Lib.hid (HB25.out W1 HB.out)
    have HR1 := Lib.hid r1
    have HR2 := Lib.hid r2
    have r2l := r2.lt
    have hmk := run_make24 pts.length (by omega)
    clear r1 r2
    go_wp2_with fail
    with_reducible refine H25.out.mono ?_
    rintro e W2 ⟨rfl, rfl⟩
    go_wp2_with fail
    clear hmk
    have hS : Blk (W2.alloc (.cells (pflat (List.replicate pts.length 0)).toArray 3)) W2.heap.size (cvs (upL pts.length 0)) := by rw [upL_zero]; exact Blk.new W2 _ 3
    have hb1 : Below W2.heap.size W2 (W2.alloc (.cells (pflat (List.replicate pts.length 0)).toArray 3)) := (Below.refl _ _).alloc (Nat.le_refl _) _
    have HR1 := Lib.hid (HR1.out.keep hb1)
    have HR2 := Lib.hid (HR2.out.keep hb1)
    have HB2 := Lib.hid (below_call HB.out hb1)
    have HSL : Hid (w.heap.size ≤ W2.heap.size ∧ b1 ≠ W2.heap.size ∧ b2 ≠ W2.heap.size) := Lib.hid ⟨HB.out.size, by omega, by have := r2l; omega⟩
    generalize (W2.alloc (.cells (pflat (List.replicate pts.length 0)).toArray 3)) = W3 at hS HR1 HR2 HB2 ⊢
    generalize W2.heap.size = gS at hS HSL ⊢
    clear hb1 a0 l1 r2l HB H25
    go_loopw [15] (fun i W => ∃ k : Nat, i = .int .i64 (k : Nat) ∧ k ≤ pts.length ∧ Blk W gS (cvs (upL pts.length k)) ∧ Blk W b1 [.slice oa pts.length ca] ∧ Blk W b2 [.slice none 0 0] ∧ Below w.heap.size w W) (fun i _ => pts.length - (intOf i).toNat)
    case atStart => exact ⟨0, rfl, Nat.zero_le _, hS, HR1.out, HR2.out, HB2.out⟩
    case round =>
      clear hS HR1 HR2 HB2
      obtain ⟨k, rfl, hk, hS, r1, r2, hB⟩ := hrel
      obtain ⟨Wb, rfl⟩ : ∃ X, X = wr := ⟨_, rfl⟩
      by_cases hlt : k < pts.length
      · obtain ⟨u, hu⟩ : ∃ u, (upL pts.length k)[k]? = some u := ⟨_, List.getElem?_eq_getElem (by rw [upL_len]; exact hlt)⟩
        have x0 : Wb.cell? ⟨gS, k, none⟩ = some (.int .i64 (u : Nat)) := hS.c k _ (cvs_get hu)
        have f0 := hS.f k
        have ls := hS.lt
        have hS2 := hS.put k (.int .i64 (k : Nat))
        rw [upL_set pts.length k hlt] at hS2
        have HS2 := Lib.hid hS2
        have HR1 := Lib.hid (r1.keepG (grown_set Wb gS k (.int .i64 (k : Nat))) HSL.out.2.1)
        have HR2 := Lib.hid (r2.keepG (grown_set Wb gS k (.int .i64 (k : Nat))) HSL.out.2.2)
        have HB2 := Lib.hid (hB.setCell (p := ⟨gS, k, none⟩) HSL.out.1 (.int .i64 (k : Nat)))
        clear hS hS2 r1 r2 hB hu
        go_wp2_with fail
        go_roundw
        case rel => exact ⟨k + 1, by simp, by omega, HS2.out, HR1.out, HR2.out, HB2.out⟩
        case measure => simp [intOf]; omega
      · have hke : k = pts.length := by omega
        subst hke
        rw [upL_all] at hS
        have l1 := r1.lt
        have l2 := r2.lt
        have ls := hS.lt
        have HS := Lib.hid hS
        have HR1 := Lib.hid r1
        have HR2 := Lib.hid r2
        have HB := Lib.hid hB
        clear hS r1 r2 hB
        go_upto_region 12 with fail
        have hal : Below Wb.heap.size Wb (Wb.alloc (.cells #[growV b1 b2 Wb.heap.size] 54)) := (Below.refl _ _).alloc (Nat.le_refl _) _
        have r5 := Blk.new Wb [growV b1 b2 Wb.heap.size] 54
        have hsz : (Wb.alloc (.cells #[growV b1 b2 Wb.heap.size] 54)).heap.size = Wb.heap.size + 1 := by simp
        have hpl : Pl w (Wb.heap.size + 1) b1 b2 Wb.heap.size gS := by
          obtain ⟨o1, o2, o3⟩ := HO1.out
          obtain ⟨o4, o5, o6⟩ := HSL.out
          have := HB.out.size
          exact ⟨by omega, by omega, by omega, by omega, o3, by omega, o5, by omega, o6, by omega⟩
        have hG : GW w (Wb.heap.size + 1) b1 b2 Wb.heap.size gS oa pts.length ca (List.range pts.length) [] (.slice none 0 0) (Wb.alloc (.cells #[growV b1 b2 Wb.heap.size] 54)) :=
          ⟨below_call HB.out hal, HR1.out.keep hal, HR2.out.keep hal, r5, World.ownsRow_nil _ _ _ _, HS.out.keep hal, by rw [hsz]; exact Nat.le_refl _⟩
        have hgr := grow26 HPP.out HV.out hpl pts.length 0 pts.length 0 pts.length (List.range pts.length) [] (.slice none 0 0) _ (Nat.le_refl _) (by simp) (by omega) (by simp; omega) (Nat.le_refl _) (by simp; omega) (fun x hx => List.mem_range.1 hx) hG
        rw [List.drop_zero, List.take_of_length_le (by simp), show (((0 : Nat) : Int)) = 0 from rfl] at hgr
        have HPL := Lib.hid hpl
        have HSZ : Hid (w.heap.size ≤ Wb.heap.size + 1) := Lib.hid (by have := HB.out.size; omega)
        have x5 : (Wb.alloc (.cells #[growV b1 b2 Wb.heap.size] 54)).cell? ⟨Wb.heap.size, 0, none⟩ = some (growV b1 b2 Wb.heap.size) := r5.c 0 _ rfl
        have l5 := r5.lt
        unfold growV at x5 l5 hgr
        change Code.wp _ _ _ _ (Wb.alloc (.cells #[.func (.func 26) #[] #[.pointer (some ⟨b1, 0, none⟩), .pointer (some ⟨b2, 0, none⟩), .pointer (some ⟨Wb.heap.size, 0, none⟩)]] 54))
        clear hG hpl r5 hsz hal HS HR1 HR2 HB ls l1 l2
        generalize (Wb.alloc (.cells #[.func (.func 26) #[] #[.pointer (some ⟨b1, 0, none⟩), .pointer (some ⟨b2, 0, none⟩), .pointer (some ⟨Wb.heap.size, 0, none⟩)]] 54)) = W6 at x5 l5 hgr ⊢
        generalize Wb.heap.size = b5 at *
        obtain ⟨R, hR⟩ : ∃ R, R = growP pts pts.length [] (List.range pts.length) 0 := ⟨_, rfl⟩
        rw [← hR] at hgr
        have HRR := Lib.hid hR
        clear hR
        have HGR := Lib.hid hgr
        clear hgr
        go_wp2_with fail
        with_reducible refine HGR.out.mono ?_
        rintro e W7 ⟨c', v', rfl, hG, -, -, -⟩
        have x2 : W7.cell? ⟨b2, 0, none⟩ = some v' := hG.k2.c 0 _ rfl
        have f2 := hG.k2.f 0
        have l2 := hG.k2.lt
        obtain ⟨o1, o2, o3⟩ := HO1.out
        have hown : (W7.setCell ⟨b2, 0, none⟩ v').ownsRow w.heap.size 36 4 v' R.1.length (nflat R.1) := own_base (own_blk hG.own fun g _ _ hb => Below.heap_setCell W7 ⟨b2, 0, none⟩ v' g (show g ≠ b2 by have := HPL.out.p2; omega)) HSZ.out
        have hbel : Below w.heap.size w (W7.setCell ⟨b2, 0, none⟩ v') := hG.bel.setCell (p := ⟨b2, 0, none⟩) o2 _
        have HF := Lib.hid (own_nodes hown hbel)
        have hla : (W7.setCell ⟨b2, 0, none⟩ v').cell? ⟨b2, 0, none⟩ = some v' := World.cell?_setCell_same W7 ⟨b2, 0, none⟩ _ x2
        obtain ⟨tb, ct, rfl, -⟩ := own_rows (rows := R.1.map Nd.vals) (nd_four R.1) (by rw [List.length_map]; exact hG.own)
        rw [List.length_map] at *
        clear hG hown hbel
        go_wp2_with fail
        refine leaves_cons (f := 24) (args := #[.pointer (some ⟨b2, 0, none⟩)]) (by simp) (by simp [go_sem]) ?_
        refine (catch24 _ _).mono ?_
        rintro e u' w'' ⟨rfl, rfl, rfl⟩
        simp [Leaves, settle, results, Try.results11, go_sem, hla]
        rw [← HRR.out]
        exact HF.out
  · have hv' : vpB pts = false := by simpa using hv
    have hbp : buildP pts = [] := by unfold buildP; rw [if_neg hv]
    rw [hbp]
    rw [hv'] at h25
    have HB25 := Lib.hid h25
    clear h25 hv hv' hbp
    go_enter_defers Try.func11, Try.ntmps11
    go_upto_region 2 with fail
    have hbx_ := blks2 w [.slice oa pts.length ca] [.slice none 0 0] 22 23
    have HB := Lib.hid (hbx_.2.2)
    have hod : w.heap.size ≤ w.heap.size ∧ w.heap.size < w.heap.size + 1 := by omega
    generalize (w.alloc (.cells #[.slice oa pts.length ca] 22)).alloc (.cells #[.slice none 0 0] 23) = W1 at hbx_ HB ⊢
    obtain ⟨r1, r2, hbel_⟩ := hbx_
    generalize w.heap.size + 1 = b2 at r2 hod ⊢
    obtain ⟨b1, hn_⟩ : ∃ n, n = w.heap.size := ⟨_, rfl⟩
    rw [← hn_] at r1 ⊢
    replace hod := And.intro (Nat.le_of_eq hn_.symm) (hn_ ▸ hod.2)
    clear hn_ hbel_
    have HO1 : Hid (w.heap.size ≤ b1 ∧ w.heap.size ≤ b2 ∧ b1 ≠ b2) := Lib.hid (by omega)
    clear hod
    have a0 : W1.cell? ⟨b1, 0, none⟩ = some (.slice oa pts.length ca) := r1.c 0 _ rfl
    have b0 : W1.cell? ⟨b2, 0, none⟩ = some (.slice none 0 0) := r2.c 0 _ rfl
    have l1 := r1.lt
    have l2 := r2.lt
    have f2 := r2.f 0
    have H25 := Lib.hid (HB25.out W1 HB.out)
    clear r1 r2
    go_wp2_with fail
    with_reducible refine H25.out.mono ?_
    rintro e W2 ⟨rfl, rfl⟩
    go_wp2_with fail
    have hla : (W2.setCell ⟨b2, 0, none⟩ (.slice none 0 0)).cell? ⟨b2, 0, none⟩ = some (.slice none 0 0) := World.cell?_setCell_same W2 ⟨b2, 0, none⟩ _ b0
    refine leaves_cons (f := 24) (args := #[.pointer (some ⟨b2, 0, none⟩)]) (by simp) (by simp [go_sem]) ?_
    refine (catch24 _ _).mono ?_
    rintro e u' w'' ⟨rfl, rfl, rfl⟩
    simp [Leaves, settle, results, Try.results11, go_sem, hla]
    exact ⟨none, 0, rfl, Nat.le_refl _, fun h => absurd rfl h, HB.out.setCell (p := ⟨b2, 0, none⟩) HO1.out.2.1 _, fun a h => by cases h⟩
end Go.Proofs.Ng
end

