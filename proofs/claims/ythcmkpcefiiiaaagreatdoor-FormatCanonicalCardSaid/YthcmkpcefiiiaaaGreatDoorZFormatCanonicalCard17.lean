/-
  Texts put together: Ea.
-/
import Derived.Test.YthcmkpcefiiiaaaGreatDoorZFormatCanonicalCard4
set_option linter.unusedVariables false
/-
 Trajectories in memory; walks: the writer's trajectory.
-/
namespace Go.Proofs.Ng
open Go.RowKit
/-- A profile in memory. -/
def ProfAt (W : World) (r : List Value) (x : Fm.ProfD) : Prop := ∃ ol nl os ns, r = [.slice ol x.levels.length nl, .slice os x.steps.length ns] ∧ Sl W ol 1 (pvals x.levels) ∧ Sl W os 1 (pvals x.steps)
structure Profs (W : World) (oa : Option Addr) (l : List Fm.ProfD) : Prop where
 ex : ∃ rows : List (List Value), rows.length = l.length ∧ Sl W oa 2 rows ∧ ∀ (k : Nat) (r : List Value) (x : Fm.ProfD), rows[k]? = some r → l[k]? = some x → ProfAt W r x
def TrajAt (W : World) (v : Value) (t : Fm.TrajD) : Prop := ∃ op np oe ne f nf, v = .agg #[.slice op t.path.pts.length np, .slice oe t.path.edges.length ne, .int .i64 t.grav.1, .int .i64 t.grav.2.1, .int .i64 t.grav.2.2, .int .i64 t.grid, .slice f t.profs.length nf] ∧ Pts W op t.path.pts ∧ Edges W oe t.path.edges ∧ Profs W f t.profs
theorem ProfAt.keep {W W' : World} {r : List Value} {u : Fm.ProfD} (h : ProfAt W r u) (hb : Below W.heap.size W W') : ProfAt W' r u := by
 obtain ⟨ol, nl, os, ns, e, h1, h2⟩ := h
 exact ⟨ol, nl, os, ns, e, h1.keep hb, h2.keep hb⟩
theorem Profs.keep {W W' : World} {oa : Option Addr} {l : List Fm.ProfD} (h : Profs W oa l) (hb : Below W.heap.size W W') : Profs W' oa l := by
 obtain ⟨rows, h1, h2, h3⟩ := h.ex
 exact ⟨rows, h1, h2.keep hb, fun k r u hr hu => (h3 k r u hr hu).keep hb⟩
theorem TrajAt.keep {W W' : World} {v : Value} {t : Fm.TrajD} (h : TrajAt W v t) (hb : Below W.heap.size W W') : TrajAt W' v t := by
 obtain ⟨op, np, oe, ne, f, nf, e, h1, h2, h3⟩ := h
 exact ⟨op, np, oe, ne, f, nf, e, h1.keep hb, h2.keep hb, h3.keep hb⟩
theorem Profs.get {W : World} {oa : Option Addr} {l : List Fm.ProfD} (h : Profs W oa l) {k : Nat} {u : Fm.ProfD} (hk : l[k]? = some u) :
  ∃ b off ol nl os ns, oa = some ⟨b, off, none⟩ ∧ b < W.heap.size ∧ W.cell? ⟨b, off + k * 2, none⟩ = some (.slice ol u.levels.length nl) ∧ W.cell? ⟨b, off + k * 2 + 1, none⟩ = some (.slice os u.steps.length ns) ∧ Sl W ol 1 (pvals u.levels) ∧ Sl W os 1 (pvals u.steps) := by
 obtain ⟨rows, h1, h2, h3⟩ := h.ex
 have hlt := (List.getElem?_eq_some_iff.1 hk).1
 obtain ⟨r, hr⟩ : ∃ r, rows[k]? = some r := ⟨_, List.getElem?_eq_getElem (by rw [h1]; exact hlt)⟩
 obtain ⟨ol, nl, os, ns, rfl, hs, hu⟩ := h3 k r u hr hk
 obtain ⟨b, off, e, ha⟩ := h2 (by rintro rfl; simp at hr)
 exact ⟨b, off, ol, nl, os, ns, e, ha.lt, ha.c k _ hr 0 _ rfl, ha.c k _ hr 1 _ rfl, hs, hu⟩
/-- Numbers within a box. -/
theorem Ns.box {W : World} {base b n : Nat} {cs : List Value} {ty : TypeId} (h : Bx W n cs ty) (ht : ty ≠ 5) (hne : n ≠ b) (off : Nat) (ns : List Int) (hc : ∀ i x, ns[i]? = some x → cs[off + i]? = some (.int .i64 x)) : Ns W base b (some ⟨n, off, none⟩) ns := by
 intro _
 refine ⟨n, off, rfl, ⟨h.lt, fun i r hi k v hv => ?_⟩, .inr ⟨hne, _, _, _, h.h, ht⟩⟩
 have hi' : ns[i]?.map (fun p => [Value.int .i64 p]) = some r := by simpa [pvals] using hi
 rw [Option.map_eq_some_iff] at hi'
 obtain ⟨x, hx, rfl⟩ := hi'
 have hk0 : k = 0 := by
  rcases Nat.eq_zero_or_pos k with h | h
  ·exact h
  ·rw [List.getElem?_eq_none (by simp; omega)] at hv; cases hv
 subst hk0
 simp at hv
 subst hv
 have := h.c (off + i) _ (hc i x hx)
 simpa using this
theorem profT_eq (x : Fm.ProfD) : Fm.profT x = Fm.lineT Fm.kwProfile [(x.levels.length : Nat), (x.steps.length : Nat)] ++ Fm.lineT Fm.kwLevels x.levels ++ Fm.lineT Fm.kwSteps x.steps := rfl
theorem trajT_eq (t : Fm.TrajD) : Fm.trajT t = Fm.kwTraj ++ numsT [t.grid] ++ numsT (Fm.vecL t.grav) ++ [10] ++ Fm.pathT t.path ++ flT Fm.profT t.profs := by
 unfold Fm.trajT
 rw [lineT_eq, show t.grid :: Fm.vecL t.grav = [t.grid] ++ Fm.vecL t.grav from rfl, numsT_app]
 simp only [List.append_assoc]
 rfl
theorem profT_pos (x : Fm.ProfD) : 1 ≤ (Fm.profT x).length := by
 rw [profT_eq, List.length_append, List.length_append]
 have := lineT_pos Fm.kwProfile [(x.levels.length : Nat), (x.steps.length : Nat)]
 omega
set_option maxRecDepth 100000 in
set_option maxHeartbeats 8000000 in
theorem trajectory49 (w0 w : World) (b : Nat) (t : List UInt8) (pv : Value) (p : Fm.TrajD) (hb0 : Below w0.heap.size w0 w) (hP : TrajAt w0 pv p) (h : ∃ v, WrS w w0.heap.size b t v) (hr : Fm.TrajOk p) (hl : t.length + (Fm.trajT p).length ≤ 1048576) (htab : TabW w0.heap.size w0) :
  Calls Tryz.prog 54 #[.pointer (some ⟨b, 0, none⟩), pv] w (WrP w0.heap.size b (t ++ Fm.trajT p) w) := by
 obtain ⟨op, np, oe, ne, f, nf, rfl, hPt, hEd, hPr⟩ := hP
 have hp3 : p.profs.length ≤ 1048576 := by
  have := flT_ge profT_pos p.profs
  rw [trajT_eq] at hl
  simp only [List.length_append] at hl
  omega
 have hb1 : Below w.heap.size w (w.alloc (.cells #[.slice op p.path.pts.length np, .slice oe p.path.edges.length ne, .int .i64 p.grav.1, .int .i64 p.grav.2.1, .int .i64 p.grav.2.2, .int .i64 p.grid, .slice f p.profs.length nf] 43)) := (Below.refl _ _).alloc (Nat.le_refl _) _
 have hbx := Bx.new w [.slice op p.path.pts.length np, .slice oe p.path.edges.length ne, .int .i64 p.grav.1, .int .i64 p.grav.2.1, .int .i64 p.grav.2.2, .int .i64 p.grid, .slice f p.profs.length nf] 43
 obtain ⟨v, hW⟩ := h
 have hF1 := Fr.of (b := b) hW.sz hb1
 have hne : w.heap.size ≠ b := by have := hW.lt; omega
 have HW := Lib.hid (hW.keep hb1)
 have HFA := Lib.hid hF1
 have HB := Lib.hid (hb0.trans hF1.bel)
 have HP : Hid (PathAt w0 (.agg #[.slice op p.path.pts.length np, .slice oe p.path.edges.length ne]) p.path) := Lib.hid ⟨op, np, oe, ne, rfl, hPt, hEd⟩
 have HE := Lib.hid hPr
 have HR := Lib.hid hr
 have HL := Lib.hid hl
 have HT := Lib.hid htab
 have HX := Lib.hid hbx
 clear hb0 hPt hEd hPr hr hl htab hbx hb1 hF1 hW
 go_enter Tryz.func54, Tryz.ntmps54
 go_upto_region 1 with fail
 generalize w.alloc (.cells #[.slice op p.path.pts.length np, .slice oe p.path.edges.length ne, .int .i64 p.grav.1, .int .i64 p.grav.2.1, .int .i64 p.grav.2.2, .int .i64 p.grid, .slice f p.profs.length nf] 43) = w1 at HW HFA HB HX ⊢
 generalize w.heap.size = n at HX hne ⊢
 rw [trajT_eq] at HL
 simp only [List.length_append, List.length_cons, List.length_nil] at HL
 have HHD : Hid (∀ m ∈ p.grid :: Fm.vecL p.grav, Fm.inR64 m) := Lib.hid HR.out.head
 have HC := Lib.hid (open60 w1 w0.heap.size b t v ⟨#[116, 114, 97, 106, 101, 99, 116, 111, 114, 121]⟩ HW.out (by have h1 := HL.out; simp only [Fm.kwTraj, List.length_cons, List.length_nil] at h1; show t.length + 10 ≤ 1048576; omega))
 go_wp2_with fail
 refine HC.out.mono ?_
 clear HC HW
 rintro e w2 ⟨rfl, v2, hW2, hF2⟩
 have HW2 : Hid (WrS w2 w0.heap.size b (t ++ Fm.kwTraj) v2) := Lib.hid hW2
 have HF2 := Lib.hid hF2
 clear hW2 hF2
 have hx2 := HX.out.fr HF2.out hne (by decide)
 have c5 := hx2.c 5 _ rfl
 have cl := hx2.lt
 clear hx2
 have h2b : Below w2.heap.size w2 (w2.alloc (.cells #[.int .i64 p.grid] 3)) := (Below.refl _ _).alloc (Nat.le_refl _) _
 have h2F := Fr.of (b := b) HW2.out.sz h2b
 have HC := Lib.hid (add61 _ w0.heap.size b _ v2 _ 1 [p.grid] (HW2.out.keep h2b) (Ns.new w2 w0.heap.size b [p.grid] 3 (by decide) HW2.out.lt) (by intro m hm; rw [List.mem_singleton] at hm; subst hm; exact HHD.out _ (by simp)) (by have h1 := HL.out; simp only [List.length_append]; omega) (HT.out.on (HB.out.trans (HF2.out.trans h2F).bel)))
 have HF3 := Lib.hid (HF2.out.trans h2F)
 clear h2b h2F HW2 HF2
 go_wp2_with fail
 refine HC.out.mono ?_
 clear HC c5 cl
 rintro e w3 ⟨rfl, v3, hW3, hF3⟩
 have HW3 : Hid (WrS w3 w0.heap.size b (t ++ Fm.kwTraj ++ numsT [p.grid]) v3) := Lib.hid hW3
 have HF4 := Lib.hid (HF3.out.trans hF3)
 clear hW3 hF3 HF3
 have hx3 := HX.out.fr HF4.out hne (by decide)
 have cl := hx3.lt
 have HC := Lib.hid (add62 w3 w0.heap.size b _ v3 (some ⟨n, 2, none⟩) 3 (Fm.vecL p.grav) HW3.out (Ns.box hx3 (by decide) hne 2 (Fm.vecL p.grav) (by
  intro i x hx
  match i, hx with
  | 0, hx => simp only [Fm.vecL, List.getElem?_cons_zero] at hx; injection hx with hx; subst hx; rfl
  | 1, hx => simp only [Fm.vecL, List.getElem?_cons_zero, List.getElem?_cons_succ] at hx; injection hx with hx; subst hx; rfl
  | 2, hx => simp only [Fm.vecL, List.getElem?_cons_zero, List.getElem?_cons_succ] at hx; injection hx with hx; subst hx; rfl
  | i + 3, hx => simp [Fm.vecL] at hx)) (fun m hm => HHD.out m (by simp [hm])) (by have h1 := HL.out; simp only [List.length_append]; omega) (HT.out.on (HB.out.trans HF4.out.bel)))
 clear hx3 HW3
 go_wp2_with fail
 refine HC.out.mono ?_
 clear HC cl
 rintro e w4 ⟨rfl, v4, hW4, hF4⟩
 have HW4 := Lib.hid hW4
 have HF5 := Lib.hid (HF4.out.trans hF4)
 clear hW4 hF4 HF4
 have HC := Lib.hid (end63 w4 w0.heap.size b _ v4 HW4.out (by have h1 := HL.out; simp only [List.length_append]; omega))
 clear HW4
 go_wp2_with fail
 refine HC.out.mono ?_
 clear HC
 rintro e w5 ⟨rfl, v5, hW5, hF5⟩
 have HW5 := Lib.hid hW5
 have HF6 := Lib.hid (HF5.out.trans hF5)
 clear hW5 hF5 HF5
 have hx5 := HX.out.fr HF6.out hne (by decide)
 have c0 := hx5.c 0 _ rfl
 have c1 := hx5.c 1 _ rfl
 have cl := hx5.lt
 clear hx5
 have HC := Lib.hid (path35 w0 w5 b _ _ p.path (HB.out.trans HF6.out.bel) HP.out ⟨_, HW5.out⟩ HR.out.path (by have h1 := HL.out; simp only [List.length_append, List.length_cons, List.length_nil]; omega) HT.out)
 clear HW5
 go_wp2_with fail
 refine HC.out.mono ?_
 clear HC c0 c1 cl
 rintro e w6 ⟨rfl, v6, hW6, hF6⟩
 have HW6 := Lib.hid hW6
 have HF7 := Lib.hid (HF6.out.trans hF6)
 clear hW6 hF6 HF6
 have hx6 := HX.out.fr HF7.out hne (by decide)
 have c6 := hx6.c 6 _ rfl
 have cl := hx6.lt
 clear hx6
 have HL1 : Hid ((t ++ Fm.kwTraj ++ numsT [p.grid] ++ numsT (Fm.vecL p.grav) ++ [10] ++ Fm.pathT p.path).length + (flT Fm.profT p.profs).length ≤ 1048576) := Lib.hid (by have h1 := HL.out; simp only [List.length_append, List.length_cons, List.length_nil]; omega)
 have HTT : Hid (t ++ Fm.trajT p = (t ++ Fm.kwTraj ++ numsT [p.grid] ++ numsT (Fm.vecL p.grav) ++ [10] ++ Fm.pathT p.path) ++ flT Fm.profT p.profs) := Lib.hid (by rw [trajT_eq]; simp only [List.append_assoc])
 generalize t ++ Fm.kwTraj ++ numsT [p.grid] ++ numsT (Fm.vecL p.grav) ++ [10] ++ Fm.pathT p.path = t1 at HW6 HL1 HTT
 go_wp2_with fail
 clear c6 cl
 go_loopw [26] (fun i W => ∃ k : Nat, k ≤ p.profs.length ∧ i = .int .i64 (k : Nat) ∧ (∃ v, WrS W w0.heap.size b (t1 ++ flT Fm.profT (p.profs.take k)) v) ∧ Fr w0.heap.size b w1 W) (fun i _ => p.profs.length - (intOf i).toNat)
 case atStart => exact ⟨0, Nat.zero_le _, rfl, ⟨_, by rw [List.take_zero, show flT Fm.profT [] = [] from rfl, List.append_nil]; exact HW6.out⟩, HF7.out⟩
 case round =>
  obtain ⟨k, hk, rfl, ⟨v1, hW⟩, hF⟩ := hrel
  clear HW6 HF7
  by_cases hlt : k < p.profs.length
  ·obtain ⟨x, hx⟩ : ∃ x, p.profs[k]? = some x := ⟨_, List.getElem?_eq_getElem hlt⟩
   obtain ⟨hx1, hx2, hx3, hx4⟩ := HR.out.prof x (List.mem_of_getElem? hx)
   have hbw := HB.out.trans hF.bel
   obtain ⟨g, off, ol, nl, os, ns, hon, glt', x0', x1', hsl, hss⟩ := HE.out.get hx
   subst hon
   have x0 : wr.cell? ⟨g, off + k * 2, none⟩ = some (.slice ol x.levels.length nl) := (hbw.cell (p := ⟨g, off + k * 2, none⟩) glt').trans x0'
   have x1 : wr.cell? ⟨g, off + k * 2 + 1, none⟩ = some (.slice os x.steps.length ns) := (hbw.cell (p := ⟨g, off + k * 2 + 1, none⟩) glt').trans x1'
   have glt : g < wr.heap.size := Nat.lt_of_lt_of_le glt' hbw.size
   have hlen : (t1 ++ flT Fm.profT (p.profs.take k)).length + (Fm.profT x).length ≤ 1048576 := by
    have h1 := HL1.out
    have h2 := flT_le Fm.profT p.profs (k + 1)
    rw [flT_take hx] at h2
    simp only [List.length_append] at h1 h2 ⊢
    omega
   have HT3 := Lib.hid (flT_take (f := Fm.profT) hx)
   generalize ht3 : t1 ++ flT Fm.profT (p.profs.take k) = t3 at hW hlen
   have HT4 : Hid (t1 ++ flT Fm.profT (p.profs.take (k + 1)) = t3 ++ Fm.profT x) := Lib.hid (by rw [HT3.out, ← ht3, List.append_assoc])
   clear ht3 HT3
   rw [profT_eq, List.length_append, List.length_append] at hlen
   have hb3 : Below wr.heap.size wr (wr.alloc (.cells #[.slice ol x.levels.length nl, .slice os x.steps.length ns] 92)) := (Below.refl _ _).alloc (Nat.le_refl _) _
   have hbx := Bx.new wr [.slice ol x.levels.length nl, .slice os x.steps.length ns] 92
   have hf3 := Fr.of (b := b) hW.sz hb3
   have hne3 : wr.heap.size ≠ b := by have := hW.lt; omega
   have HW3 := Lib.hid (hW.keep hb3)
   have HF3 := Lib.hid (hF.trans hf3)
   have HB3 := Lib.hid (hbw.trans hf3.bel)
   have HX3 := Lib.hid hbx
   have HSL := Lib.hid hsl
   have HSS := Lib.hid hss
   have HL3 := Lib.hid hlen
   have HX34 := Lib.hid (And.intro hx3 hx4)
   clear hlen hW hF hx hbw hsl hss x0' x1' glt' hb3 hbx hf3 hx3 hx4
   have c30 := HX3.out.c 0 _ rfl
   have c31 := HX3.out.c 1 _ rfl
   have cl3 := HX3.out.lt
   go_upto_region 9 with fail
   have hsz3 : (wr.alloc (.cells #[.slice ol x.levels.length nl, .slice os x.steps.length ns] 92)).heap.size = wr.heap.size + 1 := by simp
   generalize wr.alloc (.cells #[.slice ol x.levels.length nl, .slice os x.steps.length ns] 92) = w3 at HW3 HF3 HB3 HX3 hsz3 c30 c31 cl3 ⊢
   clear x0 x1 glt
   generalize wr.heap.size = n3 at HX3 hsz3 hne3 c30 c31 cl3 ⊢
   have h2b : Below w3.heap.size w3 (w3.alloc (.cells #[.int .i64 (x.levels.length : Nat), .int .i64 (x.steps.length : Nat)] 3)) := (Below.refl _ _).alloc (Nat.le_refl _) _
   have h2N := Ns.new w3 w0.heap.size b [((x.levels.length : Nat) : Int), ((x.steps.length : Nat) : Int)] 3 (by decide) HW3.out.lt
   have h2F := Fr.of (b := b) HW3.out.sz h2b
   have HF4 := Lib.hid h2F
   have HC := Lib.hid (line56 _ w0.heap.size b t3 ⟨#[112, 114, 111, 102, 105, 108, 101]⟩ _ 2 [((x.levels.length : Nat) : Int), ((x.steps.length : Nat) : Int)] ⟨_, HW3.out.keep h2b⟩ h2N (line_nn _ _ hx1 hx2) (by have h1 := HL3.out; show t3.length + (Fm.lineT [112, 114, 111, 102, 105, 108, 101] [((x.levels.length : Nat) : Int), ((x.steps.length : Nat) : Int)]).length ≤ 1048576; simp only [Fm.kwProfile] at h1; omega) (HT.out.on (HB3.out.trans h2F.bel)))
   clear h2b h2N h2F hsz3
   go_wp2_with fail
   refine HC.out.mono ?_
   clear HC HW3 c30 c31 cl3
   rintro e W4 ⟨rfl, v4, hW4, hF4⟩
   have HW4 : Hid (WrS W4 w0.heap.size b (t3 ++ Fm.lineT Fm.kwProfile [((x.levels.length : Nat) : Int), ((x.steps.length : Nat) : Int)]) v4) := Lib.hid hW4
   have HF5 := Lib.hid (HF4.out.trans hF4)
   clear hW4 hF4 HF4
   have hx3 := HX3.out.fr HF5.out hne3 (by decide)
   have c30 := hx3.c 0 _ rfl
   have cl3 := hx3.lt
   clear hx3
   have HC := Lib.hid (line57 W4 w0.heap.size b _ ⟨#[108, 101, 118, 101, 108, 115]⟩ ol nl x.levels ⟨_, HW4.out⟩ (Ns.old HSL.out (HB3.out.trans HF5.out.bel) b) HX34.out.1 (by have h1 := HL3.out; rw [List.length_append]; show _ + _ + (Fm.lineT [108, 101, 118, 101, 108, 115] x.levels).length ≤ 1048576; simp only [Fm.kwLevels] at h1; omega) (HT.out.on (HB3.out.trans HF5.out.bel)))
   go_wp2_with fail
   refine HC.out.mono ?_
   clear HC HW4 c30 cl3
   rintro e W5 ⟨rfl, v5, hW5, hF5⟩
   have HW5 : Hid (WrS W5 w0.heap.size b (t3 ++ Fm.lineT Fm.kwProfile [((x.levels.length : Nat) : Int), ((x.steps.length : Nat) : Int)] ++ Fm.lineT Fm.kwLevels x.levels) v5) := Lib.hid hW5
   have HF6 := Lib.hid (HF5.out.trans hF5)
   clear hW5 hF5 HF5
   have hx3 := HX3.out.fr HF6.out hne3 (by decide)
   have c31 := hx3.c 1 _ rfl
   have cl3 := hx3.lt
   clear hx3
   have HC := Lib.hid (line56 W5 w0.heap.size b _ ⟨#[115, 116, 101, 112, 115]⟩ os ns x.steps ⟨_, HW5.out⟩ (Ns.old HSS.out (HB3.out.trans HF6.out.bel) b) HX34.out.2 (by have h1 := HL3.out; rw [List.length_append, List.length_append]; show _ + _ + _ + (Fm.lineT [115, 116, 101, 112, 115] x.steps).length ≤ 1048576; simp only [Fm.kwSteps] at h1; omega) (HT.out.on (HB3.out.trans HF6.out.bel)))
   go_wp2_with fail
   refine HC.out.mono ?_
   clear HC HW5 c31 cl3
   rintro e W6 ⟨rfl, v6, hW6, hF6⟩
   have HW6 : Hid (WrS W6 w0.heap.size b (t1 ++ flT Fm.profT (p.profs.take (k + 1))) v6) := Lib.hid (by
    rw [HT4.out, profT_eq, ← List.append_assoc, ← List.append_assoc]; exact hW6)
   have HF7 := Lib.hid (HF3.out.trans (HF6.out.trans hF6))
   clear hW6 hF6 HF6
   go_wp2_with fail
   go_roundw
   case rel => exact ⟨k + 1, by omega, by simp, ⟨_, HW6.out⟩, HF7.out⟩
   case measure => simp [intOf]; omega
  ·have hke : k = p.profs.length := by omega
   subst hke
   rw [List.take_length] at hW
   have HW : Hid (WrS wr w0.heap.size b (t ++ Fm.trajT p) v1) := Lib.hid (by rw [HTT.out]; exact hW)
   have HF := Lib.hid (HFA.out.trans hF)
   clear hW hF
   go_wp2
   refine bodyPost_end (v := .tuple #[]) (by simp [results, Tryz.results54, go_sem]) rfl ?_
   exact ⟨rfl, _, HW.out, HF.out⟩
end Go.Proofs.Ng
