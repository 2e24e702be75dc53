/-
  Texts put together: Ec Ed.
-/
import Derived.Test.YtlpcihfkkgifkaaGreatDoorZFormatTrajectoriesCard19
import Derived.Test.YtlpcihfkkgifkaaGreatDoorZFormatTrajectoriesCard16
import Derived.Test.YtlpcihfkkgifkaaGreatDoorZFormatTrajectoriesCard18
import Derived.Test.YtlpcihfkkgifkaaGreatDoorZFormatTrajectoriesCard15
import Derived.Deep.RegionHeld3
set_option linter.unusedVariables false
section
/-
  Walks: the reference's FormatTrajectory.
-/
namespace Go.Proofs.Ng
open Go.RowKit

theorem keepT {V X : World} {n : Nat} {a0 a1 a2 a3 a4 a5 a6 : Value} {ty : TypeId} (h : Bx V n [a0, a1, a2, a3, a4, a5, a6] ty) (hb : Below V.heap.size V X) : X.cell? ⟨n, 0, none⟩ = some a0 ∧ X.cell? ⟨n, 1, none⟩ = some a1 ∧ X.cell? ⟨n, 2, none⟩ = some a2 ∧ X.cell? ⟨n, 3, none⟩ = some a3 ∧ X.cell? ⟨n, 4, none⟩ = some a4 ∧ X.cell? ⟨n, 5, none⟩ = some a5 ∧ n < X.heap.size ∧ Below V.heap.size V X :=
  ⟨(h.keep hb).c 0 _ rfl, (h.keep hb).c 1 _ rfl, (h.keep hb).c 2 _ rfl, (h.keep hb).c 3 _ rfl, (h.keep hb).c 4 _ rfl, (h.keep hb).c 5 _ rfl, (h.keep hb).lt, hb⟩
theorem keep2 {V X : World} {n : Nat} {a0 a1 : Value} {ty : TypeId} (h : Bx V n [a0, a1] ty) (hb : Below V.heap.size V X) : X.cell? ⟨n, 0, none⟩ = some a0 ∧ X.cell? ⟨n, 1, none⟩ = some a1 ∧ n < X.heap.size ∧ Below V.heap.size V X :=
  ⟨(h.keep hb).c 0 _ rfl, (h.keep hb).c 1 _ rfl, (h.keep hb).lt, hb⟩
set_option maxRecDepth 100000 in
set_option maxHeartbeats 8000000 in
theorem refFormatTraj14 (w : World) (pv : Value) (p : Fm.TrajD) (hP : TrajAt w pv p) (hr : Fm.TrajOk p) (hl : (Fm.docTr p).length ≤ 1048576) (htab : TabW w.heap.size w) :
    Calls Tryz.prog 14 #[pv] w (fun e W' => e = .returned (fmtV (Fm.formatTr p)) ∧ Below w.heap.size w W') := by
  obtain ⟨hm1, hm2, hm3, hlt⟩ := traj_sizes hr hl
  obtain ⟨op, np, oe, ne, f, nf, rfl, hPt, hEd, hPr⟩ := hP
  have hb1 : Below w.heap.size w (w.alloc (.cells #[.slice op p.path.pts.length np, .slice oe p.path.edges.length ne, .int .i64 p.grav.1, .int .i64 p.grav.2.1, .int .i64 p.grav.2.2, .int .i64 p.grid, .slice f p.profs.length nf] 41)) := (Below.refl _ _).alloc (Nat.le_refl _) _
  have hbx := Bx.new w [.slice op p.path.pts.length np, .slice oe p.path.edges.length ne, .int .i64 p.grav.1, .int .i64 p.grav.2.1, .int .i64 p.grav.2.2, .int .i64 p.grid, .slice f p.profs.length nf] 41
  have hPP : PathAt w (.agg #[.slice op p.path.pts.length np, .slice oe p.path.edges.length ne]) p.path := ⟨op, np, oe, ne, rfl, hPt, hEd⟩
  have H22 := Lib.hid (right22 _ _ p.path (hPP.keep hb1) hm1 hm2)
  have HP := Lib.hid hPP
  have HPR := Lib.hid hPr
  have HX := Lib.hid hbx
  have HB := Lib.hid hb1
  have HT := Lib.hid htab
  have HR := Lib.hid hr
  clear hb1 hbx htab hr hPP hPt hEd hPr
  go_enter Tryz.func14, Tryz.ntmps14
  go_upto_region 1 with fail
  generalize w.alloc (.cells #[.slice op p.path.pts.length np, .slice oe p.path.edges.length ne, .int .i64 p.grav.1, .int .i64 p.grav.2.1, .int .i64 p.grav.2.2, .int .i64 p.grid, .slice f p.profs.length nf] 41) = wx at HX HB H22 ⊢
  obtain ⟨n, hn⟩ : ∃ n, n = w.heap.size := ⟨_, rfl⟩
  have HN := Lib.hid hn
  rw [← hn] at HX ⊢
  clear hn
  have c0 := HX.out.c 0 _ rfl
  have c1 := HX.out.c 1 _ rfl
  have clt := HX.out.lt
  cases hf : Fm.rightP p.path with
  | false =>
    have HF := Lib.hid (formatTr_no hf)
    rw [hf] at H22
    clear hf
    go_wp2_with fail
    refine H22.out.mono ?_
    rintro e W1 ⟨rfl, hb2⟩
    have HB2 := Lib.hid (below_call HB.out hb2)
    clear hb2 H22
    go_wp2
    go_ret2
    exact ⟨by rw [HF.out]; rfl, HB2.out⟩
  | true =>
    rw [hf] at H22
    by_cases heq : p.profs.length = p.path.edges.length
    · have hF := formatTr_yes hf heq hl
      have HFF := Lib.hid hF
      have hd : ((p.profs.length : Int) != (p.path.edges.length : Int)) = false := by rw [heq]; simp
      clear hF hf heq
      go_wp2_with fail
      refine H22.out.mono ?_
      clear H22
      rintro e W1 ⟨rfl, hb2⟩
      have HX1 := Lib.hid (HX.out.keep hb2)
      have HB2 := Lib.hid (below_call HB.out hb2)
      clear hb2 HX HB c0 c1 clt
      have c0 := HX1.out.c 0 _ rfl
      have c1 := HX1.out.c 1 _ rfl
      have c6 := HX1.out.c 6 _ rfl
      have clt := HX1.out.lt
      have HL : Hid ((Fm.lineT Fm.kwTraj (p.grid :: Fm.vecL p.grav)).length + (Fm.pathT p.path).length + (flT Fm.profT p.profs).length ≤ 1048576) := Lib.hid (by
        have h := hlt
        unfold Fm.trajT at h
        rw [List.length_append, List.length_append] at h
        exact h)
      have hcat := cat (a := Fm.lineT Fm.kwTraj (p.grid :: Fm.vecL p.grav)) (c := Fm.pathT p.path) (by have := HL.out; omega)
      have hdl := hl
      go_upto_region 3 with fail
      clear c0 c1 c6 clt hd
      have c0 := HX1.out.c 0 _ rfl
      have s0 := HX1.out.c 2 _ rfl
      have s1 := HX1.out.c 3 _ rfl
      have s2 := HX1.out.c 4 _ rfl
      have slt := HX1.out.lt
      go_region_held_law (fun X => X.cell? ⟨n, 0, none⟩ = some (.slice op p.path.pts.length np) ∧ X.cell? ⟨n, 1, none⟩ = some (.slice oe p.path.edges.length ne) ∧ X.cell? ⟨n, 2, none⟩ = some (.int .i64 p.grav.1) ∧ X.cell? ⟨n, 3, none⟩ = some (.int .i64 p.grav.2.1) ∧ X.cell? ⟨n, 4, none⟩ = some (.int .i64 p.grav.2.2) ∧ X.cell? ⟨n, 5, none⟩ = some (.int .i64 p.grid) ∧ n < X.heap.size ∧ Below W1.heap.size W1 X)
        (first
          | exact keepT HX1.out hbb
          | exact keepT HX1.out hba
          | exact keepT HX1.out (Below.refl _ _).drew
          | exact keepT HX1.out ((Below.refl _ _).drew.alloc (Nat.le_refl _) _))
        (first
          | (go_simp
             go_at_call 28
             refine (line28 _ Fm.kwTraj _ 4 (p.grid :: Fm.vecL p.grav) (Sl.new W1.drew (p.grid :: Fm.vecL p.grav) 2) HR.out.head (by have := HL.out; omega) (tab_size HT.out (below_call HB2.out ((Below.refl _ _).drew.alloc (Nat.le_refl _) _)))).mono ?_
             rintro e Xa ⟨rfl, hb28⟩
             have hba : Below W1.heap.size W1 Xa := below_call ((Below.refl _ _).drew.alloc (Nat.le_refl _) _) hb28)
          | (go_simp
             go_at_call 24
             refine (pathLines24 _ _ p.path (HP.out.keep (below_call HB2.out hba)) HR.out.path (by have := HL.out; omega) (tab_size HT.out (below_call HB2.out hba))).mono ?_
             rintro e Xb ⟨rfl, hb24⟩
             have hbb := below_call hba hb24))
      have HB3 := Lib.hid (below_call HB2.out hbb)
      have HX3 := Lib.hid (HX1.out.keep hbb)
      clear hbb hba hb24 hb28 hcat c0 s0 s1 s2 slt HX1 HB2 HP
      have HL1 : Hid ((Fm.lineT Fm.kwTraj (p.grid :: Fm.vecL p.grav) ++ Fm.pathT p.path).length + (flT Fm.profT p.profs).length ≤ 1048576) := Lib.hid (by have := HL.out; rw [List.length_append]; omega)
      have HTT : Hid (Fm.trajT p = (Fm.lineT Fm.kwTraj (p.grid :: Fm.vecL p.grav) ++ Fm.pathT p.path) ++ flT Fm.profT p.profs) := Lib.hid rfl
      generalize Fm.lineT Fm.kwTraj (p.grid :: Fm.vecL p.grav) ++ Fm.pathT p.path = t1 at HL1 HTT ⊢
      go_wp2_with fail
      go_loopw [4, 5] (fun s i W => ∃ k : Nat, k ≤ p.profs.length ∧ i = .int .i64 (k : Nat) ∧ s = .string ⟨(t1 ++ flT Fm.profT (p.profs.take k)).toArray⟩ ∧ Below w.heap.size w W ∧ Bx W n [.slice op p.path.pts.length np, .slice oe p.path.edges.length ne, .int .i64 p.grav.1, .int .i64 p.grav.2.1, .int .i64 p.grav.2.2, .int .i64 p.grid, .slice f p.profs.length nf] 41) (fun _ i _ => p.profs.length - (intOf i).toNat)
      case atStart => exact ⟨0, Nat.zero_le _, rfl, by rw [List.take_zero, show flT Fm.profT [] = [] from rfl, List.append_nil], HB3.out, HX3.out⟩
      case round =>
        obtain ⟨k, hk, rfl, rfl, hB, hX⟩ := hrel
        clear HB3 HX3
        have c6 := hX.c 6 _ rfl
        have clt := hX.lt
        by_cases hlt : k < p.profs.length
        · obtain ⟨x, hx⟩ : ∃ x, p.profs[k]? = some x := ⟨_, List.getElem?_eq_getElem hlt⟩
          obtain ⟨hx1, hx2, hx3, hx4⟩ := HR.out.prof x (List.mem_of_getElem? hx)
          obtain ⟨g, off, ol, nl, os, ns, hon, glt, x0, x1, hsl, hss⟩ := (HPR.out.keep hB).get hx
          subst hon
          have hlen : (t1 ++ flT Fm.profT (p.profs.take k)).length + (Fm.profT x).length ≤ 1048576 := by
            have h1 := HL1.out
            have h2 := flT_le Fm.profT p.profs (k + 1)
            rw [flT_take hx] at h2
            simp only [List.length_append] at h1 h2 ⊢
            omega
          have HT3 := Lib.hid (flT_take (f := Fm.profT) hx)
          generalize ht3 : t1 ++ flT Fm.profT (p.profs.take k) = t3 at hlen ⊢
          have HT4 : Hid (t1 ++ flT Fm.profT (p.profs.take (k + 1)) = t3 ++ Fm.profT x) := Lib.hid (by rw [HT3.out, ← ht3, List.append_assoc])
          clear ht3 HT3
          rw [profT_eq, List.length_append, List.length_append] at hlen
          have hb3 : Below wr.heap.size wr (wr.alloc (.cells #[.slice ol x.levels.length nl, .slice os x.steps.length ns] 44)) := (Below.refl _ _).alloc (Nat.le_refl _) _
          have HX5 := Lib.hid (Bx.new wr [.slice ol x.levels.length nl, .slice os x.steps.length ns] 44)
          have HX2 := Lib.hid (hX.keep hb3)
          have HB2 := Lib.hid (below_call hB hb3)
          have HSL := Lib.hid (hsl.keep hb3)
          have HSS := Lib.hid (hss.keep hb3)
          have HLN := Lib.hid hlen
          have HX34 := Lib.hid (And.intro hx3 hx4)
          have hcat1 := cat (a := t3) (c := Fm.lineT Fm.kwProfile [((x.levels.length : Nat) : Int), ((x.steps.length : Nat) : Int)]) (by omega)
          have hcat2 := cat (a := t3 ++ Fm.lineT Fm.kwProfile [((x.levels.length : Nat) : Int), ((x.steps.length : Nat) : Int)]) (c := Fm.lineT Fm.kwLevels x.levels) (by rw [List.length_append]; omega)
          have hcat3 := cat (a := t3 ++ Fm.lineT Fm.kwProfile [((x.levels.length : Nat) : Int), ((x.steps.length : Nat) : Int)] ++ Fm.lineT Fm.kwLevels x.levels) (c := Fm.lineT Fm.kwSteps x.steps) (by rw [List.length_append, List.length_append]; omega)
          have HPE := Lib.hid (profT_eq x)
          have H28a : Hid (∀ (X : World) (oa : Option Addr) (ca : Nat), Sl X oa 1 (pvals [((x.levels.length : Nat) : Int), ((x.steps.length : Nat) : Int)]) → Below w.heap.size w X → Calls Tryz.prog 28 #[.string ⟨#[112, 114, 111, 102, 105, 108, 101]⟩, .slice oa 2 ca] X (fun e W' => e = .returned (.string ⟨(Fm.lineT Fm.kwProfile [((x.levels.length : Nat) : Int), ((x.steps.length : Nat) : Int)]).toArray⟩) ∧ Below X.heap.size X W')) := Lib.hid (fun X oa ca hS hB => line28 X Fm.kwProfile oa ca [((x.levels.length : Nat) : Int), ((x.steps.length : Nat) : Int)] hS (line_nn _ _ hx1 hx2) (by have := HLN.out; omega) (tab_size HT.out hB))
          have H28b : Hid (∀ X : World, Sl X ol 1 (pvals x.levels) → Below w.heap.size w X → Calls Tryz.prog 28 #[.string ⟨#[108, 101, 118, 101, 108, 115]⟩, .slice ol x.levels.length nl] X (fun e W' => e = .returned (.string ⟨(Fm.lineT Fm.kwLevels x.levels).toArray⟩) ∧ Below X.heap.size X W')) := Lib.hid (fun X hS hB => line28 X Fm.kwLevels ol nl x.levels hS HX34.out.1 (by have := HLN.out; omega) (tab_size HT.out hB))
          have H28c : Hid (∀ (X : World) (oa : Option Addr) (ca : Nat), Sl X oa 1 (pvals x.steps) → Below w.heap.size w X → Calls Tryz.prog 28 #[.string ⟨#[115, 116, 101, 112, 115]⟩, .slice oa x.steps.length ca] X (fun e W' => e = .returned (.string ⟨(Fm.lineT Fm.kwSteps x.steps).toArray⟩) ∧ Below X.heap.size X W')) := Lib.hid (fun X oa ca hS hB => line28 X Fm.kwSteps oa ca x.steps hS HX34.out.2 (by have := HLN.out; omega) (tab_size HT.out hB))
          generalize Fm.lineT Fm.kwProfile [((x.levels.length : Nat) : Int), ((x.steps.length : Nat) : Int)] = l1 at hcat1 hcat2 hcat3 HPE H28a
          generalize Fm.lineT Fm.kwLevels x.levels = l2 at hcat2 hcat3 HPE H28b
          generalize Fm.lineT Fm.kwSteps x.steps = l3 at hcat3 HPE H28c
          generalize ha1 : t3 ++ l1 = a1 at hcat1 hcat2 hcat3
          generalize ha2 : a1 ++ l2 = a2 at hcat2 hcat3
          generalize ha3 : a2 ++ l3 = a3 at hcat3
          have HT5 : Hid (a3 = t1 ++ flT Fm.profT (p.profs.take (k + 1))) := Lib.hid (by rw [HT4.out, HPE.out, ← ha3, ← ha2, ← ha1]; simp only [List.append_assoc])
          clear ha1 ha2 ha3
          clear hlen hx hB hX hsl hss hb3 hx3 hx4
          go_upto_region 8 with fail
          clear c6 clt x0 x1 glt
          generalize wr.alloc (.cells #[.slice ol x.levels.length nl, .slice os x.steps.length ns] 44) = V9 at HX5 HX2 HB2 HSL HSS ⊢
          obtain ⟨n9, hn9⟩ : ∃ n9, wr.heap.size = n9 := ⟨_, rfl⟩
          rw [hn9] at HX5 ⊢
          have s0 := HX5.out.c 0 _ rfl
          have s1 := HX5.out.c 1 _ rfl
          have slt := HX5.out.lt
          have hs9 : Sl (V9.alloc (.cells #[.int .i64 (x.levels.length : Nat), .int .i64 (x.steps.length : Nat)] 2)).drew (some ⟨V9.heap.size, 0, none⟩) 1 (pvals [((x.levels.length : Nat) : Int), ((x.steps.length : Nat) : Int)]) := Sl.new V9.drew [((x.levels.length : Nat) : Int), ((x.steps.length : Nat) : Int)] 2
          have hb9 : Below V9.heap.size V9 (V9.alloc (.cells #[.int .i64 (x.levels.length : Nat), .int .i64 (x.steps.length : Nat)] 2)).drew := (Below.refl _ _).drew.alloc (Nat.le_refl _) _
          have hbw9 := below_call HB2.out hb9
          go_region_held_law (fun X => X.cell? ⟨n9, 0, none⟩ = some (.slice ol x.levels.length nl) ∧ X.cell? ⟨n9, 1, none⟩ = some (.slice os x.steps.length ns) ∧ n9 < X.heap.size ∧ Below V9.heap.size V9 X)
            (first
              | exact keep2 HX5.out hbd
              | exact keep2 HX5.out hbc
              | exact keep2 HX5.out hbb
              | exact keep2 HX5.out hba
              | exact keep2 HX5.out (Below.refl _ _).drew
              | exact keep2 HX5.out ((Below.refl _ _).drew.alloc (Nat.le_refl _) _))
            (first
              | (go_simp
                 go_at_call 28
                 with_reducible refine (H28a.out _ _ _ hs9 hbw9).mono ?_
                 rintro e Xa ⟨rfl, hb28⟩
                 have hba := below_call hb9 hb28
                 clear hb28)
              | (go_simp
                 go_at_call 28
                 with_reducible refine (H28b.out _ (HSL.out.keep hba) (below_call HB2.out hba)).mono ?_
                 rintro e Xb ⟨rfl, hb28⟩
                 have hbb := below_call hba hb28
                 clear hb28)
              | (go_simp
                 go_at_call 29
                 with_reducible refine (wide29 _ os ns x.steps (HSS.out.keep hbb) hx2).mono ?_
                 rintro e Xc ⟨oa29, ca29, rfl, -, hS29, hb29, -⟩
                 have hbc := below_call hbb hb29
                 clear hb29)
              | (go_simp
                 go_at_call 28
                 with_reducible refine (H28c.out _ _ _ hS29 (below_call HB2.out hbc)).mono ?_
                 rintro e Xd ⟨rfl, hb28⟩
                 have hbd := below_call hbc hb28
                 clear hb28))
          have HB9 := Lib.hid (below_call HB2.out hbd)
          have HX9 := Lib.hid (HX2.out.keep hbd)
          clear hbd hbc hba hbb hS29 s0 s1 slt hcat1 hcat2 hcat3
          go_wp2_with fail
          go_roundw
          case rel => exact ⟨k + 1, by omega, by simp, by rw [HT5.out], HB9.out, HX9.out⟩
          case measure => simp [intOf]; omega
        · have hke : k = p.profs.length := by omega
          subst hke
          rw [List.take_length]
          have HB9 := Lib.hid hB
          have H23 := Lib.hid (document23 wr (Fm.trajT p) (by exact hdl))
          rw [show t1 ++ flT Fm.profT p.profs = Fm.trajT p from HTT.out.symm]
          clear hB hX
          go_wp2_with fail
          refine H23.out.mono ?_
          clear H23
          rintro e W3 ⟨rfl, hw⟩
          subst hw
          unfold fmtV
          go_wp2
          go_ret2
          exact ⟨by rw [HFF.out]; rfl, HB9.out⟩
    · have HF := Lib.hid (formatTr_no2 heq)
      have hd : ((p.profs.length : Int) != (p.path.edges.length : Int)) = true := by simp; omega
      clear hf heq
      go_wp2_with fail
      refine H22.out.mono ?_
      clear H22
      rintro e W1 ⟨rfl, hb2⟩
      have HX1 := Lib.hid (HX.out.keep hb2)
      have HB2 := Lib.hid (below_call HB.out hb2)
      clear hb2 HX HB c0 c1 clt
      have c1 := HX1.out.c 1 _ rfl
      have c6 := HX1.out.c 6 _ rfl
      have clt := HX1.out.lt
      go_wp2
      go_ret2
      exact ⟨by rw [HF.out]; rfl, HB2.out⟩
end Go.Proofs.Ng
end

section
/-
  Walks: equal trajectories are the same.
-/
namespace Go.Proofs.Ng
open Go.RowKit

theorem keepQ {V X Y : World} {g1 o1 g2 o2 : Nat} {a b c d : Value} (l1 : g1 < V.heap.size) (l2 : g2 < V.heap.size) (h : X.cell? ⟨g1, o1, none⟩ = some a ∧ X.cell? ⟨g1, o1 + 1, none⟩ = some b ∧ X.cell? ⟨g2, o2, none⟩ = some c ∧ X.cell? ⟨g2, o2 + 1, none⟩ = some d ∧ Below V.heap.size V X) (hb : Below X.heap.size X Y) :
    Y.cell? ⟨g1, o1, none⟩ = some a ∧ Y.cell? ⟨g1, o1 + 1, none⟩ = some b ∧ Y.cell? ⟨g2, o2, none⟩ = some c ∧ Y.cell? ⟨g2, o2 + 1, none⟩ = some d ∧ Below V.heap.size V Y := by
  obtain ⟨h1, h2, h3, h4, h5⟩ := h
  have hz := h5.size
  have l6 : g1 < X.heap.size := by omega
  have l13 : g2 < X.heap.size := by omega
  exact ⟨(hb.cell (p := ⟨g1, o1, none⟩) l6).trans h1, (hb.cell (p := ⟨g1, o1 + 1, none⟩) l6).trans h2, (hb.cell (p := ⟨g2, o2, none⟩) l13).trans h3, (hb.cell (p := ⟨g2, o2 + 1, none⟩) l13).trans h4, below_call h5 hb⟩
set_option maxRecDepth 100000 in
set_option maxHeartbeats 4000000 in
theorem sameProfiles55 (w : World) (oa ob : Option Addr) (ca cb : Nat) (l : List Fm.ProfD) (h1 : Profs w oa l) (h2 : Profs w ob l) (hm : l.length ≤ 1000000000) (hr : ∀ x ∈ l, x.levels.length ≤ 1000000000 ∧ x.steps.length ≤ 1000000000) :
    Calls Tryz.prog 55 #[.slice oa l.length ca, .slice ob l.length cb] w (BoolP true w) := by
  have H1 := Lib.hid h1
  have H2 := Lib.hid h2
  have HR := Lib.hid hr
  have hq : ((l.length : Int) != (l.length : Int)) = false := by simp
  clear h1 h2 hr
  go_enter Tryz.func55, Tryz.ntmps55
  go_wp2_with fail
  clear hq
  go_loopw [5] (fun i W => ∃ k : Nat, k ≤ l.length ∧ i = .int .i64 (k : Nat) ∧ Below w.heap.size w W) (fun i _ => l.length - (intOf i).toNat)
  case atStart => exact ⟨0, Nat.zero_le _, rfl, Below.refl _ _⟩
  case round =>
    obtain ⟨k, hk, rfl, hB⟩ := hrel
    by_cases hlt : k < l.length
    · obtain ⟨x, hx⟩ : ∃ x, l[k]? = some x := ⟨_, List.getElem?_eq_getElem hlt⟩
      obtain ⟨g1, o1, q1, c1, p1, d1, e1, l1, x1, y1, s1, t1⟩ := (H1.out.keep hB).get hx
      obtain ⟨g2, o2, q2, c2, p2, d2, e2, l2, x2, y2, s2, t2⟩ := (H2.out.keep hB).get hx
      subst e1 e2
      have hkl : (k : Int) < (l.length : Int) := by omega
      obtain ⟨hm1, hm2⟩ := HR.out x (List.mem_of_getElem? hx)
      have HC := Lib.hid (fun X (hX : Below wr.heap.size wr X) => same69 X q1 q2 c1 c2 x.levels (s1.keep hX) (s2.keep hX) hm1)
      have HC2 := Lib.hid (fun X (hX : Below wr.heap.size wr X) => same71 X p1 p2 d1 d2 x.steps (t1.keep hX) (t2.keep hX) hm2)
      have HB := Lib.hid hB
      have hS0 : wr.cell? ⟨g1, o1 + k * 2, none⟩ = some (.slice q1 x.levels.length c1) ∧ wr.cell? ⟨g1, o1 + k * 2 + 1, none⟩ = some (.slice p1 x.steps.length d1) ∧ wr.cell? ⟨g2, o2 + k * 2, none⟩ = some (.slice q2 x.levels.length c2) ∧ wr.cell? ⟨g2, o2 + k * 2 + 1, none⟩ = some (.slice p2 x.steps.length d2) ∧ Below wr.heap.size wr wr := ⟨x1, y1, x2, y2, Below.refl _ _⟩
      clear hB hx s1 s2 t1 t2 hm1 hm2
      go_upto_region 6 with fail
      clear x1 x2 y1 y2
      go_region_held3 (fun X => X.cell? ⟨g1, o1 + k * 2, none⟩ = some (.slice q1 x.levels.length c1) ∧ X.cell? ⟨g1, o1 + k * 2 + 1, none⟩ = some (.slice p1 x.steps.length d1) ∧ X.cell? ⟨g2, o2 + k * 2, none⟩ = some (.slice q2 x.levels.length c2) ∧ X.cell? ⟨g2, o2 + k * 2 + 1, none⟩ = some (.slice p2 x.steps.length d2) ∧ Below wr.heap.size wr X)
        (first
          | assumption
          | exact hS0
          | exact keepQ l1 l2 (by assumption) (by assumption)
          | exact keepQ l1 l2 (by assumption) (Below.refl _ _).drew)
        (first
          | (go_at_call 69
             with_reducible refine (HC.out _ (by assumption : _ ∧ _ ∧ _ ∧ _ ∧ Below wr.heap.size wr _).2.2.2.2).mono ?_
             rintro e Xa ⟨rfl, hba⟩)
          | (go_at_call 71
             with_reducible refine (HC2.out _ (by assumption : _ ∧ _ ∧ _ ∧ _ ∧ Below wr.heap.size wr _).2.2.2.2).mono ?_
             rintro e Xa ⟨rfl, hba⟩))
      have hfin := below_call HB.out (by assumption : _ ∧ _ ∧ _ ∧ _ ∧ Below wr.heap.size wr _).2.2.2.2
      have HB2 := Lib.hid hfin
      clear hfin hS0 HB HC HC2
      go_wp2_with fail
      go_roundw
      case rel => exact ⟨k + 1, by omega, by simp, HB2.out⟩
      case measure => simp [intOf]; omega
    · have hke : k = l.length := by omega
      subst hke
      go_wp2
      go_ret
      exact boolP_mk rfl hB
structure TrajSmall (t : Fm.TrajD) : Prop where
  path : PathSmall t.path
  np : t.profs.length ≤ 1000000000
  pr : ∀ x ∈ t.profs, x.levels.length ≤ 1000000000 ∧ x.steps.length ≤ 1000000000
set_option maxRecDepth 100000 in
set_option maxHeartbeats 8000000 in
theorem sameTraj33 (w : World) (v1 v2 : Value) (p : Fm.TrajD) (h1 : TrajAt w v1 p) (h2 : TrajAt w v2 p) (hm : TrajSmall p) : Calls Tryz.prog 33 #[v1, v2] w (BoolP true w) := by
  obtain ⟨op, ca, oe, cb, f1, cf1, rfl, hp1, he1, hf1⟩ := h1
  obtain ⟨pp, cc, pe, cd, f2, cf2, rfl, hp2, he2, hf2⟩ := h2
  have hA1 : PathAt w (.agg #[.slice op p.path.pts.length ca, .slice oe p.path.edges.length cb]) p.path := ⟨_, _, _, _, rfl, hp1, he1⟩
  have hA2 : PathAt w (.agg #[.slice pp p.path.pts.length cc, .slice pe p.path.edges.length cd]) p.path := ⟨_, _, _, _, rfl, hp2, he2⟩
  obtain ⟨hx1, hx2, hb1⟩ := two_box w [.slice op p.path.pts.length ca, .slice oe p.path.edges.length cb, .int .i64 p.grav.1, .int .i64 p.grav.2.1, .int .i64 p.grav.2.2, .int .i64 p.grid, .slice f1 p.profs.length cf1] [.slice pp p.path.pts.length cc, .slice pe p.path.edges.length cd, .int .i64 p.grav.1, .int .i64 p.grav.2.1, .int .i64 p.grav.2.2, .int .i64 p.grid, .slice f2 p.profs.length cf2] 41
  have HX1 := Lib.hid hx1
  have HX2 := Lib.hid hx2
  have HB := Lib.hid hb1
  have HA1 := Lib.hid (hA1.keep hb1)
  have HA2 := Lib.hid (hA2.keep hb1)
  have HF1 := Lib.hid (hf1.keep hb1)
  have HF2 := Lib.hid (hf2.keep hb1)
  have HM := Lib.hid hm
  have hcmp : ∀ u, (Op.equalIn 10000 38 (.agg #[.int .i64 p.grav.1, .int .i64 p.grav.2.1, .int .i64 p.grav.2.2]) (.agg #[.int .i64 p.grav.1, .int .i64 p.grav.2.1, .int .i64 p.grav.2.2])).run Tryz.prog u = .ok true u := fun u => eq38d 9998 _ _ _ u
  have hgg : (p.grid == p.grid) = true := beq_self_eq_true _
  clear hp1 he1 hp2 he2 hf1 hf2 hA1 hA2 hb1 hx1 hx2 hm
  go_enter Tryz.func33, Tryz.ntmps33
  go_upto_region 1 with fail
  generalize ((w.alloc (.cells #[.slice op p.path.pts.length ca, .slice oe p.path.edges.length cb, .int .i64 p.grav.1, .int .i64 p.grav.2.1, .int .i64 p.grav.2.2, .int .i64 p.grid, .slice f1 p.profs.length cf1] 41)).alloc (.cells #[.slice pp p.path.pts.length cc, .slice pe p.path.edges.length cd, .int .i64 p.grav.1, .int .i64 p.grav.2.1, .int .i64 p.grav.2.2, .int .i64 p.grid, .slice f2 p.profs.length cf2] 41)) = W1 at HX1 HX2 HB HA1 HA2 HF1 HF2 ⊢
  obtain ⟨n1, hn1⟩ : ∃ n, n = w.heap.size := ⟨_, rfl⟩
  have HN1 := Lib.hid hn1
  rw [← hn1] at HX1 HX2 ⊢
  clear hn1
  have a0 := HX1.out.c 0 _ rfl
  have a1 := HX1.out.c 1 _ rfl
  have al := HX1.out.lt
  have b0 := HX2.out.c 0 _ rfl
  have b1 := HX2.out.c 1 _ rfl
  have bl := HX2.out.lt
  have HC := Lib.hid (samePath18 W1 _ _ p.path HA1.out HA2.out HM.out.path)
  go_wp2_with fail
  refine HC.out.mono ?_
  clear HC
  rintro e W2 ⟨rfl, hb2⟩
  have HX12 := Lib.hid (HX1.out.keep hb2)
  have HX22 := Lib.hid (HX2.out.keep hb2)
  have HB2 := Lib.hid (below_call HB.out hb2)
  have HC := Lib.hid (sameProfiles55 W2 f1 f2 cf1 cf2 p.profs (HF1.out.keep hb2) (HF2.out.keep hb2) HM.out.np HM.out.pr)
  clear a0 a1 al b0 b1 bl hb2 HX1 HX2 HF1 HF2 HA1 HA2
  have a2 := HX12.out.c 2 _ rfl
  have a3 := HX12.out.c 3 _ rfl
  have a4 := HX12.out.c 4 _ rfl
  have a5 := HX12.out.c 5 _ rfl
  have a6 := HX12.out.c 6 _ rfl
  have al := HX12.out.lt
  have b2 := HX22.out.c 2 _ rfl
  have b3 := HX22.out.c 3 _ rfl
  have b4 := HX22.out.c 4 _ rfl
  have b5 := HX22.out.c 5 _ rfl
  have b6 := HX22.out.c 6 _ rfl
  have bl := HX22.out.lt
  go_wp2_with fail
  refine HC.out.mono ?_
  clear HC
  rintro e W3 ⟨rfl, hb3⟩
  have HB3 := Lib.hid (below_call HB2.out hb3)
  go_wp2
  go_ret
  exact boolP_mk rfl HB3.out
end Go.Proofs.Ng
end

