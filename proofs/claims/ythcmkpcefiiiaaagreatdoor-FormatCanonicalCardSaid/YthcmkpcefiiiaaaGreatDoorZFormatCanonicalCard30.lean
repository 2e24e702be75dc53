/-
  Texts put together: Ec Ed Eh Tw Ua Ub Uc Ud Ue Ty Uf.
-/
import Derived.Test.YthcmkpcefiiiaaaGreatDoorZFormatCanonicalCard29
import Derived.Test.YthcmkpcefiiiaaaGreatDoorZFormatCanonicalCard19
import Derived.Test.YthcmkpcefiiiaaaGreatDoorZFormatCanonicalCard23
import Derived.Test.YthcmkpcefiiiaaaGreatDoorZFormatCanonicalCard17
import Derived.Deep.RegionHeld3
import Derived.Test.YthcmkpcefiiiaaaGreatDoorZFormatCanonicalCard25
import Derived.Test.YthcmkpcefiiiaaaGreatDoorZFormatCanonicalCard12
import Derived.Test.YthcmkpcefiiiaaaGreatDoorZFormatCanonicalCard9
import Derived.Deep.CutRange
set_option linter.unusedVariables false
section
/-
  Walks: the reference's FormatTrajectory.
-/
namespace Go.Proofs.Ng
open Go.RowKit

theorem keepT {V X : World} {n : Nat} {a0 a1 a2 a3 a4 a5 a6 : Value} {ty : TypeId} (h : Bx V n [a0, a1, a2, a3, a4, a5, a6] ty) (hb : Below V.heap.size V X) : X.cell? ⟨n, 0, none⟩ = some a0 ∧ X.cell? ⟨n, 1, none⟩ = some a1 ∧ X.cell? ⟨n, 2, none⟩ = some a2 ∧ X.cell? ⟨n, 3, none⟩ = some a3 ∧ X.cell? ⟨n, 4, none⟩ = some a4 ∧ X.cell? ⟨n, 5, none⟩ = some a5 ∧ n < X.heap.size ∧ Below V.heap.size V X :=
  ⟨(h.keep hb).c 0 _ rfl, (h.keep hb).c 1 _ rfl, (h.keep hb).c 2 _ rfl, (h.keep hb).c 3 _ rfl, (h.keep hb).c 4 _ rfl, (h.keep hb).c 5 _ rfl, (h.keep hb).lt, hb⟩
theorem keep2 {V X : World} {n : Nat} {a0 a1 : Value} {ty : TypeId} (h : Bx V n [a0, a1] ty) (hb : Below V.heap.size V X) : X.cell? ⟨n, 0, none⟩ = some a0 ∧ X.cell? ⟨n, 1, none⟩ = some a1 ∧ n < X.heap.size ∧ Below V.heap.size V X :=
  ⟨(h.keep hb).c 0 _ rfl, (h.keep hb).c 1 _ rfl, (h.keep hb).lt, hb⟩
set_option maxRecDepth 100000 in
set_option maxHeartbeats 8000000 in
theorem refFormatTraj14 (w : World) (pv : Value) (p : Fm.TrajD) (hP : TrajAt w pv p) (hr : Fm.TrajOk p) (hl : (Fm.docTr p).length ≤ 1048576) (htab : TabW w.heap.size w) :
    Calls Tryz.prog 11 #[pv] w (fun e W' => e = .returned (fmtV (Fm.formatTr p)) ∧ Below w.heap.size w W') := by
  obtain ⟨hm1, hm2, hm3, hlt⟩ := traj_sizes hr hl
  obtain ⟨op, np, oe, ne, f, nf, rfl, hPt, hEd, hPr⟩ := hP
  have hb1 : Below w.heap.size w (w.alloc (.cells #[.slice op p.path.pts.length np, .slice oe p.path.edges.length ne, .int .i64 p.grav.1, .int .i64 p.grav.2.1, .int .i64 p.grav.2.2, .int .i64 p.grid, .slice f p.profs.length nf] 43)) := (Below.refl _ _).alloc (Nat.le_refl _) _
  have hbx := Bx.new w [.slice op p.path.pts.length np, .slice oe p.path.edges.length ne, .int .i64 p.grav.1, .int .i64 p.grav.2.1, .int .i64 p.grav.2.2, .int .i64 p.grid, .slice f p.profs.length nf] 43
  have hPP : PathAt w (.agg #[.slice op p.path.pts.length np, .slice oe p.path.edges.length ne]) p.path := ⟨op, np, oe, ne, rfl, hPt, hEd⟩
  have H22 := Lib.hid (right22 _ _ p.path (hPP.keep hb1) hm1 hm2)
  have HP := Lib.hid hPP
  have HPR := Lib.hid hPr
  have HX := Lib.hid hbx
  have HB := Lib.hid hb1
  have HT := Lib.hid htab
  have HR := Lib.hid hr
  clear hb1 hbx htab hr hPP hPt hEd hPr
  go_enter Tryz.func11, Tryz.ntmps11
  go_upto_region 1 with fail
  generalize w.alloc (.cells #[.slice op p.path.pts.length np, .slice oe p.path.edges.length ne, .int .i64 p.grav.1, .int .i64 p.grav.2.1, .int .i64 p.grav.2.2, .int .i64 p.grid, .slice f p.profs.length nf] 43) = wx at HX HB H22 ⊢
  obtain ⟨n, hn⟩ : ∃ n, n = w.heap.size := ⟨_, rfl⟩
  have HN := Lib.hid hn
  rw [← hn] at HX ⊢
  clear hn
  have c0 := HX.out.c 0 _ rfl
  have c1 := HX.out.c 1 _ rfl
  have clt := HX.out.lt
  cases hf : Fm.rightP p.path with
  | false =>
    have HF := Lib.hid (formatTr_no hf)
    rw [hf] at H22
    clear hf
    go_wp2_with fail
    refine H22.out.mono ?_
    rintro e W1 ⟨rfl, hb2⟩
    have HB2 := Lib.hid (below_call HB.out hb2)
    clear hb2 H22
    go_wp2
    go_ret2
    exact ⟨by rw [HF.out]; rfl, HB2.out⟩
  | true =>
    rw [hf] at H22
    by_cases heq : p.profs.length = p.path.edges.length
    · have hF := formatTr_yes hf heq hl
      have HFF := Lib.hid hF
      have hd : ((p.profs.length : Int) != (p.path.edges.length : Int)) = false := by rw [heq]; simp
      clear hF hf heq
      go_wp2_with fail
      refine H22.out.mono ?_
      clear H22
      rintro e W1 ⟨rfl, hb2⟩
      have HX1 := Lib.hid (HX.out.keep hb2)
      have HB2 := Lib.hid (below_call HB.out hb2)
      clear hb2 HX HB c0 c1 clt
      have c0 := HX1.out.c 0 _ rfl
      have c1 := HX1.out.c 1 _ rfl
      have c6 := HX1.out.c 6 _ rfl
      have clt := HX1.out.lt
      have HL : Hid ((Fm.lineT Fm.kwTraj (p.grid :: Fm.vecL p.grav)).length + (Fm.pathT p.path).length + (flT Fm.profT p.profs).length ≤ 1048576) := Lib.hid (by
        have h := hlt
        unfold Fm.trajT at h
        rw [List.length_append, List.length_append] at h
        exact h)
      have hcat := cat (a := Fm.lineT Fm.kwTraj (p.grid :: Fm.vecL p.grav)) (c := Fm.pathT p.path) (by have := HL.out; omega)
      have hdl := hl
      go_upto_region 3 with fail
      clear c0 c1 c6 clt hd
      have c0 := HX1.out.c 0 _ rfl
      have s0 := HX1.out.c 2 _ rfl
      have s1 := HX1.out.c 3 _ rfl
      have s2 := HX1.out.c 4 _ rfl
      have slt := HX1.out.lt
      go_region_held_law (fun X => X.cell? ⟨n, 0, none⟩ = some (.slice op p.path.pts.length np) ∧ X.cell? ⟨n, 1, none⟩ = some (.slice oe p.path.edges.length ne) ∧ X.cell? ⟨n, 2, none⟩ = some (.int .i64 p.grav.1) ∧ X.cell? ⟨n, 3, none⟩ = some (.int .i64 p.grav.2.1) ∧ X.cell? ⟨n, 4, none⟩ = some (.int .i64 p.grav.2.2) ∧ X.cell? ⟨n, 5, none⟩ = some (.int .i64 p.grid) ∧ n < X.heap.size ∧ Below W1.heap.size W1 X)
        (first
          | exact keepT HX1.out hbb
          | exact keepT HX1.out hba
          | exact keepT HX1.out (Below.refl _ _).drew
          | exact keepT HX1.out ((Below.refl _ _).drew.alloc (Nat.le_refl _) _))
        (first
          | (go_simp
             go_at_call 33
             refine (line28 _ Fm.kwTraj _ 4 (p.grid :: Fm.vecL p.grav) (Sl.new W1.drew (p.grid :: Fm.vecL p.grav) 2) HR.out.head (by have := HL.out; omega) (tab_size HT.out (below_call HB2.out ((Below.refl _ _).drew.alloc (Nat.le_refl _) _)))).mono ?_
             rintro e Xa ⟨rfl, hb28⟩
             have hba : Below W1.heap.size W1 Xa := below_call ((Below.refl _ _).drew.alloc (Nat.le_refl _) _) hb28)
          | (go_simp
             go_at_call 28
             refine (pathLines24 _ _ p.path (HP.out.keep (below_call HB2.out hba)) HR.out.path (by have := HL.out; omega) (tab_size HT.out (below_call HB2.out hba))).mono ?_
             rintro e Xb ⟨rfl, hb24⟩
             have hbb := below_call hba hb24))
      have HB3 := Lib.hid (below_call HB2.out hbb)
      have HX3 := Lib.hid (HX1.out.keep hbb)
      clear hbb hba hb24 hb28 hcat c0 s0 s1 s2 slt HX1 HB2 HP
      have HL1 : Hid ((Fm.lineT Fm.kwTraj (p.grid :: Fm.vecL p.grav) ++ Fm.pathT p.path).length + (flT Fm.profT p.profs).length ≤ 1048576) := Lib.hid (by have := HL.out; rw [List.length_append]; omega)
      have HTT : Hid (Fm.trajT p = (Fm.lineT Fm.kwTraj (p.grid :: Fm.vecL p.grav) ++ Fm.pathT p.path) ++ flT Fm.profT p.profs) := Lib.hid rfl
      generalize Fm.lineT Fm.kwTraj (p.grid :: Fm.vecL p.grav) ++ Fm.pathT p.path = t1 at HL1 HTT ⊢
      go_wp2_with fail
      go_loopw [4, 5] (fun s i W => ∃ k : Nat, k ≤ p.profs.length ∧ i = .int .i64 (k : Nat) ∧ s = .string ⟨(t1 ++ flT Fm.profT (p.profs.take k)).toArray⟩ ∧ Below w.heap.size w W ∧ Bx W n [.slice op p.path.pts.length np, .slice oe p.path.edges.length ne, .int .i64 p.grav.1, .int .i64 p.grav.2.1, .int .i64 p.grav.2.2, .int .i64 p.grid, .slice f p.profs.length nf] 43) (fun _ i _ => p.profs.length - (intOf i).toNat)
      case atStart => exact ⟨0, Nat.zero_le _, rfl, by rw [List.take_zero, show flT Fm.profT [] = [] from rfl, List.append_nil], HB3.out, HX3.out⟩
      case round =>
        obtain ⟨k, hk, rfl, rfl, hB, hX⟩ := hrel
        clear HB3 HX3
        have c6 := hX.c 6 _ rfl
        have clt := hX.lt
        by_cases hlt : k < p.profs.length
        · obtain ⟨x, hx⟩ : ∃ x, p.profs[k]? = some x := ⟨_, List.getElem?_eq_getElem hlt⟩
          obtain ⟨hx1, hx2, hx3, hx4⟩ := HR.out.prof x (List.mem_of_getElem? hx)
          obtain ⟨g, off, ol, nl, os, ns, hon, glt, x0, x1, hsl, hss⟩ := (HPR.out.keep hB).get hx
          subst hon
          have hlen : (t1 ++ flT Fm.profT (p.profs.take k)).length + (Fm.profT x).length ≤ 1048576 := by
            have h1 := HL1.out
            have h2 := flT_le Fm.profT p.profs (k + 1)
            rw [flT_take hx] at h2
            simp only [List.length_append] at h1 h2 ⊢
            omega
          have HT3 := Lib.hid (flT_take (f := Fm.profT) hx)
          generalize ht3 : t1 ++ flT Fm.profT (p.profs.take k) = t3 at hlen ⊢
          have HT4 : Hid (t1 ++ flT Fm.profT (p.profs.take (k + 1)) = t3 ++ Fm.profT x) := Lib.hid (by rw [HT3.out, ← ht3, List.append_assoc])
          clear ht3 HT3
          rw [profT_eq, List.length_append, List.length_append] at hlen
          have hb3 : Below wr.heap.size wr (wr.alloc (.cells #[.slice ol x.levels.length nl, .slice os x.steps.length ns] 92)) := (Below.refl _ _).alloc (Nat.le_refl _) _
          have HX5 := Lib.hid (Bx.new wr [.slice ol x.levels.length nl, .slice os x.steps.length ns] 92)
          have HX2 := Lib.hid (hX.keep hb3)
          have HB2 := Lib.hid (below_call hB hb3)
          have HSL := Lib.hid (hsl.keep hb3)
          have HSS := Lib.hid (hss.keep hb3)
          have HLN := Lib.hid hlen
          have HX34 := Lib.hid (And.intro hx3 hx4)
          have hcat1 := cat (a := t3) (c := Fm.lineT Fm.kwProfile [((x.levels.length : Nat) : Int), ((x.steps.length : Nat) : Int)]) (by omega)
          have hcat2 := cat (a := t3 ++ Fm.lineT Fm.kwProfile [((x.levels.length : Nat) : Int), ((x.steps.length : Nat) : Int)]) (c := Fm.lineT Fm.kwLevels x.levels) (by rw [List.length_append]; omega)
          have hcat3 := cat (a := t3 ++ Fm.lineT Fm.kwProfile [((x.levels.length : Nat) : Int), ((x.steps.length : Nat) : Int)] ++ Fm.lineT Fm.kwLevels x.levels) (c := Fm.lineT Fm.kwSteps x.steps) (by rw [List.length_append, List.length_append]; omega)
          have HPE := Lib.hid (profT_eq x)
          have H28a : Hid (∀ (X : World) (oa : Option Addr) (ca : Nat), Sl X oa 1 (pvals [((x.levels.length : Nat) : Int), ((x.steps.length : Nat) : Int)]) → Below w.heap.size w X → Calls Tryz.prog 33 #[.string ⟨#[112, 114, 111, 102, 105, 108, 101]⟩, .slice oa 2 ca] X (fun e W' => e = .returned (.string ⟨(Fm.lineT Fm.kwProfile [((x.levels.length : Nat) : Int), ((x.steps.length : Nat) : Int)]).toArray⟩) ∧ Below X.heap.size X W')) := Lib.hid (fun X oa ca hS hB => line28 X Fm.kwProfile oa ca [((x.levels.length : Nat) : Int), ((x.steps.length : Nat) : Int)] hS (line_nn _ _ hx1 hx2) (by have := HLN.out; omega) (tab_size HT.out hB))
          have H28b : Hid (∀ X : World, Sl X ol 1 (pvals x.levels) → Below w.heap.size w X → Calls Tryz.prog 33 #[.string ⟨#[108, 101, 118, 101, 108, 115]⟩, .slice ol x.levels.length nl] X (fun e W' => e = .returned (.string ⟨(Fm.lineT Fm.kwLevels x.levels).toArray⟩) ∧ Below X.heap.size X W')) := Lib.hid (fun X hS hB => line28 X Fm.kwLevels ol nl x.levels hS HX34.out.1 (by have := HLN.out; omega) (tab_size HT.out hB))
          have H28c : Hid (∀ (X : World) (oa : Option Addr) (ca : Nat), Sl X oa 1 (pvals x.steps) → Below w.heap.size w X → Calls Tryz.prog 33 #[.string ⟨#[115, 116, 101, 112, 115]⟩, .slice oa x.steps.length ca] X (fun e W' => e = .returned (.string ⟨(Fm.lineT Fm.kwSteps x.steps).toArray⟩) ∧ Below X.heap.size X W')) := Lib.hid (fun X oa ca hS hB => line28 X Fm.kwSteps oa ca x.steps hS HX34.out.2 (by have := HLN.out; omega) (tab_size HT.out hB))
          generalize Fm.lineT Fm.kwProfile [((x.levels.length : Nat) : Int), ((x.steps.length : Nat) : Int)] = l1 at hcat1 hcat2 hcat3 HPE H28a
          generalize Fm.lineT Fm.kwLevels x.levels = l2 at hcat2 hcat3 HPE H28b
          generalize Fm.lineT Fm.kwSteps x.steps = l3 at hcat3 HPE H28c
          generalize ha1 : t3 ++ l1 = a1 at hcat1 hcat2 hcat3
          generalize ha2 : a1 ++ l2 = a2 at hcat2 hcat3
          generalize ha3 : a2 ++ l3 = a3 at hcat3
          have HT5 : Hid (a3 = t1 ++ flT Fm.profT (p.profs.take (k + 1))) := Lib.hid (by rw [HT4.out, HPE.out, ← ha3, ← ha2, ← ha1]; simp only [List.append_assoc])
          clear ha1 ha2 ha3
          clear hlen hx hB hX hsl hss hb3 hx3 hx4
          go_upto_region 8 with fail
          clear c6 clt x0 x1 glt
          generalize wr.alloc (.cells #[.slice ol x.levels.length nl, .slice os x.steps.length ns] 92) = V9 at HX5 HX2 HB2 HSL HSS ⊢
          obtain ⟨n9, hn9⟩ : ∃ n9, wr.heap.size = n9 := ⟨_, rfl⟩
          rw [hn9] at HX5 ⊢
          have s0 := HX5.out.c 0 _ rfl
          have s1 := HX5.out.c 1 _ rfl
          have slt := HX5.out.lt
          have hs9 : Sl (V9.alloc (.cells #[.int .i64 (x.levels.length : Nat), .int .i64 (x.steps.length : Nat)] 2)).drew (some ⟨V9.heap.size, 0, none⟩) 1 (pvals [((x.levels.length : Nat) : Int), ((x.steps.length : Nat) : Int)]) := Sl.new V9.drew [((x.levels.length : Nat) : Int), ((x.steps.length : Nat) : Int)] 2
          have hb9 : Below V9.heap.size V9 (V9.alloc (.cells #[.int .i64 (x.levels.length : Nat), .int .i64 (x.steps.length : Nat)] 2)).drew := (Below.refl _ _).drew.alloc (Nat.le_refl _) _
          have hbw9 := below_call HB2.out hb9
          go_region_held_law (fun X => X.cell? ⟨n9, 0, none⟩ = some (.slice ol x.levels.length nl) ∧ X.cell? ⟨n9, 1, none⟩ = some (.slice os x.steps.length ns) ∧ n9 < X.heap.size ∧ Below V9.heap.size V9 X)
            (first
              | exact keep2 HX5.out hbd
              | exact keep2 HX5.out hbc
              | exact keep2 HX5.out hbb
              | exact keep2 HX5.out hba
              | exact keep2 HX5.out (Below.refl _ _).drew
              | exact keep2 HX5.out ((Below.refl _ _).drew.alloc (Nat.le_refl _) _))
            (first
              | (go_simp
                 go_at_call 33
                 with_reducible refine (H28a.out _ _ _ hs9 hbw9).mono ?_
                 rintro e Xa ⟨rfl, hb28⟩
                 have hba := below_call hb9 hb28
                 clear hb28)
              | (go_simp
                 go_at_call 33
                 with_reducible refine (H28b.out _ (HSL.out.keep hba) (below_call HB2.out hba)).mono ?_
                 rintro e Xb ⟨rfl, hb28⟩
                 have hbb := below_call hba hb28
                 clear hb28)
              | (go_simp
                 go_at_call 38
                 with_reducible refine (wide29 _ os ns x.steps (HSS.out.keep hbb) hx2).mono ?_
                 rintro e Xc ⟨oa29, ca29, rfl, -, hS29, hb29, -⟩
                 have hbc := below_call hbb hb29
                 clear hb29)
              | (go_simp
                 go_at_call 33
                 with_reducible refine (H28c.out _ _ _ hS29 (below_call HB2.out hbc)).mono ?_
                 rintro e Xd ⟨rfl, hb28⟩
                 have hbd := below_call hbc hb28
                 clear hb28))
          have HB9 := Lib.hid (below_call HB2.out hbd)
          have HX9 := Lib.hid (HX2.out.keep hbd)
          clear hbd hbc hba hbb hS29 s0 s1 slt hcat1 hcat2 hcat3
          go_wp2_with fail
          go_roundw
          case rel => exact ⟨k + 1, by omega, by simp, by rw [HT5.out], HB9.out, HX9.out⟩
          case measure => simp [intOf]; omega
        · have hke : k = p.profs.length := by omega
          subst hke
          rw [List.take_length]
          have HB9 := Lib.hid hB
          have H23 := Lib.hid (document23 wr (Fm.trajT p) (by exact hdl))
          rw [show t1 ++ flT Fm.profT p.profs = Fm.trajT p from HTT.out.symm]
          clear hB hX
          go_wp2_with fail
          refine H23.out.mono ?_
          clear H23
          rintro e W3 ⟨rfl, hw⟩
          subst hw
          unfold fmtV
          go_wp2
          go_ret2
          exact ⟨by rw [HFF.out]; rfl, HB9.out⟩
    · have HF := Lib.hid (formatTr_no2 heq)
      have hd : ((p.profs.length : Int) != (p.path.edges.length : Int)) = true := by simp; omega
      clear hf heq
      go_wp2_with fail
      refine H22.out.mono ?_
      clear H22
      rintro e W1 ⟨rfl, hb2⟩
      have HX1 := Lib.hid (HX.out.keep hb2)
      have HB2 := Lib.hid (below_call HB.out hb2)
      clear hb2 HX HB c0 c1 clt
      have c1 := HX1.out.c 1 _ rfl
      have c6 := HX1.out.c 6 _ rfl
      have clt := HX1.out.lt
      go_wp2
      go_ret2
      exact ⟨by rw [HF.out]; rfl, HB2.out⟩
end Go.Proofs.Ng
end

section
/-
 Walks: equal trajectories are the same.
-/
namespace Go.Proofs.Ng
open Go.RowKit
end Go.Proofs.Ng
end

section
/-
 Walks: the law's trajectories.
-/
namespace Go.Proofs.Ng
open Go.RowKit
end Go.Proofs.Ng
end

section
/-
 Plain law: documents of what is made are short, of one kind, and can be parsed.
-/
namespace Go.Proofs.Ng
open Go.RowKit
/-- All numbers of a trajectory are int64. -/
structure InT (t : Fm.TrajD) : Prop where
 path : In64 t.path
 head : ∀ n ∈ t.grid :: Fm.vecL t.grav, Fm.inR64 n
 pr : ∀ x ∈ t.profs, (∀ n ∈ x.levels, Fm.inR64 n) ∧ ∀ n ∈ x.steps, Fm.inR64 n
/-- A small trajectory. -/
structure SmT (t : Fm.TrajD) : Prop where
 path : SmP t.path
 np : t.profs.length ≤ 12
 pr : ∀ x ∈ t.profs, x.levels.length ≤ 100 ∧ x.steps.length ≤ 100
theorem docT_le40 {p : Fm.PathD} (hs : SmP p) (h : In64 p) : (Fm.docT p).length ≤ 40000 := by
 have h1 := hs.np
 have h2 := hs.ne
 have h3 := hs.cnt
 have a1 := lineT_le Fm.kwPath (ns := [((p.pts.length : Nat) : Int)]) (by
  intro n hn
  rw [List.mem_singleton] at hn
  subst hn
  unfold Fm.inR64; omega)
 have a2 : (flT (Fm.lineT Fm.kwPoint) p.pts).length ≤ 6 * p.pts.length + 21 * sumW List.length p.pts := by
  rw [flT_sum]
  refine sumW_lin _ _ 6 21 (fun q hq => ?_)
  have := lineT_le Fm.kwPoint (h.pt q hq)
  simp only [show Fm.kwPoint.length = 5 from rfl] at this
  omega
 have a3 : (flT Fm.edgeT p.edges).length ≤ 47 * p.edges.length + 70 * sumW edgeW p.edges := by
  rw [flT_sum]
  refine sumW_lin _ _ 47 70 (fun e he => ?_)
  have hw := sumW_mem edgeW he
  exact edgeT_le (by omega) (h.ed e he).1 (h.ed e he).2
 unfold Fm.docT
 rw [List.length_append, pathT_eq, List.length_append, List.length_append]
 simp only [show Fm.kwPath.length = 4 from rfl, List.length_cons, List.length_nil] at a1
 have a4 : (Fm.lineT Fm.kwEnd []).length = 4 := rfl
 omega
theorem docTr_le {t : Fm.TrajD} (hs : SmT t) (h : InT t) : (Fm.docTr t).length ≤ 1000000 := by
 have hd := docT_le40 hs.path h.path
 unfold Fm.docT at hd
 rw [List.length_append] at hd
 have h1 := hs.np
 have a1 := lineT_le Fm.kwTraj h.head
 have a2 : (flT Fm.profT t.profs).length ≤ t.profs.length * 4263 := by
  rw [flT_sum]
  refine sumW_le _ (fun x hx => ?_)
  obtain ⟨b1, b2⟩ := hs.pr x hx
  obtain ⟨b3, b4⟩ := h.pr x hx
  have c1 := lineT_le Fm.kwProfile (ns := [((x.levels.length : Nat) : Int), ((x.steps.length : Nat) : Int)]) (by
   intro n hn
   simp only [List.mem_cons, List.not_mem_nil, or_false] at hn
   rcases hn with rfl | rfl <;> (unfold Fm.inR64; omega))
  have c2 := lineT_le Fm.kwLevels b3
  have c3 := lineT_le Fm.kwSteps b4
  rw [profT_eq, List.length_append, List.length_append]
  simp only [show Fm.kwProfile.length = 7 from rfl, show Fm.kwLevels.length = 6 from rfl, show Fm.kwSteps.length = 5 from rfl, List.length_cons, List.length_nil] at c1 c2 c3
  omega
 unfold Fm.docTr Fm.trajT
 have e2 : (t.profs.map Fm.profT).flatten = flT Fm.profT t.profs := rfl
 rw [List.length_append, List.length_append, List.length_append, e2]
 simp only [show Fm.kwTraj.length = 10 from rfl, show (t.grid :: Fm.vecL t.grav).length = 4 from rfl] at a1
 have a4 : (Fm.lineT Fm.kwEnd []).length = 4 := rfl
 have a5 : t.profs.length * 4263 ≤ 12 * 4263 := Nat.mul_le_mul_right _ h1
 omega
theorem trajOk_of {t : Fm.TrajD} (hs : SmT t) (h : InT t) : Fm.TrajOk t :=
 ⟨pathOk_of hs.path h.path, h.head, fun x hx => ⟨by have := (hs.pr x hx).1; omega, by have := (hs.pr x hx).2; omega, h.pr x hx⟩⟩
theorem mkT_small {t : Fm.TrajD} (h : MkTraj t) : SmT t := ⟨mk_small h.path, by have := h.np; omega, fun x hx => by obtain ⟨a, b, -⟩ := h.pr x hx; omega⟩
theorem mkT_in {t : Fm.TrajD} (h : MkTraj t) : InT t := ⟨mk_in h.path, h.head, fun x hx => (h.pr x hx).2.2⟩
theorem cellT_le {c : Fm.CellD} (h : MkCl c) : (Fm.cellT c).length ≤ 300 := by
 have hv := h.v
 unfold Fm.cellT
 split
 ·rw [List.length_append, List.length_append]
  have a1 := lineT_le Fm.kwLeaf (mk_leaf64 h)
  have a2 : (c.verd.normals.map fun v => Fm.lineT Fm.kwNormal (Fm.vecL v)).flatten.length ≤ c.verd.normals.length * 70 := by
   have e : (c.verd.normals.map fun v => Fm.lineT Fm.kwNormal (Fm.vecL v)).flatten = flT normT c.verd.normals := rfl
   rw [e, flT_sum]
   refine sumW_le _ (fun v hvm => ?_)
   have := lineT_le Fm.kwNormal (hv.rn v hvm)
   have e2 : normT v = Fm.lineT Fm.kwNormal (Fm.vecL v) := rfl
   rw [e2]
   simp only [show Fm.kwNormal.length = 6 from rfl, show (Fm.vecL v).length = 3 from rfl] at this
   omega
  have a3 : (if c.verd.kind = 2 then Fm.lineT Fm.kwWitness (Fm.witL c.verd) else []).length ≤ 113 := by
   split
   ·have := lineT_le Fm.kwWitness (mk_wit64 hv)
    have e : (Fm.witL c.verd).length = 3 + c.verd.left.length + c.verd.right.length := by simp [Fm.witL]; omega
    have := hv.nl
    have := hv.nr
    simp only [show Fm.kwWitness.length = 7 from rfl] at *
    omega
   ·simp
  have := hv.nn
  simp only [show Fm.kwLeaf.length = 4 from rfl, List.length_cons, List.length_nil] at a1
  omega
 ·have a1 := lineT_le Fm.kwSplit (mk_split64 h)
  simp only [show Fm.kwSplit.length = 5 from rfl, List.length_cons, List.length_nil] at a1
  omega
theorem docC_le {t : Fm.TreeD} (h : MkT t) (hn : t.cells.length ≤ 27) : (Fm.docC t).length ≤ 1000000 := by
 have h1 := h.rl
 have a1 := lineT_le Fm.kwCut (line_nn t.root.length t.cells.length (by omega) (by omega))
 have a2 := lineT_le Fm.kwRoot (mk_root64 h)
 have a3 : (flT Fm.cellT t.cells).length ≤ t.cells.length * 300 := by
  rw [flT_sum]
  exact sumW_le _ (fun c hc => cellT_le (h.cl c hc))
 rw [Fm.flat_len] at a2
 unfold Fm.docC
 rw [List.length_append, treeT_eq, List.length_append, List.length_append]
 simp only [show Fm.kwCut.length = 3 from rfl, show Fm.kwRoot.length = 4 from rfl, List.length_cons, List.length_nil] at a1 a2
 have a4 : (Fm.lineT Fm.kwEnd []).length = 4 := rfl
 omega
end Go.Proofs.Ng
end

section
/-
 Walks: the writer's tree. Printed by gen_ua.py.
-/
namespace Go.Proofs.Ng
open Go.RowKit
theorem lineT_app (kw : List UInt8) (ns : List Int) : Fm.lineT kw ns = kw ++ numsT ns ++ [10] := rfl
theorem witL_num (u : Fm.VerdD) : Fm.lineT Fm.kwWitness (Fm.witL u) = Fm.kwWitness ++ numsT [u.pair, ((u.left.length : Nat) : Int)] ++ numsT u.left ++ numsT [((u.right.length : Nat) : Int)] ++ numsT u.right ++ [10] := by
 rw [lineT_eq]
 have e : Fm.witL u = [u.pair, ((u.left.length : Nat) : Int)] ++ (u.left ++ ([((u.right.length : Nat) : Int)] ++ u.right)) := rfl
 rw [e, numsT_app, numsT_app, numsT_app]
 simp only [List.append_assoc]
def rootN (l : Fm.BoxD) : List UInt8 := numsT (l.map Fm.pairL).flatten
theorem rootN_take {l : Fm.BoxD} {k : Nat} {x : Int × Int} (h : l[k]? = some x) : rootN (l.take (k + 1)) = rootN (l.take k) ++ numsT [x.1, x.2] := by unfold rootN; rw [flat_take h, numsT_app]; rfl
theorem rootN_app (a c : Fm.BoxD) : rootN (a ++ c) = rootN a ++ rootN c := by unfold rootN; rw [List.map_append, List.flatten_append, numsT_app]
theorem one_nn {a : Nat} (ha : a ≤ 1048576) : ∀ n ∈ [((a : Nat) : Int)], Fm.inR64 n := by
 intro n hn
 rw [List.mem_singleton] at hn
 subst hn
 exact Fm.sz_in ha
theorem two_in {a c : Int} (ha : Fm.inR64 a) (hc : Fm.inR64 c) : ∀ n ∈ [a, c], Fm.inR64 n := by
 intro n hn
 simp only [List.mem_cons, List.not_mem_nil, or_false] at hn
 rcases hn with rfl | rfl <;> assumption
theorem three_in {a c d : Int} (ha : Fm.inR64 a) (hc : Fm.inR64 c) (hd : Fm.inR64 d) : ∀ n ∈ [a, c, d], Fm.inR64 n := by
 intro n hn
 simp only [List.mem_cons, List.not_mem_nil, or_false] at hn
 rcases hn with rfl | rfl | rfl <;> assumption
set_option maxRecDepth 100000 in
set_option maxHeartbeats 16000000 in
theorem tree53 (w0 w : World) (b : Nat) (t0 : List UInt8) (pv : Value) (t : Fm.TreeD) (hb0 : Below w0.heap.size w0 w) (hP : TreeAt w0 pv t) (h : ∃ v, WrS w w0.heap.size b t0 v) (hr : Fm.TreeOk t) (hl : t0.length + (Fm.treeT t).length ≤ 1048576) (htab : TabW w0.heap.size w0) :
  Calls Tryz.prog 53 #[.pointer (some ⟨b, 0, none⟩), pv] w (WrP w0.heap.size b (t0 ++ Fm.treeT t) w) := by
 obtain ⟨or, cr, oc, cc, rfl, hro, hce⟩ := hP
 have hn1 : t.root.length ≤ 1048576 := hr.nr
 have hn2 : t.cells.length ≤ 1048576 := hr.nc
 have hTT := treeT_eq t
 rw [lineT_app Fm.kwRoot, show numsT (t.root.map Fm.pairL).flatten = rootN t.root from rfl] at hTT
 have HRE : Hid (∀ n ∈ (t.root.map Fm.pairL).flatten, Fm.inR64 n) := Lib.hid (by
  intro n hn
  rw [List.mem_flatten] at hn
  obtain ⟨l, hl, hn⟩ := hn
  obtain ⟨a, ha, rfl⟩ := List.mem_map.1 hl
  unfold Fm.pairL at hn
  simp only [List.mem_cons, List.not_mem_nil, or_false] at hn
  rcases hn with rfl | rfl
  ·exact (hr.rt a ha).1
  ·exact (hr.rt a ha).2)
 have hb1 : Below w.heap.size w (w.alloc (.cells #[.slice or t.root.length cr, .slice oc t.cells.length cc] 36)) := (Below.refl _ _).alloc (Nat.le_refl _) _
 have hbx := Bx.new w [.slice or t.root.length cr, .slice oc t.cells.length cc] 36
 obtain ⟨v, hW⟩ := h
 have hF1 := Fr.of (b := b) hW.sz hb1
 have hne : w.heap.size ≠ b := by have := hW.lt; omega
 have HW1 := Lib.hid (hW.keep hb1)
 have HFA := Lib.hid hF1
 have HB := Lib.hid (hb0.trans hF1.bel)
 have HR := Lib.hid hro
 have HC := Lib.hid hce
 have HOK := Lib.hid hr
 have HL : Hid (t0.length + (Fm.lineT Fm.kwCut [((t.root.length : Nat) : Int), ((t.cells.length : Nat) : Int)] ++ (Fm.kwRoot ++ rootN t.root ++ [10]) ++ flT Fm.cellT t.cells).length ≤ 1048576) := Lib.hid (by rw [← hTT]; exact hl)
 have HTT := Lib.hid hTT
 have HT := Lib.hid htab
 have HX := Lib.hid hbx
 clear hb0 hro hce hr hl htab hbx hb1 hF1 hW hTT
 go_enter Tryz.func53, Tryz.ntmps53
 go_wp2_with fail
 have hsz : (w.alloc (.cells #[.slice or t.root.length cr, .slice oc t.cells.length cc] 36)).heap.size = w.heap.size + 1 := by simp
 generalize w.alloc (.cells #[.slice or t.root.length cr, .slice oc t.cells.length cc] 36) = w1 at HW1 HFA HB HX hsz ⊢
 generalize w.heap.size = n at HX hsz hne ⊢
 have h2b : Below w1.heap.size w1 (w1.alloc (.cells #[.int .i64 (t.root.length : Nat), .int .i64 (t.cells.length : Nat)] 3)) := (Below.refl _ _).alloc (Nat.le_refl _) _
 have h2N := Ns.new w1 w0.heap.size b [((t.root.length : Nat) : Int), ((t.cells.length : Nat) : Int)] 3 (by decide) HW1.out.lt
 rw [hsz] at h2N
 have h2F := Fr.of (b := b) HW1.out.sz h2b
 have HF2 := Lib.hid h2F
 have HQ := Lib.hid (line56 _ w0.heap.size b t0 ⟨#[99, 117, 116]⟩ _ 2 [((t.root.length : Nat) : Int), ((t.cells.length : Nat) : Int)] ⟨v, HW1.out.keep h2b⟩ h2N (line_nn _ _ hn1 hn2) (by have h1 := HL.out; simp only [List.length_append] at h1; show t0.length + (Fm.lineT Fm.kwCut _).length ≤ 1048576; omega) (HT.out.on (HB.out.trans h2F.bel)))
 clear h2b h2N h2F hsz
 refine HQ.out.mono ?_
 clear HQ
 rintro e w2 ⟨rfl, v2, hW2, hF2⟩
 obtain ⟨t1, ht1⟩ : ∃ t1, t1 = t0 ++ Fm.lineT Fm.kwCut [((t.root.length : Nat) : Int), ((t.cells.length : Nat) : Int)] := ⟨_, rfl⟩
 have HW2 : Hid (WrS w2 w0.heap.size b t1 v2) := Lib.hid (by rw [ht1]; exact hW2)
 have HF3 := Lib.hid (HF2.out.trans hF2)
 have HL1 : Hid (t1.length + (Fm.kwRoot ++ rootN t.root ++ [10]).length + (flT Fm.cellT t.cells).length ≤ 1048576) := Lib.hid (by have h1 := HL.out; rw [ht1]; simp only [List.length_append] at h1 ⊢; omega)
 have HTT1 : Hid (t0 ++ Fm.treeT t = t1 ++ (Fm.kwRoot ++ rootN t.root ++ [10]) ++ flT Fm.cellT t.cells) := Lib.hid (by rw [HTT.out, ht1]; simp only [List.append_assoc])
 clear hW2 hF2 HF2 HW1 HL HTT ht1
 have HQ := Lib.hid (open60 w2 w0.heap.size b t1 v2 ⟨#[114, 111, 111, 116]⟩ HW2.out (by have h1 := HL1.out; simp only [List.length_append, Fm.kwRoot, List.length_cons, List.length_nil] at h1; show t1.length + 4 ≤ 1048576; omega))
 go_wp2_with fail
 refine HQ.out.mono ?_
 clear HQ
 rintro e w3 ⟨rfl, v3, hW3, hF3⟩
 have HW3 : Hid (WrS w3 w0.heap.size b (t1 ++ Fm.kwRoot) v3) := Lib.hid hW3
 have HF4 := Lib.hid (HF3.out.trans hF3)
 clear hW3 hF3 HF3 HW2
 have hx3 := HX.out.fr HF4.out hne (by decide)
 have c0 := hx3.c 0 _ rfl
 have lc := hx3.lt
 clear hx3
 go_wp2_with fail
 clear c0 lc
 go_loopw [23] (fun i W => ∃ k : Nat, k ≤ t.root.length ∧ i = .int .i64 (k : Nat) ∧ (∃ v, WrS W w0.heap.size b (t1 ++ Fm.kwRoot ++ rootN (t.root.take k)) v) ∧ Fr w0.heap.size b w1 W) (fun i _ => t.root.length - (intOf i).toNat)
 case atStart => exact ⟨0, Nat.zero_le _, rfl, ⟨_, by rw [List.take_zero]; show WrS w3 w0.heap.size b (t1 ++ Fm.kwRoot ++ []) _; rw [List.append_nil]; exact HW3.out⟩, HF4.out⟩
 case round =>
  obtain ⟨k, hk, rfl, ⟨v1, hW⟩, hF⟩ := hrel
  clear HW3 HF4
  by_cases hlt : k < t.root.length
  ·obtain ⟨x, hx⟩ : ∃ x, t.root[k]? = some x := ⟨_, List.getElem?_eq_getElem hlt⟩
   have hxr := HOK.out.rt x (List.mem_of_getElem? hx)
   have hbw := HB.out.trans hF.bel
   obtain ⟨g, off, hon, glt', x0', x1'⟩ := iv_get HR.out hx
   subst hon
   have x0 : wr.cell? ⟨g, off + k * 2, none⟩ = some (.int .i64 x.1) := (hbw.cell (p := ⟨g, off + k * 2, none⟩) glt').trans x0'
   have x1 : wr.cell? ⟨g, off + k * 2 + 1, none⟩ = some (.int .i64 x.2) := (hbw.cell (p := ⟨g, off + k * 2 + 1, none⟩) glt').trans x1'
   have glt : g < wr.heap.size := Nat.lt_of_lt_of_le glt' hbw.size
   have HT2 : Hid (rootN (t.root.take (k + 1)) = rootN (t.root.take k) ++ numsT [x.1, x.2]) := Lib.hid (rootN_take hx)
   have hlen : (t1 ++ Fm.kwRoot ++ rootN (t.root.take k)).length + (numsT [x.1, x.2]).length ≤ 1048576 := by
    have h1 := HL1.out
    have e : rootN t.root = rootN (t.root.take (k + 1)) ++ rootN (t.root.drop (k + 1)) := by rw [← rootN_app, List.take_append_drop]
    rw [e, HT2.out] at h1
    simp only [List.length_append] at h1 ⊢
    omega
   have HT7 : Hid (t1 ++ Fm.kwRoot ++ rootN (t.root.take (k + 1)) = (t1 ++ Fm.kwRoot ++ rootN (t.root.take k)) ++ numsT [x.1, x.2]) := Lib.hid (by rw [HT2.out, ← List.append_assoc])
   generalize t1 ++ Fm.kwRoot ++ rootN (t.root.take k) = t5 at hW hlen HT7
   have h2a : Below wr.heap.size wr (wr.alloc (.cells #[.int .i64 x.1, .int .i64 x.2] 79)) := (Below.refl _ _).alloc (Nat.le_refl _) _
   have hx5 := Bx.new wr [.int .i64 x.1, .int .i64 x.2] 79
   have hfa := Fr.of (b := b) hW.sz h2a
   have HW5 := Lib.hid (hW.keep h2a)
   have HF5 := Lib.hid (hF.trans hfa)
   have HX5 := Lib.hid hx5
   clear hW hF hx hbw x0' x1' glt' h2a hx5 hfa HT2
   go_upto_region 6 with fail
   clear x0 x1 glt
   generalize wr.alloc (.cells #[.int .i64 x.1, .int .i64 x.2] 79) = w5 at HW5 HF5 HX5 ⊢
   generalize wr.heap.size = n5 at HX5 ⊢
   have c0 := HX5.out.c 0 _ rfl
   have c1 := HX5.out.c 1 _ rfl
   have lc := HX5.out.lt
   have h2b : Below w5.heap.size w5 (w5.alloc (.cells #[.int .i64 x.1, .int .i64 x.2] 2)) := (Below.refl _ _).alloc (Nat.le_refl _) _
   have h2N := Ns.new w5 w0.heap.size b [x.1, x.2] 2 (by decide) HW5.out.lt
   have h2F := Fr.of (b := b) HW5.out.sz h2b
   have HF6 := Lib.hid (HF5.out.trans h2F)
   have HQ := Lib.hid (add62 _ w0.heap.size b t5 v1 _ 2 [x.1, x.2] (HW5.out.keep h2b) h2N (two_in hxr.1 hxr.2) hlen (HT.out.on (HB.out.trans HF6.out.bel)))
   clear h2b h2N h2F hlen hxr
   go_wp2_with fail
   refine HQ.out.mono ?_
   clear HQ c0 c1 lc
   rintro e w6 ⟨rfl, v6, hW6, hF6⟩
   have HW6 : Hid (WrS w6 w0.heap.size b (t1 ++ Fm.kwRoot ++ rootN (t.root.take (k + 1))) v6) := Lib.hid (by rw [HT7.out]; exact hW6)
   have HF7 := Lib.hid (HF6.out.trans hF6)
   clear hW6 hF6 HF6
   go_wp2_with fail
   go_roundw
   case rel => exact ⟨k + 1, by omega, by simp, ⟨_, HW6.out⟩, HF7.out⟩
   case measure => simp [intOf]; omega
  ·have hke : k = t.root.length := by omega
   subst hke
   rw [List.take_length] at hW
   have HW := Lib.hid hW
   have HF := Lib.hid hF
   clear hW hF
   have HQ := Lib.hid (end63 wr w0.heap.size b _ v1 HW.out (by have h1 := HL1.out; simp only [List.length_append, List.length_cons, List.length_nil] at h1 ⊢; omega))
   go_wp2_with fail
   refine HQ.out.mono ?_
   clear HQ
   rintro e w4 ⟨rfl, v4, hW4, hF4⟩
   obtain ⟨t2, ht2⟩ : ∃ t2, t2 = t1 ++ (Fm.kwRoot ++ rootN t.root ++ [10]) := ⟨_, rfl⟩
   have HW4 : Hid (WrS w4 w0.heap.size b t2 v4) := Lib.hid (by rw [ht2]; simpa only [List.append_assoc] using hW4)
   have HF4 := Lib.hid (HF.out.trans hF4)
   have HL2 : Hid (t2.length + (flT Fm.cellT t.cells).length ≤ 1048576) := Lib.hid (by have h1 := HL1.out; rw [ht2, List.length_append]; exact h1)
   have HTT2 : Hid (t0 ++ Fm.treeT t = t2 ++ flT Fm.cellT t.cells) := Lib.hid (by rw [HTT1.out, ht2])
   clear hW4 hF4 HF HW HL1 HTT1 ht2 HRE
   have hx4 := HX.out.fr HF4.out hne (by decide)
   have c1 := hx4.c 1 _ rfl
   have lc := hx4.lt
   clear hx4
   go_wp2_with fail
   clear c1 lc
   go_loopw [40] (fun i W => ∃ k : Nat, k ≤ t.cells.length ∧ i = .int .i64 (k : Nat) ∧ (∃ v, WrS W w0.heap.size b (t2 ++ flT Fm.cellT (t.cells.take k)) v) ∧ Fr w0.heap.size b w1 W) (fun i _ => t.cells.length - (intOf i).toNat)
   case atStart => exact ⟨0, Nat.zero_le _, rfl, ⟨_, by rw [List.take_zero, show flT Fm.cellT [] = [] from rfl, List.append_nil]; exact HW4.out⟩, HF4.out⟩
   case round =>
    obtain ⟨k, hk, rfl, ⟨v1, hW⟩, hF⟩ := hrel
    clear HW4 HF4
    by_cases hlt : k < t.cells.length
    ·obtain ⟨c, hc⟩ : ∃ c, t.cells[k]? = some c := ⟨_, List.getElem?_eq_getElem hlt⟩
     obtain ⟨o1, o2, o3, o4, o5, o6, o7, o8, o9, o10, o11⟩ := HOK.out.cl c (List.mem_of_getElem? hc)
     have HOC := Lib.hid (And.intro o9 (And.intro o10 o11))
     clear o9 o10 o11
     have hbw := HB.out.trans hF.bel
     obtain ⟨gc, off, on, ol, orr, cn, cl, crr, hoc, glt', z0', z1', z2', z3', z4', z5', z6', z7', hs1, hs2, hs3⟩ := HC.out.get hc
     subst hoc
     have z0 : wr.cell? ⟨gc, off + k * 8, none⟩ = _ := (hbw.cell (p := ⟨gc, off + k * 8, none⟩) glt').trans z0'
     have z1 : wr.cell? ⟨gc, off + k * 8 + 1, none⟩ = _ := (hbw.cell (p := ⟨gc, off + k * 8 + 1, none⟩) glt').trans z1'
     have z2 : wr.cell? ⟨gc, off + k * 8 + 2, none⟩ = _ := (hbw.cell (p := ⟨gc, off + k * 8 + 2, none⟩) glt').trans z2'
     have z3 : wr.cell? ⟨gc, off + k * 8 + 3, none⟩ = _ := (hbw.cell (p := ⟨gc, off + k * 8 + 3, none⟩) glt').trans z3'
     have z4 : wr.cell? ⟨gc, off + k * 8 + 4, none⟩ = _ := (hbw.cell (p := ⟨gc, off + k * 8 + 4, none⟩) glt').trans z4'
     have z5 : wr.cell? ⟨gc, off + k * 8 + 5, none⟩ = _ := (hbw.cell (p := ⟨gc, off + k * 8 + 5, none⟩) glt').trans z5'
     have z6 : wr.cell? ⟨gc, off + k * 8 + 6, none⟩ = _ := (hbw.cell (p := ⟨gc, off + k * 8 + 6, none⟩) glt').trans z6'
     have z7 : wr.cell? ⟨gc, off + k * 8 + 7, none⟩ = _ := (hbw.cell (p := ⟨gc, off + k * 8 + 7, none⟩) glt').trans z7'
     have glt : gc < wr.heap.size := Nat.lt_of_lt_of_le glt' hbw.size
     have hlen : (t2 ++ flT Fm.cellT (t.cells.take k)).length + (Fm.cellT c).length ≤ 1048576 := by
      have h1 := HL2.out
      have h2 := flT_le Fm.cellT t.cells (k + 1)
      rw [flT_take hc] at h2
      simp only [List.length_append] at h2 ⊢
      omega
     have HT7 : Hid (t2 ++ flT Fm.cellT (t.cells.take (k + 1)) = (t2 ++ flT Fm.cellT (t.cells.take k)) ++ Fm.cellT c) := Lib.hid (by rw [flT_take hc, List.append_assoc])
     generalize t2 ++ flT Fm.cellT (t.cells.take k) = t3 at hW hlen HT7
     have h2a : Below wr.heap.size wr (wr.alloc (.cells #[.int .i64 c.joint, .int .i64 c.low, .int .i64 c.high, .int .i64 c.verd.kind, .slice on c.verd.normals.length cn, .int .i64 c.verd.pair, .slice ol c.verd.left.length cl, .slice orr c.verd.right.length crr] 85)) := (Below.refl _ _).alloc (Nat.le_refl _) _
     have hfa := Fr.of (b := b) hW.sz h2a
     have hne7 : wr.heap.size ≠ b := by have := hW.lt; omega
     have HW7 := Lib.hid (hW.keep h2a)
     have HF7 := Lib.hid (hF.trans hfa)
     have HX7 := Lib.hid (Bx.new wr [.int .i64 c.joint, .int .i64 c.low, .int .i64 c.high, .int .i64 c.verd.kind, .slice on c.verd.normals.length cn, .int .i64 c.verd.pair, .slice ol c.verd.left.length cl, .slice orr c.verd.right.length crr] 85)
     have HS := Lib.hid (And.intro hs1 (And.intro hs2 hs3))
     have HL7 := Lib.hid hlen
     clear hW hF hc hbw z0' z1' z2' z3' z4' z5' z6' z7' glt' h2a hfa hs1 hs2 hs3 hlen
     go_upto_region 12 with fail
     clear z0 z1 z2 z3 z4 z5 z6 z7 glt
     generalize wr.alloc (.cells #[.int .i64 c.joint, .int .i64 c.low, .int .i64 c.high, .int .i64 c.verd.kind, .slice on c.verd.normals.length cn, .int .i64 c.verd.pair, .slice ol c.verd.left.length cl, .slice orr c.verd.right.length crr] 85) = w7 at HW7 HF7 HX7 ⊢
     generalize wr.heap.size = n7 at HX7 hne7 ⊢
     have HQ := Lib.hid (full59 w7 w0.heap.size b t3 v1 HW7.out (by have := HL7.out; omega))
     have y0 := HX7.out.c 0 _ rfl
     have y1 := HX7.out.c 1 _ rfl
     have y2 := HX7.out.c 2 _ rfl
     have y3 := HX7.out.c 3 _ rfl
     have y4 := HX7.out.c 4 _ rfl
     have y5 := HX7.out.c 5 _ rfl
     have y6 := HX7.out.c 6 _ rfl
     have y7 := HX7.out.c 7 _ rfl
     have ly := HX7.out.lt
     have HLF := Lib.hid (leaf84 c on ol orr cn cl crr w7)
     go_wp2_with fail
     refine HQ.out.mono ?_
     rintro e w7' ⟨rfl, hw7⟩
     subst hw7
     clear HQ
     go_wp2_with fail
     refine HLF.out.mono ?_
     rintro e w8 ⟨rfl, hb8⟩
     have HF8 := Lib.hid (HF7.out.trans (Fr.of (b := b) HW7.out.sz hb8))
     have HW8 := Lib.hid (HW7.out.keep hb8)
     have HX8 := Lib.hid (HX7.out.keep hb8)
     clear hb8 HLF HF7 HW7 HX7 y0 y1 y2 y3 y4 y5 y6 y7 ly
     have y0 := HX8.out.c 0 _ rfl
     have y1 := HX8.out.c 1 _ rfl
     have y2 := HX8.out.c 2 _ rfl
     have y3 := HX8.out.c 3 _ rfl
     have y4 := HX8.out.c 4 _ rfl
     have ly := HX8.out.lt
     cases hlf : Fm.leafB c with
     | false =>
      rw [cellT_split hlf] at HT7 HL7
      have h2b : Below w8.heap.size w8 (w8.alloc (.cells #[.int .i64 c.joint, .int .i64 c.low, .int .i64 c.high] 3)) := (Below.refl _ _).alloc (Nat.le_refl _) _
      have h2N := Ns.new w8 w0.heap.size b [c.joint, c.low, c.high] 3 (by decide) HW8.out.lt
      have h2F := Fr.of (b := b) HW8.out.sz h2b
      have HF9 := Lib.hid (HF8.out.trans h2F)
      have HQ := Lib.hid (line56 _ w0.heap.size b t3 ⟨#[115, 112, 108, 105, 116]⟩ _ 3 [c.joint, c.low, c.high] ⟨v1, HW8.out.keep h2b⟩ h2N (three_in o1 o2 o3) HL7.out (HT.out.on (HB.out.trans HF9.out.bel)))
      clear h2b h2N h2F HF8
      go_wp2_with fail
      refine HQ.out.mono ?_
      clear HQ y0 y1 y2 y3 y4 ly
      rintro e w9 ⟨rfl, v9, hW9, hF9⟩
      have HW9 : Hid (WrS w9 w0.heap.size b (t2 ++ flT Fm.cellT (t.cells.take (k + 1))) v9) := Lib.hid (by rw [HT7.out]; exact hW9)
      have HF10 := Lib.hid (HF9.out.trans hF9)
      clear hW9 hF9 HF9
      go_wp2_with fail
      go_roundw
      case rel => exact ⟨k + 1, by omega, by simp, ⟨_, HW9.out⟩, HF10.out⟩
      case measure => simp [intOf]; omega
     | true =>
      have h2b : Below w8.heap.size w8 (w8.alloc (.cells #[.int .i64 c.verd.kind, .int .i64 (c.verd.normals.length : Nat)] 3)) := (Below.refl _ _).alloc (Nat.le_refl _) _
      have h2N := Ns.new w8 w0.heap.size b [c.verd.kind, ((c.verd.normals.length : Nat) : Int)] 3 (by decide) HW8.out.lt
      have h2F := Fr.of (b := b) HW8.out.sz h2b
      have HF9 := Lib.hid (HF8.out.trans h2F)
      have hpre : (Fm.lineT Fm.kwLeaf [c.verd.kind, ((c.verd.normals.length : Nat) : Int)]).length + (flT normT c.verd.normals).length ≤ (Fm.cellT c).length := by
       by_cases hk2 : c.verd.kind = 2
       ·rw [cellT_two hlf hk2]; simp only [List.length_append]; omega
       ·rw [cellT_one hlf hk2]; simp only [List.length_append]; omega
      have HPRE := Lib.hid hpre
      have HQ := Lib.hid (line56 _ w0.heap.size b t3 ⟨#[108, 101, 97, 102]⟩ _ 2 [c.verd.kind, ((c.verd.normals.length : Nat) : Int)] ⟨v1, HW8.out.keep h2b⟩ h2N (two_in o4 (Fm.sz_in o6)) (by have h1 := HL7.out; show t3.length + (Fm.lineT Fm.kwLeaf _).length ≤ 1048576; omega) (HT.out.on (HB.out.trans HF9.out.bel)))
      clear h2b h2N h2F hpre
      go_wp2_with fail
      refine HQ.out.mono ?_
      clear HQ y0 y1 y2 y3 y4 ly
      rintro e w9 ⟨rfl, v9, hW9, hF9⟩
      obtain ⟨t4, ht4⟩ : ∃ t4, t4 = t3 ++ Fm.lineT Fm.kwLeaf [c.verd.kind, ((c.verd.normals.length : Nat) : Int)] := ⟨_, rfl⟩
      have HW9 : Hid (WrS w9 w0.heap.size b t4 v9) := Lib.hid (by rw [ht4]; exact hW9)
      have HF10 := Lib.hid (HF9.out.trans hF9)
      have HT4 := Lib.hid ht4
      have hx9 := HX8.out.fr (Fr.trans (Fr.of (b := b) HW8.out.sz (show Below w8.heap.size w8 _ from (Below.refl _ _).alloc (Nat.le_refl _) (.cells #[.int .i64 c.verd.kind, .int .i64 (c.verd.normals.length : Nat)] 3))) hF9) hne7 (by decide)
      have HX9 := Lib.hid hx9
      clear hW9 hF9 HF9 HF8 HW8 ht4 hx9 HX8
      have y4 := HX9.out.c 4 _ rfl
      have ly := HX9.out.lt
      have HQ := Lib.hid (normals58 w0 w9 b t4 on cn c.verd.normals (HB.out.trans HF10.out.bel) HS.out.1 ⟨v9, HW9.out⟩ HOC.out.1 (by have h1 := HL7.out; have h2 := HPRE.out; rw [HT4.out, List.length_append]; omega) HT.out)
      go_wp2_with fail
      refine HQ.out.mono ?_
      clear HQ y4 ly
      rintro e w10 ⟨rfl, v10, hW10, hF10⟩
      obtain ⟨t5, ht5⟩ : ∃ t5, t5 = t4 ++ flT normT c.verd.normals := ⟨_, rfl⟩
      have HW10 : Hid (WrS w10 w0.heap.size b t5 v10) := Lib.hid (by rw [ht5]; exact hW10)
      have HF11 := Lib.hid (HF10.out.trans hF10)
      have HX10 := Lib.hid (HX9.out.fr hF10 hne7 (by decide))
      have HT5 := Lib.hid ht5
      clear hW10 hF10 HF10 HW9 ht5 HX9
      have y3 := HX10.out.c 3 _ rfl
      have y5 := HX10.out.c 5 _ rfl
      have y6 := HX10.out.c 6 _ rfl
      have y7 := HX10.out.c 7 _ rfl
      have ly := HX10.out.lt
      have h2b : Below w10.heap.size w10 (w10.alloc (.cells #[.int .i64 c.verd.pair, .slice ol c.verd.left.length cl, .slice orr c.verd.right.length crr] 81)) := (Below.refl _ _).alloc (Nat.le_refl _) _
      have hne8 : w10.heap.size ≠ b := by have := HW10.out.lt; omega
      have HX11 := Lib.hid (Bx.new w10 [.int .i64 c.verd.pair, .slice ol c.verd.left.length cl, .slice orr c.verd.right.length crr] 81)
      have HF12 := Lib.hid (HF11.out.trans (Fr.of (b := b) HW10.out.sz h2b))
      have HW11 := Lib.hid (HW10.out.keep h2b)
      have HX10b := Lib.hid (HX10.out.keep h2b)
      clear h2b HF11 HW10 HX10
      go_upto_region 18 with fail
      generalize w10.alloc (.cells #[.int .i64 c.verd.pair, .slice ol c.verd.left.length cl, .slice orr c.verd.right.length crr] 81) = w11 at HX11 HF12 HW11 HX10b ⊢
      generalize w10.heap.size = n8 at HX11 hne8 ⊢
      clear y3 y5 y6 y7 ly
      have y3 := HX10b.out.c 3 _ rfl
      have ly := HX10b.out.lt
      by_cases hk2 : c.verd.kind = 2
      ·have hkd : (c.verd.kind == 2) = true := by rw [hk2]; rfl
       have hkd2 : decide (c.verd.kind = 2) = true := decide_eq_true hk2
       rw [cellT_two hlf hk2, witL_num] at HT7 HL7
       have HTX : Hid (t2 ++ flT Fm.cellT (t.cells.take (k + 1)) = t5 ++ Fm.kwWitness ++ numsT [c.verd.pair, ((c.verd.left.length : Nat) : Int)] ++ numsT c.verd.left ++ numsT [((c.verd.right.length : Nat) : Int)] ++ numsT c.verd.right ++ [10]) := Lib.hid (by rw [HT7.out, HT5.out, HT4.out]; simp only [List.append_assoc])
       have HLX : Hid (t5.length + Fm.kwWitness.length + (numsT [c.verd.pair, ((c.verd.left.length : Nat) : Int)]).length + (numsT c.verd.left).length + (numsT [((c.verd.right.length : Nat) : Int)]).length + (numsT c.verd.right).length + 1 ≤ 1048576) := Lib.hid (by have h1 := HL7.out; rw [HT5.out, HT4.out]; simp only [List.length_append, List.length_cons, List.length_nil] at h1 ⊢; omega)
       have HK2 := Lib.hid hk2
       clear hk2
       have HQ := Lib.hid (open60 w11 w0.heap.size b t5 v10 ⟨#[119, 105, 116, 110, 101, 115, 115]⟩ HW11.out (by have h1 := HLX.out; simp only [Fm.kwWitness, List.length_cons, List.length_nil] at h1; show t5.length + 7 ≤ 1048576; omega))
       go_wp2_with fail
       refine HQ.out.mono ?_
       clear HQ y3 ly hkd hkd2
       rintro e w12 ⟨rfl, v12, hW_, hF_⟩
       have HW12 : Hid (WrS w12 w0.heap.size b (t5 ++ Fm.kwWitness) v12) := Lib.hid hW_
       have HF13 := Lib.hid (HF12.out.trans hF_)
       have HX12 := Lib.hid (HX11.out.fr hF_ hne8 (by decide))
       clear hW_ hF_ HF12 HW11 HX11 HX10b
       generalize ht6 : t5 ++ Fm.kwWitness = t6 at HW12 HTX
       have hl6 : t6.length = t5.length + Fm.kwWitness.length := by rw [← ht6, List.length_append]
       have HLX : Hid (t6.length + (numsT [c.verd.pair, ((c.verd.left.length : Nat) : Int)]).length + (numsT c.verd.left).length + (numsT [((c.verd.right.length : Nat) : Int)]).length + (numsT c.verd.right).length + 1 ≤ 1048576) := Lib.hid (by have h1 := HLX.out; rw [hl6]; exact h1)
       clear ht6 hl6
       have hx_ := HX12.out
       have y0 := hx_.c 0 _ rfl
       have y1 := hx_.c 1 _ rfl
       have ly := hx_.lt
       have h2b : Below w12.heap.size w12 (w12.alloc (.cells #[.int .i64 c.verd.pair, .int .i64 (c.verd.left.length : Nat)] 3)) := (Below.refl _ _).alloc (Nat.le_refl _) _
       have h2N := Ns.new w12 w0.heap.size b [c.verd.pair, ((c.verd.left.length : Nat) : Int)] 3 (by decide) HW12.out.lt
       have h2F := Fr.of (b := b) HW12.out.sz h2b
       have HFq := Lib.hid (HF13.out.trans h2F)
       have HFx := Lib.hid h2F
       have HQ := Lib.hid (add61 _ w0.heap.size b t6 v12 _ 2 [c.verd.pair, ((c.verd.left.length : Nat) : Int)] (HW12.out.keep h2b) h2N (two_in o5 (Fm.sz_in o7)) (by have h1 := HLX.out; omega) (HT.out.on (HB.out.trans HFq.out.bel)))
       clear hx_ h2b h2N h2F
       go_wp2_with fail
       refine HQ.out.mono ?_
       clear HQ y0 y1 ly
       rintro e w13 ⟨rfl, v13, hW_, hF_⟩
       have HW13 : Hid (WrS w13 w0.heap.size b (t6 ++ numsT [c.verd.pair, ((c.verd.left.length : Nat) : Int)]) v13) := Lib.hid hW_
       have HF14 := Lib.hid (HFq.out.trans hF_)
       have HX13 := Lib.hid (HX12.out.fr (HFx.out.trans hF_) hne8 (by decide))
       clear hW_ hF_ HFq HFx HF13 HW12 HX12
       generalize ht_ : t6 ++ numsT [c.verd.pair, ((c.verd.left.length : Nat) : Int)] = t7 at HW13 HTX
       have hl_ : t7.length = t6.length + (numsT [c.verd.pair, ((c.verd.left.length : Nat) : Int)]).length := by rw [← ht_, List.length_append]
       have HLX : Hid (t7.length + (numsT c.verd.left).length + (numsT [((c.verd.right.length : Nat) : Int)]).length + (numsT c.verd.right).length + 1 ≤ 1048576) := Lib.hid (by have h1 := HLX.out; omega)
       clear ht_ hl_
       have hx_ := HX13.out
       have y1 := hx_.c 1 _ rfl
       have ly := hx_.lt
       have hbB := HB.out.trans HF14.out.bel
       have HQ := Lib.hid (add62 w13 w0.heap.size b t7 v13 ol cl c.verd.left HW13.out (Ns.old HS.out.2.1 hbB b) HOC.out.2.1 (by have h1 := HLX.out; omega) (HT.out.on hbB))
       clear hx_ hbB
       go_wp2_with fail
       refine HQ.out.mono ?_
       clear HQ y1 ly
       rintro e w14 ⟨rfl, v14, hW_, hF_⟩
       have HW14 : Hid (WrS w14 w0.heap.size b (t7 ++ numsT c.verd.left) v14) := Lib.hid hW_
       have HF15 := Lib.hid (HF14.out.trans hF_)
       have HX14 := Lib.hid (HX13.out.fr hF_ hne8 (by decide))
       clear hW_ hF_ HF14 HW13 HX13
       generalize ht_ : t7 ++ numsT c.verd.left = t8 at HW14 HTX
       have hl_ : t8.length = t7.length + (numsT c.verd.left).length := by rw [← ht_, List.length_append]
       have HLX : Hid (t8.length + (numsT [((c.verd.right.length : Nat) : Int)]).length + (numsT c.verd.right).length + 1 ≤ 1048576) := Lib.hid (by have h1 := HLX.out; omega)
       clear ht_ hl_
       have hx_ := HX14.out
       have y2 := hx_.c 2 _ rfl
       have ly := hx_.lt
       have h2b : Below w14.heap.size w14 (w14.alloc (.cells #[.int .i64 (c.verd.right.length : Nat)] 3)) := (Below.refl _ _).alloc (Nat.le_refl _) _
       have h2N := Ns.new w14 w0.heap.size b [((c.verd.right.length : Nat) : Int)] 3 (by decide) HW14.out.lt
       have h2F := Fr.of (b := b) HW14.out.sz h2b
       have HFq := Lib.hid (HF15.out.trans h2F)
       have HFx := Lib.hid h2F
       have HQ := Lib.hid (add61 _ w0.heap.size b t8 v14 _ 1 [((c.verd.right.length : Nat) : Int)] (HW14.out.keep h2b) h2N (one_nn o8) (by have h1 := HLX.out; omega) (HT.out.on (HB.out.trans HFq.out.bel)))
       clear hx_ h2b h2N h2F
       go_wp2_with fail
       refine HQ.out.mono ?_
       clear HQ y2 ly
       rintro e w15 ⟨rfl, v15, hW_, hF_⟩
       have HW15 : Hid (WrS w15 w0.heap.size b (t8 ++ numsT [((c.verd.right.length : Nat) : Int)]) v15) := Lib.hid hW_
       have HF16 := Lib.hid (HFq.out.trans hF_)
       have HX15 := Lib.hid (HX14.out.fr (HFx.out.trans hF_) hne8 (by decide))
       clear hW_ hF_ HFq HFx HF15 HW14 HX14
       generalize ht_ : t8 ++ numsT [((c.verd.right.length : Nat) : Int)] = t9 at HW15 HTX
       have hl_ : t9.length = t8.length + (numsT [((c.verd.right.length : Nat) : Int)]).length := by rw [← ht_, List.length_append]
       have HLX : Hid (t9.length + (numsT c.verd.right).length + 1 ≤ 1048576) := Lib.hid (by have h1 := HLX.out; omega)
       clear ht_ hl_
       have hx_ := HX15.out
       have y2 := hx_.c 2 _ rfl
       have ly := hx_.lt
       have hbB := HB.out.trans HF16.out.bel
       have HQ := Lib.hid (add62 w15 w0.heap.size b t9 v15 orr crr c.verd.right HW15.out (Ns.old HS.out.2.2 hbB b) HOC.out.2.2 (by have h1 := HLX.out; omega) (HT.out.on hbB))
       clear hx_ hbB
       go_wp2_with fail
       refine HQ.out.mono ?_
       clear HQ y2 ly
       rintro e w16 ⟨rfl, v16, hW_, hF_⟩
       have HW16 : Hid (WrS w16 w0.heap.size b (t9 ++ numsT c.verd.right) v16) := Lib.hid hW_
       have HF17 := Lib.hid (HF16.out.trans hF_)
       have HX16 := Lib.hid (HX15.out.fr hF_ hne8 (by decide))
       clear hW_ hF_ HF16 HW15 HX15
       generalize ht_ : t9 ++ numsT c.verd.right = t10 at HW16 HTX
       have hl_ : t10.length = t9.length + (numsT c.verd.right).length := by rw [← ht_, List.length_append]
       have HLX : Hid (t10.length + 1 ≤ 1048576) := Lib.hid (by have h1 := HLX.out; omega)
       clear ht_ hl_
       have HQ := Lib.hid (end63 w16 w0.heap.size b t10 v16 HW16.out (by have h1 := HLX.out; omega))
       go_wp2_with fail
       refine HQ.out.mono ?_
       clear HQ
       rintro e w17 ⟨rfl, v17, hW_, hF_⟩
       have HW17 : Hid (WrS w17 w0.heap.size b (t2 ++ flT Fm.cellT (t.cells.take (k + 1))) v17) := Lib.hid (by rw [HTX.out]; exact hW_)
       have HF18 := Lib.hid (HF17.out.trans hF_)
       clear hW_ hF_ HF17 HW16 HX16
       go_wp2_with fail
       go_roundw
       case rel => exact ⟨k + 1, by omega, by simp, ⟨_, HW17.out⟩, HF18.out⟩
       case measure => simp [intOf]; omega
      ·have hkd : (c.verd.kind == 2) = false := by simpa using hk2
       have hkd2 : decide (c.verd.kind = 2) = false := decide_eq_false hk2
       rw [cellT_one hlf hk2] at HT7
       have HW17 : Hid (WrS w11 w0.heap.size b (t2 ++ flT Fm.cellT (t.cells.take (k + 1))) v10) := Lib.hid (by rw [HT7.out, ← List.append_assoc, ← HT4.out, ← HT5.out]; exact HW11.out)
       go_wp2_with fail
       go_roundw
       case rel => exact ⟨k + 1, by omega, by simp, ⟨_, HW17.out⟩, HF12.out⟩
       case measure => simp [intOf]; omega
    ·have hke : k = t.cells.length := by omega
     subst hke
     rw [List.take_length] at hW
     have HW : Hid (WrS wr w0.heap.size b (t0 ++ Fm.treeT t) v1) := Lib.hid (by rw [HTT2.out]; exact hW)
     have HFF := Lib.hid (HFA.out.trans hF)
     clear hW hF
     go_wp2
     refine bodyPost_end (v := .tuple #[]) (by simp [results, Tryz.results53, go_sem]) rfl ?_
     exact ⟨rfl, _, HW.out, HFF.out⟩
end Go.Proofs.Ng
end

section
/-
 Walks: FormatCut on valid trees.
-/
namespace Go.Proofs.Ng
open Go.RowKit
set_option maxRecDepth 100000 in
set_option maxHeartbeats 4000000 in
theorem formatCut19 (w : World) (pv : Value) (t : Fm.TreeD) (hP : TreeAt w pv t) (hv : Fm.validT t = true) (hr : Fm.TreeOk t) (hl : (Fm.docC t).length ≤ 1048576) (hn : t.root.length ≤ 1000000) (hm : t.cells.length ≤ 1000000) (htab : TabW w.heap.size w) :
  Calls Tryz.prog 19 #[pv] w (fun e W' => e = .returned (fmtV (some (Fm.docC t))) ∧ Below w.heap.size w W') := by
 have hlp : (Fm.treeT t).length ≤ 1048576 := by unfold Fm.docC at hl; rw [List.length_append] at hl; omega
 have hP0 := hP
 obtain ⟨or, cr, oc, cc, rfl, -, -⟩ := hP
 have hb1 : Below w.heap.size w (w.alloc (.cells #[.slice or t.root.length cr, .slice oc t.cells.length cc] 36)) := (Below.refl _ _).alloc (Nat.le_refl _) _
 have hbx := Bx.new w [.slice or t.root.length cr, .slice oc t.cells.length cc] 36
 have H46 := Lib.hid (valid46 _ _ t (hP0.keep hb1) hn hm)
 have HP := Lib.hid hP0
 have HX := Lib.hid hbx
 have HB := Lib.hid hb1
 have HT := Lib.hid htab
 have HR := Lib.hid hr
 clear hP0 hb1 hbx htab hr
 rw [hv] at H46
 clear hv
 go_enter Tryz.func19, Tryz.ntmps19
 go_wp2_with fail
 refine H46.out.mono ?_
 clear H46
 rintro e W1 ⟨rfl, hb2⟩
 have hX1 := HX.out.keep hb2
 have hB2 := HB.out.trans (hb2.mono HB.out.size)
 generalize w.alloc (.cells #[.slice or t.root.length cr, .slice oc t.cells.length cc] 36) = wx at HX HB
 clear hb2 HX HB
 have c0 := hX1.c 0 _ rfl
 have c1 := hX1.c 1 _ rfl
 have clt := hX1.lt
 have hb3 : Below W1.heap.size W1 (W1.alloc (.cells #[.slice none 0 0] 104)) := (Below.refl _ _).alloc (Nat.le_refl _) _
 have hW : WrS (W1.alloc (.cells #[.slice none 0 0] 104)) w.heap.size W1.heap.size [] (.slice none 0 0) := ⟨(Bx.new W1 [.slice none 0 0] 104).h, World.ownsRow_nil _ _ _ _, hB2.size⟩
 have hB3 := hB2.trans (hb3.mono hB2.size)
 have HB3 := Lib.hid hB3
 have H35 := Lib.hid (tree53 w _ W1.heap.size [] _ t hB3 HP.out ⟨_, hW⟩ HR.out (by rw [List.length_nil]; omega) HT.out)
 clear hb3 hW hB3 hX1
 go_wp2_with fail
 refine H35.out.mono ?_
 clear H35 c0 c1 clt
 rintro e W2 ⟨rfl, v2, hW2, hF2⟩
 have HB4 := Lib.hid (HB3.out.trans hF2.bel)
 have H36 := Lib.hid (document36 W2 w.heap.size W1.heap.size _ ⟨_, hW2⟩ (by rw [List.nil_append]; exact hl) (HT.out.on HB4.out))
 clear hW2 hF2
 go_wp2_with fail
 refine H36.out.mono ?_
 clear H36
 rintro e W3 ⟨rfl, hb5⟩
 have HB5 := Lib.hid (HB4.out.trans hb5)
 clear hb5
 rw [List.nil_append]
 unfold fmtV
 go_wp2
 go_ret2
 exact ⟨rfl, HB5.out⟩
end Go.Proofs.Ng
end

section
/-
 Walks: equal trees are the same.
-/
namespace Go.Proofs.Ng
open Go.RowKit
end Go.Proofs.Ng
end

section
/-
 Walks: equal trees are the same (2).
-/
namespace Go.Proofs.Ng
open Go.RowKit
end Go.Proofs.Ng
end

section
/-
 Walks: equal trees are the same (3).
-/
namespace Go.Proofs.Ng
open Go.RowKit
end Go.Proofs.Ng
end

section
/-
 Walks: the law FormatKinds.
-/
namespace Go.Proofs.Ng
open Go.RowKit
theorem bytes_len (S : List UInt8) : (⟨S.toArray⟩ : ByteArray).size = S.length := by
 show S.toArray.size = S.length
 simp
end Go.Proofs.Ng
end

section
/-
 Walks: the law FormatReturns. Printed by gen_uf.py.
-/
namespace Go.Proofs.Ng
open Go.RowKit
structure Rt0 (w X : World) (n5 n6 n7 : Nat) (A B C : List Value) (p : Fm.PathD) (t : Fm.TreeD) (x : Fm.TrajD) : Prop where
 b5 : Bx X n5 A 29
 b6 : Bx X n6 B 36
 b7 : Bx X n7 C 43
 p : PathAt X (.agg A.toArray) p
 t : TreeAt X (.agg B.toArray) t
 x : TrajAt X (.agg C.toArray) x
 bel : Below w.heap.size w X
theorem Rt0.keep {w X Y : World} {n5 n6 n7 : Nat} {A B C : List Value} {p : Fm.PathD} {t : Fm.TreeD} {x : Fm.TrajD} (h : Rt0 w X n5 n6 n7 A B C p t x) (hb : Below X.heap.size X Y) : Rt0 w Y n5 n6 n7 A B C p t x :=
 ⟨h.b5.keep hb, h.b6.keep hb, h.b7.keep hb, h.p.keep hb, h.t.keep hb, h.x.keep hb, below_call h.bel hb⟩
theorem Rt0.new {w W : World} {A B C : List Value} {p : Fm.PathD} {t : Fm.TreeD} {x : Fm.TrajD} (hp : PathAt W (.agg A.toArray) p) (ht : TreeAt W (.agg B.toArray) t) (hx : TrajAt W (.agg C.toArray) x) (hb : Below w.heap.size w W) :
  ∃ n5 n6 n7 : Nat, n5 = W.heap.size ∧ n6 = W.heap.size + 1 ∧ n7 = W.heap.size + 1 + 1 ∧ Rt0 w (((W.alloc (.cells A.toArray 29)).alloc (.cells B.toArray 36)).alloc (.cells C.toArray 43)) n5 n6 n7 A B C p t x := by
 obtain ⟨n5, n6, e5, e6, x5, x6, h2⟩ := news2 W A B 29 36
 have h3 : Below ((W.alloc (.cells A.toArray 29)).alloc (.cells B.toArray 36)).heap.size ((W.alloc (.cells A.toArray 29)).alloc (.cells B.toArray 36)) (((W.alloc (.cells A.toArray 29)).alloc (.cells B.toArray 36)).alloc (.cells C.toArray 43)) := (Below.refl _ _).alloc (Nat.le_refl _) _
 have h7 := Bx.new ((W.alloc (.cells A.toArray 29)).alloc (.cells B.toArray 36)) C 43
 have hz : ((W.alloc (.cells A.toArray 29)).alloc (.cells B.toArray 36)).heap.size = W.heap.size + 1 + 1 := by simp
 have h23 := below_call h2 h3
 rw [hz] at h7
 exact ⟨n5, n6, _, e5, e6, rfl, x5.keep h3, x6.keep h3, h7, hp.keep h23, ht.keep h23, hx.keep h23, below_call hb h23⟩
end Go.Proofs.Ng
end

