/-
  Texts put together: Ec Ed Eh Tw Ty Co.
-/
import Derived.Test.YthcmkpcefiiiaaaGreatDoorZFormatKindsCard31
import Derived.Test.YthcmkpcefiiiaaaGreatDoorZFormatKindsCard20
import Derived.Test.YthcmkpcefiiiaaaGreatDoorZFormatKindsCard25
import Derived.Test.YthcmkpcefiiiaaaGreatDoorZFormatKindsCard18
import Derived.Deep.RegionHeld3
import Derived.Test.YthcmkpcefiiiaaaGreatDoorZFormatKindsCard27
import Derived.Test.YthcmkpcefiiiaaaGreatDoorZFormatKindsCard13
import Derived.Test.YthcmkpcefiiiaaaGreatDoorZFormatKindsCard10
import Derived.Deep.CutRange
import Derived.Test.YthcmkpcefiiiaaaGreatDoorZFormatKindsCard1
import Derived.Deep.Slices
import Derived.OpenShut
import Derived.ChangeArms
import Derived.ProofKit
import Derived.ChangeSame
import Derived.Carry
import Derived.Below
import Derived.Lib.SmallJoins
set_option linter.unusedVariables false
section
/-
  Walks: the reference's FormatTrajectory.
-/
namespace Go.Proofs.Ng
open Go.RowKit

theorem keepT {V X : World} {n : Nat} {a0 a1 a2 a3 a4 a5 a6 : Value} {ty : TypeId} (h : Bx V n [a0, a1, a2, a3, a4, a5, a6] ty) (hb : Below V.heap.size V X) : X.cell? ⟨n, 0, none⟩ = some a0 ∧ X.cell? ⟨n, 1, none⟩ = some a1 ∧ X.cell? ⟨n, 2, none⟩ = some a2 ∧ X.cell? ⟨n, 3, none⟩ = some a3 ∧ X.cell? ⟨n, 4, none⟩ = some a4 ∧ X.cell? ⟨n, 5, none⟩ = some a5 ∧ n < X.heap.size ∧ Below V.heap.size V X :=
  ⟨(h.keep hb).c 0 _ rfl, (h.keep hb).c 1 _ rfl, (h.keep hb).c 2 _ rfl, (h.keep hb).c 3 _ rfl, (h.keep hb).c 4 _ rfl, (h.keep hb).c 5 _ rfl, (h.keep hb).lt, hb⟩
theorem keep2 {V X : World} {n : Nat} {a0 a1 : Value} {ty : TypeId} (h : Bx V n [a0, a1] ty) (hb : Below V.heap.size V X) : X.cell? ⟨n, 0, none⟩ = some a0 ∧ X.cell? ⟨n, 1, none⟩ = some a1 ∧ n < X.heap.size ∧ Below V.heap.size V X :=
  ⟨(h.keep hb).c 0 _ rfl, (h.keep hb).c 1 _ rfl, (h.keep hb).lt, hb⟩
set_option maxRecDepth 100000 in
set_option maxHeartbeats 8000000 in
theorem refFormatTraj14 (w : World) (pv : Value) (p : Fm.TrajD) (hP : TrajAt w pv p) (hr : Fm.TrajOk p) (hl : (Fm.docTr p).length ≤ 1048576) (htab : TabW w.heap.size w) :
    Calls Tryz.prog 11 #[pv] w (fun e W' => e = .returned (fmtV (Fm.formatTr p)) ∧ Below w.heap.size w W') := by
  obtain ⟨hm1, hm2, hm3, hlt⟩ := traj_sizes hr hl
  obtain ⟨op, np, oe, ne, f, nf, rfl, hPt, hEd, hPr⟩ := hP
  have hb1 : Below w.heap.size w (w.alloc (.cells #[.slice op p.path.pts.length np, .slice oe p.path.edges.length ne, .int .i64 p.grav.1, .int .i64 p.grav.2.1, .int .i64 p.grav.2.2, .int .i64 p.grid, .slice f p.profs.length nf] 43)) := (Below.refl _ _).alloc (Nat.le_refl _) _
  have hbx := Bx.new w [.slice op p.path.pts.length np, .slice oe p.path.edges.length ne, .int .i64 p.grav.1, .int .i64 p.grav.2.1, .int .i64 p.grav.2.2, .int .i64 p.grid, .slice f p.profs.length nf] 43
  have hPP : PathAt w (.agg #[.slice op p.path.pts.length np, .slice oe p.path.edges.length ne]) p.path := ⟨op, np, oe, ne, rfl, hPt, hEd⟩
  have H22 := Lib.hid (right22 _ _ p.path (hPP.keep hb1) hm1 hm2)
  have HP := Lib.hid hPP
  have HPR := Lib.hid hPr
  have HX := Lib.hid hbx
  have HB := Lib.hid hb1
  have HT := Lib.hid htab
  have HR := Lib.hid hr
  clear hb1 hbx htab hr hPP hPt hEd hPr
  go_enter Tryz.func11, Tryz.ntmps11
  go_upto_region 1 with fail
  generalize w.alloc (.cells #[.slice op p.path.pts.length np, .slice oe p.path.edges.length ne, .int .i64 p.grav.1, .int .i64 p.grav.2.1, .int .i64 p.grav.2.2, .int .i64 p.grid, .slice f p.profs.length nf] 43) = wx at HX HB H22 ⊢
  obtain ⟨n, hn⟩ : ∃ n, n = w.heap.size := ⟨_, rfl⟩
  have HN := Lib.hid hn
  rw [← hn] at HX ⊢
  clear hn
  have c0 := HX.out.c 0 _ rfl
  have c1 := HX.out.c 1 _ rfl
  have clt := HX.out.lt
  cases hf : Fm.rightP p.path with
  | false =>
    have HF := Lib.hid (formatTr_no hf)
    rw [hf] at H22
    clear hf
    go_wp2_with fail
    refine H22.out.mono ?_
    rintro e W1 ⟨rfl, hb2⟩
    have HB2 := Lib.hid (below_call HB.out hb2)
    clear hb2 H22
    go_wp2
    go_ret2
    exact ⟨by rw [HF.out]; rfl, HB2.out⟩
  | true =>
    rw [hf] at H22
    by_cases heq : p.profs.length = p.path.edges.length
    · have hF := formatTr_yes hf heq hl
      have HFF := Lib.hid hF
      have hd : ((p.profs.length : Int) != (p.path.edges.length : Int)) = false := by rw [heq]; simp
      clear hF hf heq
      go_wp2_with fail
      refine H22.out.mono ?_
      clear H22
      rintro e W1 ⟨rfl, hb2⟩
      have HX1 := Lib.hid (HX.out.keep hb2)
      have HB2 := Lib.hid (below_call HB.out hb2)
      clear hb2 HX HB c0 c1 clt
      have c0 := HX1.out.c 0 _ rfl
      have c1 := HX1.out.c 1 _ rfl
      have c6 := HX1.out.c 6 _ rfl
      have clt := HX1.out.lt
      have HL : Hid ((Fm.lineT Fm.kwTraj (p.grid :: Fm.vecL p.grav)).length + (Fm.pathT p.path).length + (flT Fm.profT p.profs).length ≤ 1048576) := Lib.hid (by
        have h := hlt
        unfold Fm.trajT at h
        rw [List.length_append, List.length_append] at h
        exact h)
      have hcat := cat (a := Fm.lineT Fm.kwTraj (p.grid :: Fm.vecL p.grav)) (c := Fm.pathT p.path) (by have := HL.out; omega)
      have hdl := hl
      go_upto_region 3 with fail
      clear c0 c1 c6 clt hd
      have c0 := HX1.out.c 0 _ rfl
      have s0 := HX1.out.c 2 _ rfl
      have s1 := HX1.out.c 3 _ rfl
      have s2 := HX1.out.c 4 _ rfl
      have slt := HX1.out.lt
      go_region_held_law (fun X => X.cell? ⟨n, 0, none⟩ = some (.slice op p.path.pts.length np) ∧ X.cell? ⟨n, 1, none⟩ = some (.slice oe p.path.edges.length ne) ∧ X.cell? ⟨n, 2, none⟩ = some (.int .i64 p.grav.1) ∧ X.cell? ⟨n, 3, none⟩ = some (.int .i64 p.grav.2.1) ∧ X.cell? ⟨n, 4, none⟩ = some (.int .i64 p.grav.2.2) ∧ X.cell? ⟨n, 5, none⟩ = some (.int .i64 p.grid) ∧ n < X.heap.size ∧ Below W1.heap.size W1 X)
        (first
          | exact keepT HX1.out hbb
          | exact keepT HX1.out hba
          | exact keepT HX1.out (Below.refl _ _).drew
          | exact keepT HX1.out ((Below.refl _ _).drew.alloc (Nat.le_refl _) _))
        (first
          | (go_simp
             go_at_call 33
             refine (line28 _ Fm.kwTraj _ 4 (p.grid :: Fm.vecL p.grav) (Sl.new W1.drew (p.grid :: Fm.vecL p.grav) 2) HR.out.head (by have := HL.out; omega) (tab_size HT.out (below_call HB2.out ((Below.refl _ _).drew.alloc (Nat.le_refl _) _)))).mono ?_
             rintro e Xa ⟨rfl, hb28⟩
             have hba : Below W1.heap.size W1 Xa := below_call ((Below.refl _ _).drew.alloc (Nat.le_refl _) _) hb28)
          | (go_simp
             go_at_call 28
             refine (pathLines24 _ _ p.path (HP.out.keep (below_call HB2.out hba)) HR.out.path (by have := HL.out; omega) (tab_size HT.out (below_call HB2.out hba))).mono ?_
             rintro e Xb ⟨rfl, hb24⟩
             have hbb := below_call hba hb24))
      have HB3 := Lib.hid (below_call HB2.out hbb)
      have HX3 := Lib.hid (HX1.out.keep hbb)
      clear hbb hba hb24 hb28 hcat c0 s0 s1 s2 slt HX1 HB2 HP
      have HL1 : Hid ((Fm.lineT Fm.kwTraj (p.grid :: Fm.vecL p.grav) ++ Fm.pathT p.path).length + (flT Fm.profT p.profs).length ≤ 1048576) := Lib.hid (by have := HL.out; rw [List.length_append]; omega)
      have HTT : Hid (Fm.trajT p = (Fm.lineT Fm.kwTraj (p.grid :: Fm.vecL p.grav) ++ Fm.pathT p.path) ++ flT Fm.profT p.profs) := Lib.hid rfl
      generalize Fm.lineT Fm.kwTraj (p.grid :: Fm.vecL p.grav) ++ Fm.pathT p.path = t1 at HL1 HTT ⊢
      go_wp2_with fail
      go_loopw [4, 5] (fun s i W => ∃ k : Nat, k ≤ p.profs.length ∧ i = .int .i64 (k : Nat) ∧ s = .string ⟨(t1 ++ flT Fm.profT (p.profs.take k)).toArray⟩ ∧ Below w.heap.size w W ∧ Bx W n [.slice op p.path.pts.length np, .slice oe p.path.edges.length ne, .int .i64 p.grav.1, .int .i64 p.grav.2.1, .int .i64 p.grav.2.2, .int .i64 p.grid, .slice f p.profs.length nf] 43) (fun _ i _ => p.profs.length - (intOf i).toNat)
      case atStart => exact ⟨0, Nat.zero_le _, rfl, by rw [List.take_zero, show flT Fm.profT [] = [] from rfl, List.append_nil], HB3.out, HX3.out⟩
      case round =>
        obtain ⟨k, hk, rfl, rfl, hB, hX⟩ := hrel
        clear HB3 HX3
        have c6 := hX.c 6 _ rfl
        have clt := hX.lt
        by_cases hlt : k < p.profs.length
        · obtain ⟨x, hx⟩ : ∃ x, p.profs[k]? = some x := ⟨_, List.getElem?_eq_getElem hlt⟩
          obtain ⟨hx1, hx2, hx3, hx4⟩ := HR.out.prof x (List.mem_of_getElem? hx)
          obtain ⟨g, off, ol, nl, os, ns, hon, glt, x0, x1, hsl, hss⟩ := (HPR.out.keep hB).get hx
          subst hon
          have hlen : (t1 ++ flT Fm.profT (p.profs.take k)).length + (Fm.profT x).length ≤ 1048576 := by
            have h1 := HL1.out
            have h2 := flT_le Fm.profT p.profs (k + 1)
            rw [flT_take hx] at h2
            simp only [List.length_append] at h1 h2 ⊢
            omega
          have HT3 := Lib.hid (flT_take (f := Fm.profT) hx)
          generalize ht3 : t1 ++ flT Fm.profT (p.profs.take k) = t3 at hlen ⊢
          have HT4 : Hid (t1 ++ flT Fm.profT (p.profs.take (k + 1)) = t3 ++ Fm.profT x) := Lib.hid (by rw [HT3.out, ← ht3, List.append_assoc])
          clear ht3 HT3
          rw [profT_eq, List.length_append, List.length_append] at hlen
          have hb3 : Below wr.heap.size wr (wr.alloc (.cells #[.slice ol x.levels.length nl, .slice os x.steps.length ns] 92)) := (Below.refl _ _).alloc (Nat.le_refl _) _
          have HX5 := Lib.hid (Bx.new wr [.slice ol x.levels.length nl, .slice os x.steps.length ns] 92)
          have HX2 := Lib.hid (hX.keep hb3)
          have HB2 := Lib.hid (below_call hB hb3)
          have HSL := Lib.hid (hsl.keep hb3)
          have HSS := Lib.hid (hss.keep hb3)
          have HLN := Lib.hid hlen
          have HX34 := Lib.hid (And.intro hx3 hx4)
          have hcat1 := cat (a := t3) (c := Fm.lineT Fm.kwProfile [((x.levels.length : Nat) : Int), ((x.steps.length : Nat) : Int)]) (by omega)
          have hcat2 := cat (a := t3 ++ Fm.lineT Fm.kwProfile [((x.levels.length : Nat) : Int), ((x.steps.length : Nat) : Int)]) (c := Fm.lineT Fm.kwLevels x.levels) (by rw [List.length_append]; omega)
          have hcat3 := cat (a := t3 ++ Fm.lineT Fm.kwProfile [((x.levels.length : Nat) : Int), ((x.steps.length : Nat) : Int)] ++ Fm.lineT Fm.kwLevels x.levels) (c := Fm.lineT Fm.kwSteps x.steps) (by rw [List.length_append, List.length_append]; omega)
          have HPE := Lib.hid (profT_eq x)
          have H28a : Hid (∀ (X : World) (oa : Option Addr) (ca : Nat), Sl X oa 1 (pvals [((x.levels.length : Nat) : Int), ((x.steps.length : Nat) : Int)]) → Below w.heap.size w X → Calls Tryz.prog 33 #[.string ⟨#[112, 114, 111, 102, 105, 108, 101]⟩, .slice oa 2 ca] X (fun e W' => e = .returned (.string ⟨(Fm.lineT Fm.kwProfile [((x.levels.length : Nat) : Int), ((x.steps.length : Nat) : Int)]).toArray⟩) ∧ Below X.heap.size X W')) := Lib.hid (fun X oa ca hS hB => line28 X Fm.kwProfile oa ca [((x.levels.length : Nat) : Int), ((x.steps.length : Nat) : Int)] hS (line_nn _ _ hx1 hx2) (by have := HLN.out; omega) (tab_size HT.out hB))
          have H28b : Hid (∀ X : World, Sl X ol 1 (pvals x.levels) → Below w.heap.size w X → Calls Tryz.prog 33 #[.string ⟨#[108, 101, 118, 101, 108, 115]⟩, .slice ol x.levels.length nl] X (fun e W' => e = .returned (.string ⟨(Fm.lineT Fm.kwLevels x.levels).toArray⟩) ∧ Below X.heap.size X W')) := Lib.hid (fun X hS hB => line28 X Fm.kwLevels ol nl x.levels hS HX34.out.1 (by have := HLN.out; omega) (tab_size HT.out hB))
          have H28c : Hid (∀ (X : World) (oa : Option Addr) (ca : Nat), Sl X oa 1 (pvals x.steps) → Below w.heap.size w X → Calls Tryz.prog 33 #[.string ⟨#[115, 116, 101, 112, 115]⟩, .slice oa x.steps.length ca] X (fun e W' => e = .returned (.string ⟨(Fm.lineT Fm.kwSteps x.steps).toArray⟩) ∧ Below X.heap.size X W')) := Lib.hid (fun X oa ca hS hB => line28 X Fm.kwSteps oa ca x.steps hS HX34.out.2 (by have := HLN.out; omega) (tab_size HT.out hB))
          generalize Fm.lineT Fm.kwProfile [((x.levels.length : Nat) : Int), ((x.steps.length : Nat) : Int)] = l1 at hcat1 hcat2 hcat3 HPE H28a
          generalize Fm.lineT Fm.kwLevels x.levels = l2 at hcat2 hcat3 HPE H28b
          generalize Fm.lineT Fm.kwSteps x.steps = l3 at hcat3 HPE H28c
          generalize ha1 : t3 ++ l1 = a1 at hcat1 hcat2 hcat3
          generalize ha2 : a1 ++ l2 = a2 at hcat2 hcat3
          generalize ha3 : a2 ++ l3 = a3 at hcat3
          have HT5 : Hid (a3 = t1 ++ flT Fm.profT (p.profs.take (k + 1))) := Lib.hid (by rw [HT4.out, HPE.out, ← ha3, ← ha2, ← ha1]; simp only [List.append_assoc])
          clear ha1 ha2 ha3
          clear hlen hx hB hX hsl hss hb3 hx3 hx4
          go_upto_region 8 with fail
          clear c6 clt x0 x1 glt
          generalize wr.alloc (.cells #[.slice ol x.levels.length nl, .slice os x.steps.length ns] 92) = V9 at HX5 HX2 HB2 HSL HSS ⊢
          obtain ⟨n9, hn9⟩ : ∃ n9, wr.heap.size = n9 := ⟨_, rfl⟩
          rw [hn9] at HX5 ⊢
          have s0 := HX5.out.c 0 _ rfl
          have s1 := HX5.out.c 1 _ rfl
          have slt := HX5.out.lt
          have hs9 : Sl (V9.alloc (.cells #[.int .i64 (x.levels.length : Nat), .int .i64 (x.steps.length : Nat)] 2)).drew (some ⟨V9.heap.size, 0, none⟩) 1 (pvals [((x.levels.length : Nat) : Int), ((x.steps.length : Nat) : Int)]) := Sl.new V9.drew [((x.levels.length : Nat) : Int), ((x.steps.length : Nat) : Int)] 2
          have hb9 : Below V9.heap.size V9 (V9.alloc (.cells #[.int .i64 (x.levels.length : Nat), .int .i64 (x.steps.length : Nat)] 2)).drew := (Below.refl _ _).drew.alloc (Nat.le_refl _) _
          have hbw9 := below_call HB2.out hb9
          go_region_held_law (fun X => X.cell? ⟨n9, 0, none⟩ = some (.slice ol x.levels.length nl) ∧ X.cell? ⟨n9, 1, none⟩ = some (.slice os x.steps.length ns) ∧ n9 < X.heap.size ∧ Below V9.heap.size V9 X)
            (first
              | exact keep2 HX5.out hbd
              | exact keep2 HX5.out hbc
              | exact keep2 HX5.out hbb
              | exact keep2 HX5.out hba
              | exact keep2 HX5.out (Below.refl _ _).drew
              | exact keep2 HX5.out ((Below.refl _ _).drew.alloc (Nat.le_refl _) _))
            (first
              | (go_simp
                 go_at_call 33
                 with_reducible refine (H28a.out _ _ _ hs9 hbw9).mono ?_
                 rintro e Xa ⟨rfl, hb28⟩
                 have hba := below_call hb9 hb28
                 clear hb28)
              | (go_simp
                 go_at_call 33
                 with_reducible refine (H28b.out _ (HSL.out.keep hba) (below_call HB2.out hba)).mono ?_
                 rintro e Xb ⟨rfl, hb28⟩
                 have hbb := below_call hba hb28
                 clear hb28)
              | (go_simp
                 go_at_call 38
                 with_reducible refine (wide29 _ os ns x.steps (HSS.out.keep hbb) hx2).mono ?_
                 rintro e Xc ⟨oa29, ca29, rfl, -, hS29, hb29, -⟩
                 have hbc := below_call hbb hb29
                 clear hb29)
              | (go_simp
                 go_at_call 33
                 with_reducible refine (H28c.out _ _ _ hS29 (below_call HB2.out hbc)).mono ?_
                 rintro e Xd ⟨rfl, hb28⟩
                 have hbd := below_call hbc hb28
                 clear hb28))
          have HB9 := Lib.hid (below_call HB2.out hbd)
          have HX9 := Lib.hid (HX2.out.keep hbd)
          clear hbd hbc hba hbb hS29 s0 s1 slt hcat1 hcat2 hcat3
          go_wp2_with fail
          go_roundw
          case rel => exact ⟨k + 1, by omega, by simp, by rw [HT5.out], HB9.out, HX9.out⟩
          case measure => simp [intOf]; omega
        · have hke : k = p.profs.length := by omega
          subst hke
          rw [List.take_length]
          have HB9 := Lib.hid hB
          have H23 := Lib.hid (document23 wr (Fm.trajT p) (by exact hdl))
          rw [show t1 ++ flT Fm.profT p.profs = Fm.trajT p from HTT.out.symm]
          clear hB hX
          go_wp2_with fail
          refine H23.out.mono ?_
          clear H23
          rintro e W3 ⟨rfl, hw⟩
          subst hw
          unfold fmtV
          go_wp2
          go_ret2
          exact ⟨by rw [HFF.out]; rfl, HB9.out⟩
    · have HF := Lib.hid (formatTr_no2 heq)
      have hd : ((p.profs.length : Int) != (p.path.edges.length : Int)) = true := by simp; omega
      clear hf heq
      go_wp2_with fail
      refine H22.out.mono ?_
      clear H22
      rintro e W1 ⟨rfl, hb2⟩
      have HX1 := Lib.hid (HX.out.keep hb2)
      have HB2 := Lib.hid (below_call HB.out hb2)
      clear hb2 HX HB c0 c1 clt
      have c1 := HX1.out.c 1 _ rfl
      have c6 := HX1.out.c 6 _ rfl
      have clt := HX1.out.lt
      go_wp2
      go_ret2
      exact ⟨by rw [HF.out]; rfl, HB2.out⟩
end Go.Proofs.Ng
end

section
/-
  Walks: equal trajectories are the same.
-/
namespace Go.Proofs.Ng
open Go.RowKit

end Go.Proofs.Ng
end

section
/-
  Walks: the law's trajectories.
-/
namespace Go.Proofs.Ng
open Go.RowKit

end Go.Proofs.Ng
end

section
/-
 Plain law: documents of what is made are short, of one kind, and can be parsed.
-/
namespace Go.Proofs.Ng
open Go.RowKit
/-- All numbers of a trajectory are int64. -/
structure InT (t : Fm.TrajD) : Prop where
 path : In64 t.path
 head : ∀ n ∈ t.grid :: Fm.vecL t.grav, Fm.inR64 n
 pr : ∀ x ∈ t.profs, (∀ n ∈ x.levels, Fm.inR64 n) ∧ ∀ n ∈ x.steps, Fm.inR64 n
/-- A small trajectory. -/
structure SmT (t : Fm.TrajD) : Prop where
 path : SmP t.path
 np : t.profs.length ≤ 12
 pr : ∀ x ∈ t.profs, x.levels.length ≤ 100 ∧ x.steps.length ≤ 100
theorem docT_le40 {p : Fm.PathD} (hs : SmP p) (h : In64 p) : (Fm.docT p).length ≤ 40000 := by
 have h1 := hs.np
 have h2 := hs.ne
 have h3 := hs.cnt
 have a1 := lineT_le Fm.kwPath (ns := [((p.pts.length : Nat) : Int)]) (by
  intro n hn
  rw [List.mem_singleton] at hn
  subst hn
  unfold Fm.inR64; omega)
 have a2 : (flT (Fm.lineT Fm.kwPoint) p.pts).length ≤ 6 * p.pts.length + 21 * sumW List.length p.pts := by
  rw [flT_sum]
  refine sumW_lin _ _ 6 21 (fun q hq => ?_)
  have := lineT_le Fm.kwPoint (h.pt q hq)
  simp only [show Fm.kwPoint.length = 5 from rfl] at this
  omega
 have a3 : (flT Fm.edgeT p.edges).length ≤ 47 * p.edges.length + 70 * sumW edgeW p.edges := by
  rw [flT_sum]
  refine sumW_lin _ _ 47 70 (fun e he => ?_)
  have hw := sumW_mem edgeW he
  exact edgeT_le (by omega) (h.ed e he).1 (h.ed e he).2
 unfold Fm.docT
 rw [List.length_append, pathT_eq, List.length_append, List.length_append]
 simp only [show Fm.kwPath.length = 4 from rfl, List.length_cons, List.length_nil] at a1
 have a4 : (Fm.lineT Fm.kwEnd []).length = 4 := rfl
 omega
theorem docTr_le {t : Fm.TrajD} (hs : SmT t) (h : InT t) : (Fm.docTr t).length ≤ 1000000 := by
 have hd := docT_le40 hs.path h.path
 unfold Fm.docT at hd
 rw [List.length_append] at hd
 have h1 := hs.np
 have a1 := lineT_le Fm.kwTraj h.head
 have a2 : (flT Fm.profT t.profs).length ≤ t.profs.length * 4263 := by
  rw [flT_sum]
  refine sumW_le _ (fun x hx => ?_)
  obtain ⟨b1, b2⟩ := hs.pr x hx
  obtain ⟨b3, b4⟩ := h.pr x hx
  have c1 := lineT_le Fm.kwProfile (ns := [((x.levels.length : Nat) : Int), ((x.steps.length : Nat) : Int)]) (by
   intro n hn
   simp only [List.mem_cons, List.not_mem_nil, or_false] at hn
   rcases hn with rfl | rfl <;> (unfold Fm.inR64; omega))
  have c2 := lineT_le Fm.kwLevels b3
  have c3 := lineT_le Fm.kwSteps b4
  rw [profT_eq, List.length_append, List.length_append]
  simp only [show Fm.kwProfile.length = 7 from rfl, show Fm.kwLevels.length = 6 from rfl, show Fm.kwSteps.length = 5 from rfl, List.length_cons, List.length_nil] at c1 c2 c3
  omega
 unfold Fm.docTr Fm.trajT
 have e2 : (t.profs.map Fm.profT).flatten = flT Fm.profT t.profs := rfl
 rw [List.length_append, List.length_append, List.length_append, e2]
 simp only [show Fm.kwTraj.length = 10 from rfl, show (t.grid :: Fm.vecL t.grav).length = 4 from rfl] at a1
 have a4 : (Fm.lineT Fm.kwEnd []).length = 4 := rfl
 have a5 : t.profs.length * 4263 ≤ 12 * 4263 := Nat.mul_le_mul_right _ h1
 omega
theorem trajOk_of {t : Fm.TrajD} (hs : SmT t) (h : InT t) : Fm.TrajOk t :=
 ⟨pathOk_of hs.path h.path, h.head, fun x hx => ⟨by have := (hs.pr x hx).1; omega, by have := (hs.pr x hx).2; omega, h.pr x hx⟩⟩
theorem mkT_small {t : Fm.TrajD} (h : MkTraj t) : SmT t := ⟨mk_small h.path, by have := h.np; omega, fun x hx => by obtain ⟨a, b, -⟩ := h.pr x hx; omega⟩
theorem mkT_in {t : Fm.TrajD} (h : MkTraj t) : InT t := ⟨mk_in h.path, h.head, fun x hx => (h.pr x hx).2.2⟩
theorem cellT_le {c : Fm.CellD} (h : MkCl c) : (Fm.cellT c).length ≤ 300 := by
 have hv := h.v
 unfold Fm.cellT
 split
 ·rw [List.length_append, List.length_append]
  have a1 := lineT_le Fm.kwLeaf (mk_leaf64 h)
  have a2 : (c.verd.normals.map fun v => Fm.lineT Fm.kwNormal (Fm.vecL v)).flatten.length ≤ c.verd.normals.length * 70 := by
   have e : (c.verd.normals.map fun v => Fm.lineT Fm.kwNormal (Fm.vecL v)).flatten = flT normT c.verd.normals := rfl
   rw [e, flT_sum]
   refine sumW_le _ (fun v hvm => ?_)
   have := lineT_le Fm.kwNormal (hv.rn v hvm)
   have e2 : normT v = Fm.lineT Fm.kwNormal (Fm.vecL v) := rfl
   rw [e2]
   simp only [show Fm.kwNormal.length = 6 from rfl, show (Fm.vecL v).length = 3 from rfl] at this
   omega
  have a3 : (if c.verd.kind = 2 then Fm.lineT Fm.kwWitness (Fm.witL c.verd) else []).length ≤ 113 := by
   split
   ·have := lineT_le Fm.kwWitness (mk_wit64 hv)
    have e : (Fm.witL c.verd).length = 3 + c.verd.left.length + c.verd.right.length := by simp [Fm.witL]; omega
    have := hv.nl
    have := hv.nr
    simp only [show Fm.kwWitness.length = 7 from rfl] at *
    omega
   ·simp
  have := hv.nn
  simp only [show Fm.kwLeaf.length = 4 from rfl, List.length_cons, List.length_nil] at a1
  omega
 ·have a1 := lineT_le Fm.kwSplit (mk_split64 h)
  simp only [show Fm.kwSplit.length = 5 from rfl, List.length_cons, List.length_nil] at a1
  omega
theorem docC_le {t : Fm.TreeD} (h : MkT t) (hn : t.cells.length ≤ 27) : (Fm.docC t).length ≤ 1000000 := by
 have h1 := h.rl
 have a1 := lineT_le Fm.kwCut (line_nn t.root.length t.cells.length (by omega) (by omega))
 have a2 := lineT_le Fm.kwRoot (mk_root64 h)
 have a3 : (flT Fm.cellT t.cells).length ≤ t.cells.length * 300 := by
  rw [flT_sum]
  exact sumW_le _ (fun c hc => cellT_le (h.cl c hc))
 rw [Fm.flat_len] at a2
 unfold Fm.docC
 rw [List.length_append, treeT_eq, List.length_append, List.length_append]
 simp only [show Fm.kwCut.length = 3 from rfl, show Fm.kwRoot.length = 4 from rfl, List.length_cons, List.length_nil] at a1 a2
 have a4 : (Fm.lineT Fm.kwEnd []).length = 4 := rfl
 omega
theorem treeOk_of {t : Fm.TreeD} (h : MkT t) (hn : t.cells.length ≤ 27) : Fm.TreeOk t := by
 have h1 := h.rl
 refine ⟨by omega, by omega, fun a ha => ?_, fun c hc => ?_⟩
 ·have := h.rb a ha
  unfold Fm.inR64
  omega
 ·have m := h.cl c hc
  have v := m.v
  have s := mk_split64 m
  refine ⟨s _ (by simp), s _ (by simp), s _ (by simp), ?_, ?_, by have := v.nn; omega, by have := v.nl; omega, by have := v.nr; omega, v.rn, v.rl, v.rr⟩
  ·have := v.rk; unfold Fm.inR64; omega
  ·rw [v.pair]; unfold Fm.inR64; omega
theorem kind_path (r : List UInt8) : kindN ([112, 97, 116, 104, 32] ++ r) = 1 := by
 unfold kindN
 rw [if_pos (by simp [Lib.hasPrefix, List.isPrefixOf])]
theorem kind_cut (r : List UInt8) : kindN ([99, 117, 116, 32] ++ r) = 2 := by
 unfold kindN
 rw [if_neg (by simp [Lib.hasPrefix, List.isPrefixOf]), if_pos (by simp [Lib.hasPrefix, List.isPrefixOf])]
theorem kind_traj (r : List UInt8) : kindN ([116, 114, 97, 106, 101, 99, 116, 111, 114, 121, 32] ++ r) = 3 := by
 unfold kindN
 rw [if_neg (by simp [Lib.hasPrefix, List.isPrefixOf]), if_neg (by simp [Lib.hasPrefix, List.isPrefixOf]), if_pos (by simp [Lib.hasPrefix, List.isPrefixOf])]
theorem kindN_docT (p : Fm.PathD) : kindN (Fm.docT p) = 1 := by
 obtain ⟨r, e⟩ : ∃ r, Fm.docT p = [112, 97, 116, 104, 32] ++ r := ⟨_, by
  unfold Fm.docT
  rw [pathT_eq, lineT_eq]
  simp only [numsT, Fm.kwPath, Fm.numT, List.map_cons, List.map_nil, List.flatten_cons, List.append_assoc, List.cons_append, List.nil_append]
  rfl⟩
 rw [e]; exact kind_path r
theorem kindN_docC (t : Fm.TreeD) : kindN (Fm.docC t) = 2 := by
 obtain ⟨r, e⟩ : ∃ r, Fm.docC t = [99, 117, 116, 32] ++ r := ⟨_, by
  unfold Fm.docC
  rw [treeT_eq, lineT_eq]
  simp only [numsT, Fm.kwCut, Fm.numT, List.map_cons, List.map_nil, List.flatten_cons, List.append_assoc, List.cons_append, List.nil_append]
  rfl⟩
 rw [e]; exact kind_cut r
theorem kindN_docTr (t : Fm.TrajD) : kindN (Fm.docTr t) = 3 := by
 obtain ⟨r, e⟩ : ∃ r, Fm.docTr t = [116, 114, 97, 106, 101, 99, 116, 111, 114, 121, 32] ++ r := ⟨_, by
  unfold Fm.docTr
  rw [trajT_eq]
  simp only [numsT, Fm.kwTraj, Fm.numT, List.map_cons, List.map_nil, List.flatten_cons, List.append_assoc, List.cons_append, List.nil_append]
  rfl⟩
 rw [e]; exact kind_traj r
/-- What the three readers say of a document of kind k. -/
structure KindIs (s : List UInt8) (k : Nat) : Prop where
 sz : s.length ≤ 1000000
 a : (parseRes s).2 = if k = 1 then 0 else 4302
 b : (parseResC s).2 = if k = 2 then 0 else 4302
 c : (parseResT s).2 = if k = 3 then 0 else 4302
 k : kindN s = k
theorem kindIs_path {p : Fm.PathD} (h : MkPath p) : KindIs (Fm.docT p) 1 := by
 have hl := docT_le (mk_small h) (mk_in h)
 have hk := kindN_docT p
 refine ⟨hl, ?_, ?_, ?_, hk⟩
 ·unfold parseRes
  rw [if_neg (by omega), if_pos hk, Fm.doc_parse (pathOk_of (mk_small h) (mk_in h)) h.rt]
  rfl
 ·unfold parseResC
  rw [if_neg (by omega), if_neg (by rw [hk]; decide)]
  rfl
 ·unfold parseResT
  rw [if_neg (by omega), if_neg (by rw [hk]; decide)]
  rfl
theorem kindIs_tree {t : Fm.TreeD} (h : MkT t) (hn : t.cells.length ≤ 27) : KindIs (Fm.docC t) 2 := by
 have hl := docC_le h hn
 have hk := kindN_docC t
 refine ⟨hl, ?_, ?_, ?_, hk⟩
 ·unfold parseRes
  rw [if_neg (by omega), if_neg (by rw [hk]; decide)]
  rfl
 ·unfold parseResC
  rw [if_neg (by omega), if_pos hk, Fm.doc_parseC (treeOk_of h hn) h.val]
  rfl
 ·unfold parseResT
  rw [if_neg (by omega), if_neg (by rw [hk]; decide)]
  rfl
theorem mkT_right {t : Fm.TrajD} (h : MkTraj t) : Fm.rightT t = true := by
 unfold Fm.rightT
 rw [h.path.rt, decide_eq_true h.rt]
 rfl
theorem kindIs_traj {t : Fm.TrajD} (h : MkTraj t) : KindIs (Fm.docTr t) 3 := by
 have hl := docTr_le (mkT_small h) (mkT_in h)
 have hk := kindN_docTr t
 refine ⟨hl, ?_, ?_, ?_, hk⟩
 ·unfold parseRes
  rw [if_neg (by omega), if_neg (by rw [hk]; decide)]
  rfl
 ·unfold parseResC
  rw [if_neg (by omega), if_neg (by rw [hk]; decide)]
  rfl
 ·unfold parseResT
  rw [if_neg (by omega), if_pos hk, Fm.doc_parseTr (trajOk_of (mkT_small h) (mkT_in h)) (mkT_right h)]
  rfl
end Go.Proofs.Ng
end

section
/-
 Walks: the law FormatKinds.
-/
namespace Go.Proofs.Ng
open Go.RowKit
theorem bytes_len (S : List UInt8) : (⟨S.toArray⟩ : ByteArray).size = S.length := by
 show S.toArray.size = S.length
 simp
theorem kinds_path {S : List UInt8} {k : Nat} {c : Int} (h : KindIs S k) (hc : (if k = 1 then (0 : Int) else 4302) = c) (W : World) (hL : LibW W) : Calls Tryz.prog 13 #[.string ⟨S.toArray⟩] W (fun e W' => ∃ (o1 o2 : Option Addr) (n1 n2 e1 e2 : Nat), e = .returned (.tuple #[.agg #[.slice o1 n1 e1, .slice o2 n2 e2], .int .i64 c]) ∧ Below W.heap.size W W') := by
 refine (parsePath17 ⟨S.toArray⟩ W (by rw [bytes_len]; have := h.sz; omega) hL).mono ?_
 rintro e W' ⟨v, rfl, hN, hb⟩
 obtain ⟨op, np, oe, ne, rfl, -, -⟩ := hN.now
 have ha := h.a
 rw [hc] at ha
 exact ⟨_, _, _, _, _, _, by simp only [List.toList_toArray]; rw [ha], hb⟩
theorem kinds_cut {S : List UInt8} {k : Nat} {c : Int} (h : KindIs S k) (hc : (if k = 2 then (0 : Int) else 4302) = c) (W : World) (hL : LibW W) : Calls Tryz.prog 14 #[.string ⟨S.toArray⟩] W (fun e W' => ∃ (o1 o2 : Option Addr) (n1 n2 e1 e2 : Nat), e = .returned (.tuple #[.agg #[.slice o1 n1 e1, .slice o2 n2 e2], .int .i64 c]) ∧ Below W.heap.size W W') := by
 refine (parseCut14 ⟨S.toArray⟩ W (by rw [bytes_len]; have := h.sz; omega) hL).mono ?_
 rintro e W' ⟨v, rfl, hN, hb⟩
 obtain ⟨op, np, oe, ne, rfl, -, -⟩ := hN.now
 have ha := h.b
 rw [hc] at ha
 exact ⟨_, _, _, _, _, _, by simp only [List.toList_toArray]; rw [ha], hb⟩
theorem kinds_traj {S : List UInt8} {k : Nat} {c : Int} (h : KindIs S k) (hc : (if k = 3 then (0 : Int) else 4302) = c) (W : World) (hL : LibW W) : Calls Tryz.prog 15 #[.string ⟨S.toArray⟩] W (fun e W' => ∃ (o1 o2 o3 : Option Addr) (n1 n2 n3 e1 e2 e3 : Nat) (x1 x2 x3 x4 : Int), e = .returned (.tuple #[.agg #[.slice o1 n1 e1, .slice o2 n2 e2, .int .i64 x1, .int .i64 x2, .int .i64 x3, .int .i64 x4, .slice o3 n3 e3], .int .i64 c]) ∧ Below W.heap.size W W') := by
 refine (parseTraj31 ⟨S.toArray⟩ W (by rw [bytes_len]; have := h.sz; omega) hL).mono ?_
 rintro e W' ⟨v, rfl, hN, hb⟩
 obtain ⟨op, np, oe, ne, f, nf, rfl, -, -, -⟩ := hN.now
 have ha := h.c
 rw [hc] at ha
 exact ⟨_, _, _, _, _, _, _, _, _, _, _, _, _, by simp only [List.toList_toArray]; rw [ha], hb⟩
theorem kinds_kind {S : List UInt8} {k : Nat} (h : KindIs S k) (W : World) : Calls Tryz.prog 17 #[.string ⟨S.toArray⟩] W (fun e W' => e = .returned (.int .i64 (k : Nat)) ∧ W' = W) := by
 refine (kind11 ⟨S.toArray⟩ W).mono ?_
 rintro e W' ⟨rfl, hw⟩
 refine ⟨?_, hw⟩
 simp only [List.toList_toArray]
 rw [h.k]
set_option maxRecDepth 100000 in
set_option maxHeartbeats 8000000 in
theorem formatKinds3 (w : World) (ol : Option Addr) (cl : Nat) (ls : List Int) (om : Option Addr) (cm : Nat) (ms : List Int) (kind : Int) (hI : Sl w ol 1 (pvals ls)) (hl : ls.length ≤ 9223372036854775807) (hIm : Sl w om 1 (pvals ms)) (hlm : ms.length ≤ 9223372036854775807) (hL : LibW w) :
  Calls Tryz.prog 3 #[.slice ol ls.length cl, .slice om ms.length cm, .int .i64 kind] w (BoolP true w) := by
 have HL := Lib.hid hL
 have HP := Lib.hid (Path7 w ol cl ls hI hl)
 have HTR := Lib.hid (fun X (hX : Below w.heap.size w X) => tree10 X ol cl ls (hI.keep hX) hl)
 have HTJ := Lib.hid (fun X (hX : Below w.heap.size w X) => trajectory13 X ol cl ls om cm ms (hI.keep hX) hl (hIm.keep hX) hlm)
 clear hL hI hl hIm hlm
 go_enter Tryz.func3, Tryz.ntmps3
 go_wp2_with fail
 refine HP.out.mono ?_
 clear HP
 rintro e W1 ⟨v, p, rfl, hP, hmk, hb⟩
 have hdl := docT_le (mk_small hmk) (mk_in hmk)
 have HF := Lib.hid (refFormatPath8 W1 v p hP (pathOk_of (mk_small hmk) (mk_in hmk)) (by omega) (HL.out.keep hb).tabs)
 rw [formatP_yes hmk.rt (by omega)] at HF
 have HB1 := Lib.hid hb
 have HMK := Lib.hid hmk
 clear hP hmk hb hdl
 go_wp2_with fail
 refine HF.out.mono ?_
 clear HF
 rintro e W2 ⟨rfl, hb⟩
 have HB := Lib.hid (below_call HB1.out hb)
 clear hb HB1
 unfold fmtV
 have HRD := Lib.hid (round26 kind 3 (by decide) (by decide) W2)
 go_wp2_with fail
 refine HRD.out.mono ?_
 clear HRD
 rintro e W3 ⟨rfl, hw3⟩
 subst hw3
 have hcase : kind % 3 = 0 ∨ kind % 3 = 1 ∨ kind % 3 = 2 := by omega
 rcases hcase with h | h | h
 ·rw [h]
  clear h
  have HKI := Lib.hid (kindIs_path HMK.out)
  generalize hSS : Fm.docT p = SS at HKI ⊢
  clear hSS
  have HC := Lib.hid (kinds_path (c := 0) HKI.out (by decide) W3 (HL.out.keep HB.out))
  go_wp2_with fail
  refine HC.out.mono ?_
  clear HC
  rintro e Wa ⟨p1, p2, p3, p4, p5, p6, rfl, hb⟩
  have hb2 : Below Wa.heap.size Wa (Wa.alloc (.cells #[.slice p1 p3 p5, .slice p2 p4 p6] 29)) := (Below.refl _ _).alloc (Nat.le_refl _) _
  replace HB := Lib.hid (below_call (below_call HB.out hb) hb2)
  clear hb hb2
  have HC := Lib.hid (fun X hX => kinds_cut (c := 4302) HKI.out (by decide) X (HL.out.keep hX))
  go_wp2_with fail
  generalize Wa.alloc (.cells #[.slice p1 p3 p5, .slice p2 p4 p6] 29) = Wb at HB ⊢
  refine (HC.out Wb HB.out).mono ?_
  clear HC
  rintro e Wc ⟨q1, q2, q3, q4, q5, q6, rfl, hb⟩
  have hb2 : Below Wc.heap.size Wc (Wc.alloc (.cells #[.slice q1 q3 q5, .slice q2 q4 q6] 36)) := (Below.refl _ _).alloc (Nat.le_refl _) _
  replace HB := Lib.hid (below_call (below_call HB.out hb) hb2)
  clear hb hb2
  have HC := Lib.hid (fun X hX => kinds_traj (c := 4302) HKI.out (by decide) X (HL.out.keep hX))
  go_wp2_with fail
  generalize Wc.alloc (.cells #[.slice q1 q3 q5, .slice q2 q4 q6] 36) = Wd at HB ⊢
  refine (HC.out Wd HB.out).mono ?_
  clear HC
  rintro e We ⟨r1, r2, r3, r4, r5, r6, r7, r8, r9, x1, x2, x3, x4, rfl, hb⟩
  have hb2 : Below We.heap.size We (We.alloc (.cells #[.slice r1 r4 r7, .slice r2 r5 r8, .int .i64 x1, .int .i64 x2, .int .i64 x3, .int .i64 x4, .slice r3 r6 r9] 43)) := (Below.refl _ _).alloc (Nat.le_refl _) _
  have hb3 := Bx.new (We.alloc (.cells #[.slice r1 r4 r7, .slice r2 r5 r8, .int .i64 x1, .int .i64 x2, .int .i64 x3, .int .i64 x4, .slice r3 r6 r9] 43)) [.int .i64 0, .int .i64 4302, .int .i64 4302] 23
  have hb4 : Below (We.alloc (.cells #[.slice r1 r4 r7, .slice r2 r5 r8, .int .i64 x1, .int .i64 x2, .int .i64 x3, .int .i64 x4, .slice r3 r6 r9] 43)).heap.size (We.alloc (.cells #[.slice r1 r4 r7, .slice r2 r5 r8, .int .i64 x1, .int .i64 x2, .int .i64 x3, .int .i64 x4, .slice r3 r6 r9] 43)) ((We.alloc (.cells #[.slice r1 r4 r7, .slice r2 r5 r8, .int .i64 x1, .int .i64 x2, .int .i64 x3, .int .i64 x4, .slice r3 r6 r9] 43)).alloc (.cells #[.int .i64 0, .int .i64 4302, .int .i64 4302] 23)) := (Below.refl _ _).alloc (Nat.le_refl _) _
  replace HB := Lib.hid (below_call (below_call (below_call HB.out hb) hb2) hb4)
  have HX := Lib.hid hb3
  clear hb hb2 hb3 hb4
  have hsz : (We.alloc (.cells #[.slice r1 r4 r7, .slice r2 r5 r8, .int .i64 x1, .int .i64 x2, .int .i64 x3, .int .i64 x4, .slice r3 r6 r9] 43)).heap.size = We.heap.size + 1 := by simp
  rw [hsz] at HX
  clear hsz
  have HA := Lib.hid (fun X (hX : Below w.heap.size w X) => awake6 X (HL.out.keep hX))
  have HK := Lib.hid (fun X => kinds_kind HKI.out X)
  go_wp2_with fail
  generalize (We.alloc (.cells #[.slice r1 r4 r7, .slice r2 r5 r8, .int .i64 x1, .int .i64 x2, .int .i64 x3, .int .i64 x4, .slice r3 r6 r9] 43)).alloc (.cells #[.int .i64 0, .int .i64 4302, .int .i64 4302] 23) = Wf at HX HB ⊢
  generalize We.heap.size + 1 = nF at HX ⊢
  go_loopw [65] (fun i X => ∃ k : Nat, k ≤ 3 ∧ i = .int .i64 (k : Nat) ∧ Bx X nF [.int .i64 0, .int .i64 4302, .int .i64 4302] 23 ∧ Below w.heap.size w X) (fun i _ => 3 - (intOf i).toNat)
  case atStart => exact ⟨0, by decide, rfl, HX.out, HB.out⟩
  case round =>
   obtain ⟨k, hk, rfl, hX, hB⟩ := hrel
   clear HX HB
   have c0 := hX.c 0 _ rfl
   have c1 := hX.c 1 _ rfl
   have c2 := hX.c 2 _ rfl
   have lc := hX.lt
   have hk4 : k = 0 ∨ k = 1 ∨ k = 2 ∨ k = 3 := by omega
   have HX := Lib.hid hX
   have HB := Lib.hid hB
   clear hX hB hk
   rcases hk4 with rfl | rfl | rfl | rfl
   ·go_wp2_with fail
    go_roundw
    case rel => exact ⟨1, by decide, rfl, HX.out, HB.out⟩
    case measure => simp [intOf]
   ·go_wp2_with fail
    go_roundw
    case rel => exact ⟨2, by decide, rfl, HX.out, HB.out⟩
    case measure => simp [intOf]
   ·go_wp2_with fail
    go_roundw
    case rel => exact ⟨3, by decide, rfl, HX.out, HB.out⟩
    case measure => simp [intOf]
   ·clear c0 c1 c2 lc
    go_wp2_with fail
    refine (HA.out wr HB.out).mono ?_
    rintro e Wg ⟨rfl, hb⟩
    have HBF := Lib.hid (below_call HB.out hb)
    clear hb HA HX HB
    go_wp2_with fail
    refine (HK.out Wg).mono ?_
    rintro e Wh ⟨rfl, hwh⟩
    subst hwh
    go_wp2
    go_ret
    exact boolP_mk rfl HBF.out
 ·rw [h]
  clear h
  have HC := Lib.hid (HTR.out W3 HB.out)
  go_wp2_with fail
  refine HC.out.mono ?_
  clear HC
  rintro e W4 ⟨v4, t, rows, rfl, hF, hmt, hn, hb⟩
  have hdl := docC_le hmt hn
  have HF := Lib.hid (refCut9 W4 v4 t hF.at hmt hn (by omega) (HL.out.keep (below_call HB.out hb)).tabs)
  have HM4 := Lib.hid (And.intro hmt hn)
  replace HB := Lib.hid (below_call HB.out hb)
  clear hF hmt hn hb hdl
  go_wp2_with fail
  refine HF.out.mono ?_
  clear HF
  rintro e W5 ⟨rfl, hb⟩
  replace HB := Lib.hid (below_call HB.out hb)
  clear hb
  unfold fmtV
  have HKI := Lib.hid (kindIs_tree HM4.out.1 HM4.out.2)
  generalize hSS : Fm.docC t = SS at HKI ⊢
  clear hSS
  have HC := Lib.hid (kinds_path (c := 4302) HKI.out (by decide) W5 (HL.out.keep HB.out))
  go_wp2_with fail
  refine HC.out.mono ?_
  clear HC
  rintro e Wa ⟨p1, p2, p3, p4, p5, p6, rfl, hb⟩
  have hb2 : Below Wa.heap.size Wa (Wa.alloc (.cells #[.slice p1 p3 p5, .slice p2 p4 p6] 29)) := (Below.refl _ _).alloc (Nat.le_refl _) _
  replace HB := Lib.hid (below_call (below_call HB.out hb) hb2)
  clear hb hb2
  have HC := Lib.hid (fun X hX => kinds_cut (c := 0) HKI.out (by decide) X (HL.out.keep hX))
  go_wp2_with fail
  generalize Wa.alloc (.cells #[.slice p1 p3 p5, .slice p2 p4 p6] 29) = Wb at HB ⊢
  refine (HC.out Wb HB.out).mono ?_
  clear HC
  rintro e Wc ⟨q1, q2, q3, q4, q5, q6, rfl, hb⟩
  have hb2 : Below Wc.heap.size Wc (Wc.alloc (.cells #[.slice q1 q3 q5, .slice q2 q4 q6] 36)) := (Below.refl _ _).alloc (Nat.le_refl _) _
  replace HB := Lib.hid (below_call (below_call HB.out hb) hb2)
  clear hb hb2
  have HC := Lib.hid (fun X hX => kinds_traj (c := 4302) HKI.out (by decide) X (HL.out.keep hX))
  go_wp2_with fail
  generalize Wc.alloc (.cells #[.slice q1 q3 q5, .slice q2 q4 q6] 36) = Wd at HB ⊢
  refine (HC.out Wd HB.out).mono ?_
  clear HC
  rintro e We ⟨r1, r2, r3, r4, r5, r6, r7, r8, r9, x1, x2, x3, x4, rfl, hb⟩
  have hb2 : Below We.heap.size We (We.alloc (.cells #[.slice r1 r4 r7, .slice r2 r5 r8, .int .i64 x1, .int .i64 x2, .int .i64 x3, .int .i64 x4, .slice r3 r6 r9] 43)) := (Below.refl _ _).alloc (Nat.le_refl _) _
  have hb3 := Bx.new (We.alloc (.cells #[.slice r1 r4 r7, .slice r2 r5 r8, .int .i64 x1, .int .i64 x2, .int .i64 x3, .int .i64 x4, .slice r3 r6 r9] 43)) [.int .i64 4302, .int .i64 0, .int .i64 4302] 23
  have hb4 : Below (We.alloc (.cells #[.slice r1 r4 r7, .slice r2 r5 r8, .int .i64 x1, .int .i64 x2, .int .i64 x3, .int .i64 x4, .slice r3 r6 r9] 43)).heap.size (We.alloc (.cells #[.slice r1 r4 r7, .slice r2 r5 r8, .int .i64 x1, .int .i64 x2, .int .i64 x3, .int .i64 x4, .slice r3 r6 r9] 43)) ((We.alloc (.cells #[.slice r1 r4 r7, .slice r2 r5 r8, .int .i64 x1, .int .i64 x2, .int .i64 x3, .int .i64 x4, .slice r3 r6 r9] 43)).alloc (.cells #[.int .i64 4302, .int .i64 0, .int .i64 4302] 23)) := (Below.refl _ _).alloc (Nat.le_refl _) _
  replace HB := Lib.hid (below_call (below_call (below_call HB.out hb) hb2) hb4)
  have HX := Lib.hid hb3
  clear hb hb2 hb3 hb4
  have hsz : (We.alloc (.cells #[.slice r1 r4 r7, .slice r2 r5 r8, .int .i64 x1, .int .i64 x2, .int .i64 x3, .int .i64 x4, .slice r3 r6 r9] 43)).heap.size = We.heap.size + 1 := by simp
  rw [hsz] at HX
  clear hsz
  have HA := Lib.hid (fun X (hX : Below w.heap.size w X) => awake6 X (HL.out.keep hX))
  have HK := Lib.hid (fun X => kinds_kind HKI.out X)
  go_wp2_with fail
  generalize (We.alloc (.cells #[.slice r1 r4 r7, .slice r2 r5 r8, .int .i64 x1, .int .i64 x2, .int .i64 x3, .int .i64 x4, .slice r3 r6 r9] 43)).alloc (.cells #[.int .i64 4302, .int .i64 0, .int .i64 4302] 23) = Wf at HX HB ⊢
  generalize We.heap.size + 1 = nF at HX ⊢
  go_loopw [65] (fun i X => ∃ k : Nat, k ≤ 3 ∧ i = .int .i64 (k : Nat) ∧ Bx X nF [.int .i64 4302, .int .i64 0, .int .i64 4302] 23 ∧ Below w.heap.size w X) (fun i _ => 3 - (intOf i).toNat)
  case atStart => exact ⟨0, by decide, rfl, HX.out, HB.out⟩
  case round =>
   obtain ⟨k, hk, rfl, hX, hB⟩ := hrel
   clear HX HB
   have c0 := hX.c 0 _ rfl
   have c1 := hX.c 1 _ rfl
   have c2 := hX.c 2 _ rfl
   have lc := hX.lt
   have hk4 : k = 0 ∨ k = 1 ∨ k = 2 ∨ k = 3 := by omega
   have HX := Lib.hid hX
   have HB := Lib.hid hB
   clear hX hB hk
   rcases hk4 with rfl | rfl | rfl | rfl
   ·go_wp2_with fail
    go_roundw
    case rel => exact ⟨1, by decide, rfl, HX.out, HB.out⟩
    case measure => simp [intOf]
   ·go_wp2_with fail
    go_roundw
    case rel => exact ⟨2, by decide, rfl, HX.out, HB.out⟩
    case measure => simp [intOf]
   ·go_wp2_with fail
    go_roundw
    case rel => exact ⟨3, by decide, rfl, HX.out, HB.out⟩
    case measure => simp [intOf]
   ·clear c0 c1 c2 lc
    go_wp2_with fail
    refine (HA.out wr HB.out).mono ?_
    rintro e Wg ⟨rfl, hb⟩
    have HBF := Lib.hid (below_call HB.out hb)
    clear hb HA HX HB
    go_wp2_with fail
    refine (HK.out Wg).mono ?_
    rintro e Wh ⟨rfl, hwh⟩
    subst hwh
    go_wp2
    go_ret
    exact boolP_mk rfl HBF.out
 ·rw [h]
  clear h
  have HC := Lib.hid (HTJ.out W3 HB.out)
  go_wp2_with fail
  refine HC.out.mono ?_
  clear HC
  rintro e W4 ⟨v4, t, rfl, hT, hmt, hb⟩
  have hdl := docTr_le (mkT_small hmt) (mkT_in hmt)
  have HF := Lib.hid (refFormatTraj14 W4 v4 t hT (trajOk_of (mkT_small hmt) (mkT_in hmt)) (by omega) (HL.out.keep (below_call HB.out hb)).tabs)
  rw [formatTr_yes hmt.path.rt hmt.rt (by omega)] at HF
  have HM4 := Lib.hid hmt
  replace HB := Lib.hid (below_call HB.out hb)
  clear hT hmt hb hdl
  go_wp2_with fail
  refine HF.out.mono ?_
  clear HF
  rintro e W5 ⟨rfl, hb⟩
  replace HB := Lib.hid (below_call HB.out hb)
  clear hb
  unfold fmtV
  have HKI := Lib.hid (kindIs_traj HM4.out)
  generalize hSS : Fm.docTr t = SS at HKI ⊢
  clear hSS
  have HC := Lib.hid (kinds_path (c := 4302) HKI.out (by decide) W5 (HL.out.keep HB.out))
  go_wp2_with fail
  refine HC.out.mono ?_
  clear HC
  rintro e Wa ⟨p1, p2, p3, p4, p5, p6, rfl, hb⟩
  have hb2 : Below Wa.heap.size Wa (Wa.alloc (.cells #[.slice p1 p3 p5, .slice p2 p4 p6] 29)) := (Below.refl _ _).alloc (Nat.le_refl _) _
  replace HB := Lib.hid (below_call (below_call HB.out hb) hb2)
  clear hb hb2
  have HC := Lib.hid (fun X hX => kinds_cut (c := 4302) HKI.out (by decide) X (HL.out.keep hX))
  go_wp2_with fail
  generalize Wa.alloc (.cells #[.slice p1 p3 p5, .slice p2 p4 p6] 29) = Wb at HB ⊢
  refine (HC.out Wb HB.out).mono ?_
  clear HC
  rintro e Wc ⟨q1, q2, q3, q4, q5, q6, rfl, hb⟩
  have hb2 : Below Wc.heap.size Wc (Wc.alloc (.cells #[.slice q1 q3 q5, .slice q2 q4 q6] 36)) := (Below.refl _ _).alloc (Nat.le_refl _) _
  replace HB := Lib.hid (below_call (below_call HB.out hb) hb2)
  clear hb hb2
  have HC := Lib.hid (fun X hX => kinds_traj (c := 0) HKI.out (by decide) X (HL.out.keep hX))
  go_wp2_with fail
  generalize Wc.alloc (.cells #[.slice q1 q3 q5, .slice q2 q4 q6] 36) = Wd at HB ⊢
  refine (HC.out Wd HB.out).mono ?_
  clear HC
  rintro e We ⟨r1, r2, r3, r4, r5, r6, r7, r8, r9, x1, x2, x3, x4, rfl, hb⟩
  have hb2 : Below We.heap.size We (We.alloc (.cells #[.slice r1 r4 r7, .slice r2 r5 r8, .int .i64 x1, .int .i64 x2, .int .i64 x3, .int .i64 x4, .slice r3 r6 r9] 43)) := (Below.refl _ _).alloc (Nat.le_refl _) _
  have hb3 := Bx.new (We.alloc (.cells #[.slice r1 r4 r7, .slice r2 r5 r8, .int .i64 x1, .int .i64 x2, .int .i64 x3, .int .i64 x4, .slice r3 r6 r9] 43)) [.int .i64 4302, .int .i64 4302, .int .i64 0] 23
  have hb4 : Below (We.alloc (.cells #[.slice r1 r4 r7, .slice r2 r5 r8, .int .i64 x1, .int .i64 x2, .int .i64 x3, .int .i64 x4, .slice r3 r6 r9] 43)).heap.size (We.alloc (.cells #[.slice r1 r4 r7, .slice r2 r5 r8, .int .i64 x1, .int .i64 x2, .int .i64 x3, .int .i64 x4, .slice r3 r6 r9] 43)) ((We.alloc (.cells #[.slice r1 r4 r7, .slice r2 r5 r8, .int .i64 x1, .int .i64 x2, .int .i64 x3, .int .i64 x4, .slice r3 r6 r9] 43)).alloc (.cells #[.int .i64 4302, .int .i64 4302, .int .i64 0] 23)) := (Below.refl _ _).alloc (Nat.le_refl _) _
  replace HB := Lib.hid (below_call (below_call (below_call HB.out hb) hb2) hb4)
  have HX := Lib.hid hb3
  clear hb hb2 hb3 hb4
  have hsz : (We.alloc (.cells #[.slice r1 r4 r7, .slice r2 r5 r8, .int .i64 x1, .int .i64 x2, .int .i64 x3, .int .i64 x4, .slice r3 r6 r9] 43)).heap.size = We.heap.size + 1 := by simp
  rw [hsz] at HX
  clear hsz
  have HA := Lib.hid (fun X (hX : Below w.heap.size w X) => awake6 X (HL.out.keep hX))
  have HK := Lib.hid (fun X => kinds_kind HKI.out X)
  go_wp2_with fail
  generalize (We.alloc (.cells #[.slice r1 r4 r7, .slice r2 r5 r8, .int .i64 x1, .int .i64 x2, .int .i64 x3, .int .i64 x4, .slice r3 r6 r9] 43)).alloc (.cells #[.int .i64 4302, .int .i64 4302, .int .i64 0] 23) = Wf at HX HB ⊢
  generalize We.heap.size + 1 = nF at HX ⊢
  go_loopw [65] (fun i X => ∃ k : Nat, k ≤ 3 ∧ i = .int .i64 (k : Nat) ∧ Bx X nF [.int .i64 4302, .int .i64 4302, .int .i64 0] 23 ∧ Below w.heap.size w X) (fun i _ => 3 - (intOf i).toNat)
  case atStart => exact ⟨0, by decide, rfl, HX.out, HB.out⟩
  case round =>
   obtain ⟨k, hk, rfl, hX, hB⟩ := hrel
   clear HX HB
   have c0 := hX.c 0 _ rfl
   have c1 := hX.c 1 _ rfl
   have c2 := hX.c 2 _ rfl
   have lc := hX.lt
   have hk4 : k = 0 ∨ k = 1 ∨ k = 2 ∨ k = 3 := by omega
   have HX := Lib.hid hX
   have HB := Lib.hid hB
   clear hX hB hk
   rcases hk4 with rfl | rfl | rfl | rfl
   ·go_wp2_with fail
    go_roundw
    case rel => exact ⟨1, by decide, rfl, HX.out, HB.out⟩
    case measure => simp [intOf]
   ·go_wp2_with fail
    go_roundw
    case rel => exact ⟨2, by decide, rfl, HX.out, HB.out⟩
    case measure => simp [intOf]
   ·go_wp2_with fail
    go_roundw
    case rel => exact ⟨3, by decide, rfl, HX.out, HB.out⟩
    case measure => simp [intOf]
   ·clear c0 c1 c2 lc
    go_wp2_with fail
    refine (HA.out wr HB.out).mono ?_
    rintro e Wg ⟨rfl, hb⟩
    have HBF := Lib.hid (below_call HB.out hb)
    clear hb HA HX HB
    go_wp2_with fail
    refine (HK.out Wg).mono ?_
    rintro e Wh ⟨rfl, hwh⟩
    subst hwh
    go_wp2
    go_ret
    exact boolP_mk rfl HBF.out
end Go.Proofs.Ng
end

section
/-
  What the readings of the arguments say of memory.
-/
namespace Go.Proofs.Ng
open Go.RowKit
theorem list_of {A : Type} (P : Nat → A → Prop) : ∀ n : Nat, (∀ i, i < n → ∃ r, P i r) → ∃ rs : List A, rs.length = n ∧ ∀ (i : Nat) (r : A), rs[i]? = some r → P i r
  | 0, _ => ⟨[], rfl, fun i r h => by simp at h⟩
  | n + 1, h => by
    obtain ⟨rs, hl, hr⟩ := list_of P n fun i hi => h i (by omega)
    obtain ⟨r, hp⟩ := h n (by omega)
    refine ⟨rs ++ [r], by simp [hl], fun i r' hi => ?_⟩
    rcases Nat.lt_or_ge i rs.length with hlt | hge
    · rw [List.getElem?_append_left hlt] at hi
      exact hr i r' hi
    · rw [List.getElem?_append_right hge] at hi
      have : i = n := by
        rcases Nat.eq_or_lt_of_le hge with h | h
        · omega
        · rw [List.getElem?_eq_none (by simp; omega)] at hi; cases hi
      subst this
      have e : i - rs.length = 0 := by omega
      rw [e] at hi
      simp at hi
      subst hi
      exact hp

/-- A slice that is read lies in memory, row for row. -/
theorem open_rows {H : Type} {enc : TypeId × Value → H} {P : Program} {w : World} {base : Nat} {spare : Nat → Bool} {held : Bool} {A : Type} (f : A → List Value) {t e : TypeId} {n fuel : Nat} {v : Value} {x : DataW H × List MemPlace} (ht : P.underlying t = some (.slice e)) (hc : P.cellsOf e = n) (hn : 0 < n)
    (hrow : ∀ (m : Nat) (cs : List Value) (y : DataW H × List MemPlace), cs.length = n → DataW.trod enc P w base spare held m e cs = some y → ∃ r : A, cs = f r)
    (h : DataW.trod enc P w base spare held fuel t [v] = some x) : ∃ (oa : Option Addr) (cap : Nat) (rs : List A), v = .slice oa rs.length cap ∧ rs.length ≤ 9223372036854775807 ∧ Sl w oa n (rs.map f) ∧ (oa = none → rs = [] ∧ cap = 0) ∧ (x.1 = .nil ∧ rs = [] ∨ ∃ elems spare, x.1 = .slice elems spare ∧ elems.length = rs.length) := by
  rcases Go.Deep.open_slice ht h with ⟨h0, hx0⟩ | ⟨a, len, cap, m, k, D, Pl, h1, hb, hl, hm, hmm, hx0, hx⟩
  · injection h0 with h0 _
    subst h0
    exact ⟨none, 0, [], rfl, by simp, fun h => absurd rfl h, fun _ => ⟨rfl, rfl⟩, .inl ⟨by rw [hx0], rfl⟩⟩
  · injection h1 with h1 _
    subst h1
    have hlm : len ≤ m := by rw [hmm]; split <;> omega
    obtain ⟨rs, hrl, hr⟩ := list_of (fun i r => w.cells? base (a.add (i * n)) n = some (f r)) len (fun i hi => by
      obtain ⟨cs, c1, c2⟩ := hx i (by omega)
      rw [hc] at c1
      obtain ⟨r, rfl⟩ := hrow _ _ _ (World.cells?_some c1).2.1 c2
      exact ⟨r, c1⟩)
    subst hrl
    refine ⟨some a, cap, rs, rfl, by unfold maxLen at hm; omega, fun hne => ?_, fun h => by (cases h), .inr ⟨_, _, by rw [hx0], by simp⟩⟩
    have hne' : rs ≠ [] := fun h => hne (by simp [h])
    have cell : ∀ (i : Nat) (r : A), rs[i]? = some r → ∀ q u, (f r)[q]? = some u → w.cell? ((a.add (i * n)).add q) = some u := by
      intro i r hi q u hq
      obtain ⟨_, c2, c3⟩ := World.cells?_some (hr i r hi)
      have hqn : q < n := by
        rcases Nat.lt_or_ge q (f r).length with h' | h'
        · omega
        · rw [List.getElem?_eq_none h'] at hq; cases hq
      rw [c3 q hqn, hq]
    -- the slice's address has no spot
    have sp : a.spot = none := by
      cases rs with
      | nil => exact absurd rfl hne'
      | cons r0 rt =>
        obtain ⟨_, c2, c3⟩ := World.cells?_some (hr 0 r0 rfl)
        have c4 := c3 0 hn
        have : (f r0)[0]? = some ((f r0)[0]'(by omega)) := List.getElem?_eq_getElem _
        rw [this] at c4
        cases hs : a.spot with
        | none => rfl
        | some s =>
          exfalso
          have e0 : ((a.add (0 * n)).add 0) = a := by simp [Addr.add]
          rw [e0] at c4
          unfold World.cell? at c4
          rw [hs] at c4
          revert c4
          cases w.heap[a.block]? with
          | none => simp
          | some o => cases o <;> simp
    obtain ⟨b, off, sp'⟩ := a
    simp at sp
    subst sp
    refine ⟨b, off, rfl, ?_, fun i r hi q u hq => ?_⟩
    · cases rs with
      | nil => exact absurd rfl hne'
      | cons r0 rt =>
        obtain ⟨_, c2, c3⟩ := World.cells?_some (hr 0 r0 rfl)
        have c4 := c3 0 hn
        have : (f r0)[0]? = some ((f r0)[0]'(by omega)) := List.getElem?_eq_getElem _
        rw [this] at c4
        rcases Nat.lt_or_ge b w.heap.size with h' | h'
        · exact h'
        · exfalso
          have e0 : (((⟨b, off, none⟩ : Addr).add (0 * n)).add 0) = ⟨b, off, none⟩ := by simp [Addr.add]
          rw [e0] at c4
          simp [World.cell?, Array.getElem?_eq_none h'] at c4
    · rw [List.getElem?_map] at hi
      cases hri : rs[i]? with
      | none => rw [hri] at hi; cases hi
      | some r' =>
        rw [hri] at hi
        simp at hi
        subst hi
        rw [← cell i r' hri q u hq]
        congr 1
        simp only [Addr.add]
        split <;> split <;> simp_all <;> omega

theorem row_int {H : Type} {enc : TypeId × Value → H} {w : World} {base : Nat} {spare : Nat → Bool} {held : Bool} (e : TypeId) (hu : Tryz.prog.underlying e = some (.int .i64)) (m : Nat) (cs : List Value) (y : DataW H × List MemPlace) (_ : cs.length = 1) (h : DataW.trod enc Tryz.prog w base spare held m e cs = some y) : ∃ r : Int, cs = [.int .i64 r] := by
  obtain ⟨n, rfl, _⟩ := DataW.trod_int hu h
  exact ⟨n, rfl⟩
theorem clo3 : Tryz.prog.cellsOf 3 = 1 := by kernel_rfl
theorem open_nums {H : Type} {enc : TypeId × Value → H} {w : World} {base : Nat} {spare : Nat → Bool} {held : Bool} {t e : TypeId} {fuel : Nat} {v : Value} {x : DataW H × List MemPlace} (ht : Tryz.prog.underlying t = some (.slice e)) (hu : Tryz.prog.underlying e = some (.int .i64)) (hc : Tryz.prog.cellsOf e = 1)
    (h : DataW.trod enc Tryz.prog w base spare held fuel t [v] = some x) : ∃ (oa : Option Addr) (cap : Nat) (rs : List Int), v = .slice oa rs.length cap ∧ rs.length ≤ 9223372036854775807 ∧ Sl w oa 1 (pvals rs) ∧ (oa = none → rs = [] ∧ cap = 0) ∧ (x.1 = .nil ∧ rs = [] ∨ ∃ elems spare, x.1 = .slice elems spare ∧ elems.length = rs.length) :=
  open_rows (fun p : Int => [.int .i64 p]) ht hc (by omega) (row_int e hu) h
theorem laidOut : laidOutB Tryz.prog = true := by kernel_rfl
open Go.ChangeShapes Go.WideShapes Go.ChangeAt
set_option linter.unusedVariables false
/-- The post, of a world of which it is known that nothing that stood before has changed. -/
theorem post_below {H : Type} {enc : TypeId × Value → H} {P : Program} {f : Func} {s : ChangeSpec} {apart fresh handsOn again : Bool} {W W' : World} {args : Array Value} {v : Value} {ds gs : List (DataW H)} {before pa pv : List MemPlace}
    (hW : DataW.Whole enc P f.params.toList s.vars apart W args.toList ds gs before)
    (hres : ∀ (b : Nat) (sp : Nat → Bool) (hd : Bool), DataW.TrodAll enc P W' b sp hd f.resultTypes.toList (v.resultList f.resultTypes.size) (s.fn H (ds ++ gs)).results [])
    (hargs : ∀ sp : Nat → Bool, (∀ p ∈ before, sp p.block = true) → DataW.TrodAll enc P W' 0 sp true f.params.toList args.toList (s.fn H (ds ++ gs)).args pa)
    (hvars : ∀ sp : Nat → Bool, (∀ p ∈ before, sp p.block = true) → DataW.TrodVars enc P W' sp s.vars (s.fn H (ds ++ gs)).vars pv)
    (hps : before = pa ++ pv) (hb : Below W.heap.size W W')
    (hok : ∀ (j : Nat) (t : TypeId) (r : Value), f.resultTypes[j]? = some t → (v.resultList f.resultTypes.size)[j]? = some r → Value.okWide P W' .any 0 t r) :
    s.post enc P f apart fresh handsOn again W args v W' := by
  have hlt : ∀ p ∈ before, p.block < W.heap.size := fun p hp => hW.lt p hp
  have hold : ∀ p ∈ before, (fun b => decide (b < W.heap.size)) p.block = true := fun p hp => by simpa using hlt p hp
  refine ⟨ds, gs, before, [], pa, pv, hW, hres _ _ _, hargs _ hold, hvars _ hold, World.keptBut_mono (fun p hp => ⟨hp, ?_⟩) (hb.frame (· ∈ before)), fun _ => ?_⟩
  · rw [hps, List.mem_append] at hp
    exact Or.inr hp
  · obtain ⟨_, _, _, _, _, hz, hn⟩ := hW
    refine ⟨hok, _, _, ([] ++ pa) ++ pv, ⟨[] ++ pa, pv, trodAll_append (hargs _ (fun _ _ => rfl)) (hres _ _ _), hvars _ (fun _ _ => rfl), rfl, ?_, ?_⟩, ?_⟩
    · intro b off hp
      have hin : MemPlace.cell b off ∈ before := by rw [hps]; simpa using hp
      rw [hb.frozen (hlt _ hin)]
      exact hz b off hin
    · intro ha
      have := hn ha
      rw [hps] at this
      simpa using this
    · intro p hp _
      rw [hps]
      simpa using hp


/-- What was read reads as it did. -/
theorem stays {H : Type} {enc : TypeId × Value → H} {P : Program} (hl : laidOutB P = true) {W W' : World} {sp' : Nat → Bool} : ∀ (ts : List TypeId) (vs : List Value) (ds : List (DataW H)) (ps : List MemPlace), (∀ t ∈ ts, P.readableRec t = true ∧ t < P.types.size) →
    DataW.TrodAll enc P W 0 (fun _ => true) true ts vs ds ps → (∀ p ∈ ps, W.sameAt W' p) → (∀ p ∈ ps, sp' p.block = true) → DataW.TrodAll enc P W' 0 sp' true ts vs ds ps
  | [], [], [], ps, _, h, _, _ => h
  | t :: ts, v :: vs, d :: ds, ps, ht, h, h1, h2 => by
    obtain ⟨p, q, a, b, rfl⟩ := h
    exact ⟨p, q, WideElems.Trod_stays hl (ht t (by simp)).1 (ht t (by simp)).2 a (fun x hx => h1 x (by simp [hx])) (fun x hx => h2 x (by simp [hx])), stays hl ts vs ds q (fun t h => ht t (by simp [h])) b (fun x hx => h1 x (by simp [hx])) (fun x hx => h2 x (by simp [hx])), rfl⟩
  | [], _ :: _, _, _, _, h, _, _ => by simp [DataW.TrodAll] at h
  | [], [], _ :: _, _, _, h, _, _ => by simp [DataW.TrodAll] at h
  | _ :: _, [], _, _, _, h, _, _ => by simp [DataW.TrodAll] at h
  | _ :: _, _ :: _, [], _, _, h, _, _ => by simp [DataW.TrodAll] at h

theorem own24 : ownKnob Tryz.prog.godebug = none := by kernel_rfl
theorem read3 : Tryz.prog.readableRec 3 = true ∧ 3 < Tryz.prog.types.size := ⟨by kernel_rfl, of_decide_eq_true (by kernel_rfl)⟩
theorem read24 : Tryz.prog.readableRec 22 = true ∧ 22 < Tryz.prog.types.size := ⟨by kernel_rfl, of_decide_eq_true (by kernel_rfl)⟩
end Go.Proofs.Ng
end

