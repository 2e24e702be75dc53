/-
  Texts put together: Gg Gh Jz Gi Gj.
-/
import Derived.Test.YtgkihlkhklmgcaaGreatZTrajectorySteps18
import Derived.Test.YtgkihlkhklmgcaaGreatZTrajectorySteps16
import Derived.Test.YtgkihlkhklmgcaaGreatZTrajectorySteps12
import Derived.Deep.RegionHeld3
set_option linter.unusedVariables false
section
/-
  Walks: Step, in the reference.
-/
namespace Go.Proofs.En
open Go.RowKit
set_option maxRecDepth 100000 in
set_option maxHeartbeats 8000000 in
theorem step19 (oa om op oq : Option Addr) (cap mcap pcap qcap : Nat) (js : List JV) (ms : List MV) (ps qs : List Int) (g : Int) (w : World) (hj : js.length ≤ 100) (hl : ms.length ≤ 9223372036854775807) (hp : ps.length ≤ 100) (hq : qs.length ≤ 100) (hJ : Sl w oa 12 (js.map JV.vals)) (hM : Sl w om 5 (ms.map MV.vals)) (hP : Sl w op 1 (pvals ps)) (hQ : Sl w oq 1 (pvals qs)) :
  Calls Tryz.prog 19 #[.agg #[.slice oa js.length cap, .slice om ms.length mcap], .slice op ps.length pcap, .slice oq qs.length qcap, .int .i64 g] w (StepP (stepOk (bothIn js ms ps qs) (leadTo js ps qs js.length) g) (stepV js ps qs g) w) := by
 generalize hr : bothIn js ms ps qs = r
 have HR := Lib.hid hr
 clear hr
 go_enter Tryz.func19, Tryz.ntmps19
 go_wp2_with fail
 have hW0 : KW w w.heap.size oa om [.slice oa js.length cap, .slice om ms.length mcap] js ms (w.alloc (.cells #[.slice oa js.length cap, .slice om ms.length mcap] 25)) := ⟨(Below.refl _ _).alloc (Nat.le_refl _) _, Row.new w [.slice oa js.length cap, .slice om ms.length mcap] 25, hJ.keep ((Below.refl _ _).alloc (Nat.le_refl _) _), hM.keep ((Below.refl _ _).alloc (Nat.le_refl _) _)⟩
 have hP0 := hP.keep (w' := (w.alloc (.cells #[.slice oa js.length cap, .slice om ms.length mcap] 25))) ((Below.refl _ _).alloc (Nat.le_refl _) _)
 have hQ0 := hQ.keep (w' := (w.alloc (.cells #[.slice oa js.length cap, .slice om ms.length mcap] 25))) ((Below.refl _ _).alloc (Nat.le_refl _) _)
 generalize (w.alloc (.cells #[.slice oa js.length cap, .slice om ms.length mcap] 25)) = W0 at hW0 hP0 hQ0 ⊢
 generalize hn1 : w.heap.size = n1 at hW0 ⊢
 have HN := Lib.hid hn1
 clear hn1
 have HLC := Lib.hid (leadTo_cases js ps qs js.length)
 have HLD : Hid (∀ X, Sl X oa 12 (js.map JV.vals) → Sl X om 5 (ms.map MV.vals) → Sl X op 1 (pvals ps) → Sl X oq 1 (pvals qs) → Calls Tryz.prog 17 #[.agg #[.slice oa js.length cap, .slice om ms.length mcap], .slice op ps.length pcap, .slice oq qs.length qcap] X (LeadP r (leadTo js ps qs js.length) X)) := Lib.hid (fun X a b c d => by rw [← HR.out]; exact lead17 oa om op oq cap mcap pcap qcap js ms ps qs X hj hl hp hq a b c d)
 generalize hL : leadTo js ps qs js.length = L at HLD HLC ⊢
 have HL := Lib.hid hL
 clear hL
 refine (HLD.out _ hW0.rJ hW0.rM hP0 hQ0).mono ?_
 rintro e W1 ⟨hB1, hcs⟩
 have hW1 := hW0.keep hB1
 have hP1 := hP0.keep hB1
 have hQ1 := hQ0.keep hB1
 clear hW0 hP0 hQ0 hB1
 have s0 : W1.cell? ⟨n1, 0, none⟩ = some (.slice oa js.length cap) := hW1.r1.c 0 _ rfl
 have s1 : W1.cell? ⟨n1, 1, none⟩ = some (.slice om ms.length mcap) := hW1.r1.c 1 _ rfl
 have lt1 := hW1.r1.lt
 rcases hcs with ⟨hnr, rfl⟩ | ⟨hyr, rfl⟩
 ·go_wp2
  go_ret2
  exact ⟨hW1.bel, .inl ⟨fun h => hnr h.1.1, rfl⟩⟩
 by_cases hL0 : 0 ≤ L
 rotate_left
 ·have g0 : decide (0 ≤ L) = false := by simp; omega
  go_wp2
  go_ret2
  exact ⟨hW1.bel, .inl ⟨fun h => by have := h.1.2; have := HL.out; omega, rfl⟩⟩
 have g0 : decide (0 ≤ L) = true := by simp; exact hL0
 by_cases hg1 : g < 1
 ·have g1 : decide (g < 1) = true := by simp; exact hg1
  go_wp2
  go_ret2
  exact ⟨hW1.bel, .inl ⟨fun h => by have := h.2.1; omega, rfl⟩⟩
 by_cases hg6 : 6 < g
 ·have g1 : decide (g < 1) = false := by simp; omega
  have g2 : decide (6 < g) = true := by simp; exact hg6
  go_wp2
  go_ret2
  exact ⟨hW1.bel, .inl ⟨fun h => by have := h.2.2; omega, rfl⟩⟩
 obtain ⟨m, hLm, hmj⟩ : ∃ m : Nat, L = (m : Nat) ∧ m < js.length := by
  rcases HLC.out with h | h
  ·omega
  ·exact h
 subst hLm
 have hmx : max (m : Int) 0 = (m : Nat) := by omega
 obtain ⟨G, hG⟩ : ∃ G : Nat, g = (G : Nat) := ⟨g.toNat, by omega⟩
 subst hG
 have g1 : decide ((G : Int) < 1) = false := by simp; omega
 have g2 : decide (6 < (G : Int)) = false := by simp; omega
 have hG6 : G ≤ 6 := by omega
 have hG1 : 1 ≤ G := by omega
 have hBI : bothIn js ms ps qs := by rw [HR.out]; exact hyr
 have HOK := Lib.hid hBI.1.1.2.1
 have HP1 := Lib.hid hBI.1.2.2
 have HQ1 := Lib.hid hBI.2.2.2
 have L1 := hBI.1.2.1
 have L2 := hBI.2.2.1
 have l1a : ps.length ≤ js.length := by omega
 have l1b : js.length ≤ ps.length := by omega
 have l2a : qs.length ≤ js.length := by omega
 have l2b : js.length ≤ qs.length := by omega
 have HOKK := Lib.hid (show stepOk r (leadTo js ps qs js.length) ((G : Nat) : Int) from by rw [HL.out]; exact ⟨⟨hyr, hL0⟩, by omega, by omega⟩)
 clear hBI L1 L2 hL0 hg1 hg6 hyr HR HLD HLC
 obtain ⟨jm, hjm⟩ : ∃ j, js[m]? = some j := ⟨_, List.getElem?_eq_getElem hmj⟩
 obtain ⟨pm, hpm⟩ : ∃ p, ps[m]? = some p := ⟨_, List.getElem?_eq_getElem (by omega)⟩
 obtain ⟨qm, hqm⟩ : ∃ q, qs[m]? = some q := ⟨_, List.getElem?_eq_getElem (by omega)⟩
 have bjm := joint_bd (HOK.out m jm hjm)
 have sjm := joint_sp (HOK.out m jm hjm)
 have bm1 := HP1.out m jm pm hjm hpm
 have bm2 := HQ1.out m jm qm hjm hqm
 obtain ⟨D, hD⟩ : ∃ D : Nat, dd pm qm = (D : Nat) := ⟨(dd pm qm).toNat, by have := dd_nn pm qm; omega⟩
 have hDb : D ≤ 8388608 := by have := dd_bd (p := pm) (q := qm) (by omega) (by omega); omega
 obtain ⟨S, hS⟩ : ∃ S : Nat, jm.speed = (S : Nat) := ⟨jm.speed.toNat, by omega⟩
 have hS1 : 1 ≤ S := by omega
 have hSb : S ≤ 1048576 := by omega
 have HSV := Lib.hid (show stepV js ps qs ((G : Nat) : Int) = stepTo js ps qs D S G js.length from by unfold stepV; rw [HL.out, Int.toNat_natCast, dAt_of hpm hqm, spdAt_of hjm, hD, hS, Int.toNat_natCast, Int.toNat_natCast, Int.toNat_natCast])
 have HDI := Lib.hid (fun W (h1 : Sl W op 1 (pvals ps)) (h2 : Sl W oq 1 (pvals qs)) => (by have := dist34 op oq pcap qcap m ps qs pm qm W h1 h2 hpm hqm (by omega) (by omega) hp hq; rw [hD] at this; exact this : Calls Tryz.prog 34 #[.slice op ps.length pcap, .slice oq qs.length qcap, .int .i64 (m : Nat)] W (fun e w' => e = .returned (.int .i64 (D : Nat)) ∧ ∃ n, w' = W.drewN n)))
 have hJ1 := hW1.rJ
 obtain ⟨b, off, hoa, hJr⟩ := hJ1 (jvals_ne hmj)
 have xm : W1.cell? ⟨b, off + m * 12 + 9, none⟩ = some (.int .i64 (S : Nat)) := by rw [← hS]; exact hJr.c m _ (rows_get hjm) 9 _ rfl
 subst hoa
 have ltb := hJr.lt
 clear hJr hJ1 bjm sjm bm1 bm2 hjm hpm hqm hD hS HL
 have HW1 := Lib.hid hW1
 have HPX := Lib.hid hP1
 have HQX := Lib.hid hQ1
 clear hP1 hQ1 hW1 hJ hM hP hQ
 go_wp2_with fail
 go_quiet ((go_at_call 34; exact Calls.quiet_of (HDI.out _ (HPX.out.keep (below_drew _ _)) (HQX.out.keep (below_drew _ _)))))
 have hb1 := below_drew W1 nq
 have hW2 := HW1.out.keep hb1
 have hP2 := HPX.out.keep hb1
 have hQ2 := HQX.out.keep hb1
 clear s0 s1 xm ltb
 generalize W1.drewN nq = W2 at hb1 hW2 hP2 hQ2 ⊢
 clear hb1
 have s0 : W2.cell? ⟨n1, 0, none⟩ = some (.slice (some ⟨b, off, none⟩) js.length cap) := hW2.r1.c 0 _ rfl
 have lt1 := hW2.r1.lt
 go_wp2_with fail
 go_loopw [14, 15] (fun v i W => ∃ k : Nat, k ≤ js.length ∧ i = .int .i64 k ∧ v = .int .i64 ((stepTo js ps qs D S G k : Nat) : Int) ∧ KW w n1 (some ⟨b, off, none⟩) om [.slice (some ⟨b, off, none⟩) js.length cap, .slice om ms.length mcap] js ms W ∧ Sl W op 1 (pvals ps) ∧ Sl W oq 1 (pvals qs)) (fun _ i _ => js.length - (intOf i).toNat)
 case atStart => exact ⟨0, by omega, rfl, rfl, hW2, hP2, hQ2⟩
 case round =>
  clear hW2 hP2 hQ2 s0 lt1
  obtain ⟨k, hk, rfl, rfl, hW, hP, hQ⟩ := hrel
  have htl := stepTo_le js ps qs D S G k
  generalize hT : stepTo js ps qs D S G k = T at htl ⊢
  by_cases hlt : k < js.length
  ·skip
   obtain ⟨j, hj'⟩ : ∃ j, js[k]? = some j := ⟨_, List.getElem?_eq_getElem hlt⟩
   obtain ⟨p, hp'⟩ : ∃ p, ps[k]? = some p := ⟨_, List.getElem?_eq_getElem (by omega)⟩
   obtain ⟨q, hq'⟩ : ∃ q, qs[k]? = some q := ⟨_, List.getElem?_eq_getElem (by omega)⟩
   have bj := joint_bd (HOK.out k j hj')
   have sj := joint_sp (HOK.out k j hj')
   have b1 := HP1.out k j p hj' hp'
   have b2 := HQ1.out k j q hj' hq'
   have bp : -4194304 ≤ p ∧ p ≤ 4194304 := by omega
   have bq : -4194304 ≤ q ∧ q ≤ 4194304 := by omega
   have hd0 := dd_nn p q
   have hd1 := dd_bd bp bq
   have hsp := spdAt_of hj'
   have hda := dAt_of hp' hq'
   have hltp : k < ps.length := by omega
   have hac := accAt_of hj'
   obtain ⟨A, hA⟩ : ∃ A : Nat, j.accel = (A : Nat) := ⟨j.accel.toNat, by omega⟩
   rw [hA] at hac
   obtain ⟨E, hE⟩ : ∃ E : Nat, dd p q = (E : Nat) := ⟨(dd p q).toNat, by omega⟩
   rw [hE] at hda hd1
   have hA2 : 1 ≤ A ∧ A ≤ 1048576 := by omega
   obtain ⟨bb, offf, hoa, hJr⟩ := hW.rJ (jvals_ne hlt)
   injection hoa with hoa
   injection hoa with e1 e2 _
   subst e1 e2
   have x10 : wr.cell? ⟨b, off + k * 12 + 10, none⟩ = some (.int .i64 (A : Nat)) := by rw [← hA]; exact hJr.c k _ (rows_get hj') 10 _ rfl
   have ltb := hJr.lt
   have HDK := Lib.hid (fun W (h1 : Sl W op 1 (pvals ps)) (h2 : Sl W oq 1 (pvals qs)) => (by have := dist34 op oq pcap qcap k ps qs p q W h1 h2 hp' hq' bp bq hp hq; rw [hE] at this; exact this : Calls Tryz.prog 34 #[.slice op ps.length pcap, .slice oq qs.length qcap, .int .i64 (k : Nat)] W (fun e w' => e = .returned (.int .i64 (E : Nat)) ∧ ∃ n, w' = W.drewN n)))
   clear bp bq b1 b2 bj sj hE hA hd0 hJr
   go_wp2_with fail
   refine (HDK.out _ hP hQ).mono ?_
   rintro e w1 ⟨rfl, nd, rfl⟩
   have hVd : Below wr.heap.size wr (wr.drewN nd) := below_drew wr nd
   have hWU := hW.keep hVd
   have hPU := hP.keep hVd
   have hQU := hQ.keep hVd
   have y10 : (wr.drewN nd).cell? ⟨b, off + k * 12 + 10, none⟩ = some (.int .i64 (A : Nat)) := (hVd.cell (p := ⟨b, off + k * 12 + 10, none⟩) ltb).trans x10
   have ltb2 := Nat.lt_of_lt_of_le ltb hVd.size
   clear hW hP hQ x10 ltb
   generalize wr.drewN nd = U at hVd hWU hPU hQU y10 ltb2 ⊢
   clear hVd
   have s0 : U.cell? ⟨n1, 0, none⟩ = some (.slice (some ⟨b, off, none⟩) js.length cap) := hWU.r1.c 0 _ rfl
   have lt1 := hWU.r1.lt
   have HWU := Lib.hid hWU
   have HPU := Lib.hid hPU
   have HQU := Lib.hid hQU
   clear hWU hPU hQU
   rcases Nat.eq_zero_or_pos E with hE0 | hE0
   ·subst hE0
    have HN := Lib.hid (show stepTo js ps qs D S G (k + 1) = T from by rw [stepTo_no hda, hT])
    clear hda hT
    go_wp2
    go_roundw
    case rel => exact ⟨k + 1, by omega, by simp, by rw [HN.out], HWU.out, HPU.out, HQU.out⟩
    case measure => simp [intOf]; omega
   ·have g0 : ((E : Int) == 0) = false := by simp; omega
    have hpw : 2 ^ G ≤ 64 := Nat.pow_le_pow_right (n := 2) (by decide) hG6
    have hpw0 : 0 < 2 ^ G := Nat.two_pow_pos G
    obtain ⟨B, hB⟩ : ∃ B, E * 2 ^ G = B := ⟨_, rfl⟩
    have hB2 : 1 ≤ B ∧ B ≤ 536870912 := by
     have h1 := Nat.mul_le_mul (show E ≤ 8388608 by omega) hpw
     have h2 := Nat.mul_pos hE0 hpw0
     omega
    have c2 : ((2 : Int) ^ G) = ((2 ^ G : Nat) : Int) := by norm_cast
    have eb0 : (E : Int) * 2 ^ G = (B : Nat) := by rw [c2, ← Int.natCast_mul, hB]
    have eb2 : IntKind.u64.wrap (B : Int) = (B : Nat) := wrap_nat _ (by omega)
    obtain ⟨M1, hM1⟩ : ∃ n, A * D = n := ⟨_, rfl⟩
    have hM1b : M1 ≤ 8796093022208 := by rw [← hM1]; exact Nat.mul_le_mul hA2.2 hDb
    have em1 : (A : Int) * (D : Int) = (M1 : Nat) := by rw [← Int.natCast_mul, hM1]
    have em2 : IntKind.i64.wrap (M1 : Int) = (M1 : Nat) := by rw [IntKind.wrap_i64]; omega
    have htm := fun X => times_pos M1 (D * 2 * 4096) X (by omega) (by omega)
    have hX : M1 * (D * 2 * 4096) < 340282366920938463463374607431768211456 := by
     have := Nat.mul_le_mul hM1b (show D * 2 * 4096 ≤ 68719476736 by omega)
     omega
    have ho1 := fun X => over_pos (M1 * (D * 2 * 4096)) B X hX (by omega) (by omega)
    have hX1 : M1 * (D * 2 * 4096) / B < 340282366920938463463374607431768211456 := Nat.lt_of_le_of_lt (Nat.div_le_self _ _) hX
    have ho2 := fun X => over_pos (M1 * (D * 2 * 4096) / B) S X hX1 (by omega) (by omega)
    have hX2 : M1 * (D * 2 * 4096) / B / S < 340282366920938463463374607431768211456 := Nat.lt_of_le_of_lt (Nat.div_le_self _ _) hX1
    have ho3 := fun X => over_pos (M1 * (D * 2 * 4096) / B / S) S X hX2 (by omega) (by omega)
    have hX3 : M1 * (D * 2 * 4096) / B / S / S < 340282366920938463463374607431768211456 := Nat.lt_of_le_of_lt (Nat.div_le_self _ _) hX2
    have hin := fun X => int_pos (M1 * (D * 2 * 4096) / B / S / S) X hX3
    have hpe : permits A D E S G = M1 * (D * 2 * 4096) / B / S / S := by unfold permits; rw [hM1, hB]
    have hst : stepTo js ps qs D S G (k + 1) = min T (M1 * (D * 2 * 4096) / B / S / S) := by rw [stepTo_yes hda hE0 hac, hT, hpe]
    unfold WideP at htm ho1 ho2 ho3
    unfold IntP at hin
    generalize M1 * (D * 2 * 4096) / B / S / S = N3 at ho3 hin hst
    generalize M1 * (D * 2 * 4096) / B / S = N2 at ho2 ho3
    generalize M1 * (D * 2 * 4096) / B = N1 at ho1 ho2
    generalize M1 * (D * 2 * 4096) = N0 at htm ho1
    obtain ⟨h0, hh0⟩ : ∃ n, N0 / 18446744073709551616 = n := ⟨_, rfl⟩
    obtain ⟨l0, hl0⟩ : ∃ n, N0 % 18446744073709551616 = n := ⟨_, rfl⟩
    obtain ⟨h1, hh1⟩ : ∃ n, N1 / 18446744073709551616 = n := ⟨_, rfl⟩
    obtain ⟨l1, hl1⟩ : ∃ n, N1 % 18446744073709551616 = n := ⟨_, rfl⟩
    obtain ⟨h2, hh2⟩ : ∃ n, N2 / 18446744073709551616 = n := ⟨_, rfl⟩
    obtain ⟨l2, hl2⟩ : ∃ n, N2 % 18446744073709551616 = n := ⟨_, rfl⟩
    obtain ⟨h3, hh3⟩ : ∃ n, N3 / 18446744073709551616 = n := ⟨_, rfl⟩
    obtain ⟨l3, hl3⟩ : ∃ n, N3 % 18446744073709551616 = n := ⟨_, rfl⟩
    simp only [hh0, hl0, hh1, hl1, hh2, hl2, hh3, hl3] at htm ho1 ho2 ho3 hin
    obtain ⟨M2, hM2⟩ : ∃ n, D * 2 * 4096 = n := ⟨_, rfl⟩
    rw [hM2] at htm
    have ed : (D : Int) * 2 * 4096 = (M2 : Nat) := by omega
    have ed2 : IntKind.i64.wrap (M2 : Int) = (M2 : Nat) := by rw [IntKind.wrap_i64]; omega
    have HTM := Lib.hid htm
    have HO1 := Lib.hid ho1
    have HO2 := Lib.hid ho2
    have HO3 := Lib.hid ho3
    have HIN := Lib.hid hin
    have HST := Lib.hid hst
    clear htm ho1 ho2 ho3 hin hst hX hX1 hX2 hX3 hpe hh0 hl0 hh1 hl1 hh2 hl2 hh3 hl3 hM2 hda hac hT hpw hpw0 c2 hB hM1
    go_wp2_with fail
    refine (HTM.out _).mono ?_
    rintro e wa ⟨rfl, hba⟩
    have HBA := Lib.hid hba
    clear hba
    go_wp2_with fail
    refine (HO1.out _).mono ?_
    rintro e wb ⟨rfl, hbb⟩
    have HBB := Lib.hid (below_call HBA.out hbb)
    clear hbb HBA
    go_wp2_with fail
    refine (HO2.out _).mono ?_
    rintro e wd ⟨rfl, hbd⟩
    have HBD := Lib.hid (below_call HBB.out hbd)
    clear hbd HBB
    go_wp2_with fail
    refine (HO3.out _).mono ?_
    rintro e we ⟨rfl, hbe⟩
    have HBE := Lib.hid (below_call HBD.out hbe)
    clear hbe HBD s0 lt1 y10 ltb2
    go_upto_region 12 with fail
    have hrow := Row.new we [.bool false, .int .u64 (h3 : Nat), .int .u64 (l3 : Nat)] 98
    have hBV : Below we.heap.size we (we.alloc (.cells #[.bool false, .int .u64 (h3 : Nat), .int .u64 (l3 : Nat)] 98)) := (Below.refl _ _).alloc (Nat.le_refl _) _
    have HBV := Lib.hid (below_call HBE.out hBV)
    have z0 := hrow.c 0 _ rfl
    have z1 := hrow.c 1 _ rfl
    have z2 := hrow.c 2 _ rfl
    change (we.alloc (.cells #[.bool false, .int .u64 (h3 : Nat), .int .u64 (l3 : Nat)] 98)).cell? _ = _ at z0 z1 z2
    clear hrow hBV HBE
    generalize (we.alloc (.cells #[.bool false, .int .u64 (h3 : Nat), .int .u64 (l3 : Nat)] 98)) = V at z0 z1 z2 HBV ⊢
    go_wp2_with fail
    refine (HIN.out _).mono ?_
    rintro e wf ⟨rfl, hbf⟩
    have HBF := Lib.hid (below_call HBV.out hbf)
    clear hbf HBV z0 z1 z2
    by_cases hN3 : N3 ≤ 4611686018427387904
    ·rw [if_pos hN3, decide_eq_true hN3]
     have HN := Lib.hid (show stepTo js ps qs D S G (k + 1) = min T N3 from HST.out)
     clear hN3 HST
     go_wp2
     go_roundw
     case rel => exact ⟨k + 1, by omega, by simp, by rw [HN.out, min_cast], HWU.out.keep HBF.out, HPU.out.keep HBF.out, HQU.out.keep HBF.out⟩
     case measure => simp [intOf]; omega
    ·rw [if_neg hN3, decide_eq_false hN3]
     have HN := Lib.hid (show stepTo js ps qs D S G (k + 1) = T from by rw [HST.out]; omega)
     clear hN3 HST
     go_wp2
     go_roundw
     case rel => exact ⟨k + 1, by omega, by simp, by rw [HN.out], HWU.out.keep HBF.out, HPU.out.keep HBF.out, HQU.out.keep HBF.out⟩
     case measure => simp [intOf]; omega
  ·have hke : k = js.length := by omega
   subst hke
   have hltp : ¬ js.length < ps.length := by omega
   have HT := Lib.hid hT
   have HWU := Lib.hid hW
   clear hT hP hQ
   go_wp2
   go_ret2
   refine ⟨HWU.out.bel, .inr ⟨HOKK.out, ?_⟩⟩
   rw [HSV.out, HT.out]
   rfl
end Go.Proofs.En
end

section
/-
  Walks: the law's comparison of Lead and Step.
-/
namespace Go.Proofs.En
open Go.RowKit
set_option maxRecDepth 100000 in
set_option maxHeartbeats 8000000 in
theorem steps6 (oa om op oq : Option Addr) (cap mcap pcap qcap : Nat) (js : List JV) (ms : List MV) (ps qs : List Int) (g : Int) (w : World) (hj : js.length ≤ 100) (hl : ms.length ≤ 9223372036854775807) (hp : ps.length ≤ 100) (hq : qs.length ≤ 100) (hJ : Sl w oa 12 (js.map JV.vals)) (hM : Sl w om 5 (ms.map MV.vals)) (hP : Sl w op 1 (pvals ps)) (hQ : Sl w oq 1 (pvals qs)) :
  Calls Tryz.prog 6 #[.agg #[.slice oa js.length cap, .slice om ms.length mcap], .slice op ps.length pcap, .slice oq qs.length qcap, .int .i64 g] w (BoolP true w) := by
 go_enter Tryz.func6, Tryz.ntmps6
 go_wp2_with fail
 have hW : KW w w.heap.size oa om [.slice oa js.length cap, .slice om ms.length mcap] js ms (w.alloc (.cells #[.slice oa js.length cap, .slice om ms.length mcap] 25)) := ⟨(Below.refl _ _).alloc (Nat.le_refl _) _, Row.new w [.slice oa js.length cap, .slice om ms.length mcap] 25, hJ.keep ((Below.refl _ _).alloc (Nat.le_refl _) _), hM.keep ((Below.refl _ _).alloc (Nat.le_refl _) _)⟩
 have hP0 := hP.keep (w' := (w.alloc (.cells #[.slice oa js.length cap, .slice om ms.length mcap] 25))) ((Below.refl _ _).alloc (Nat.le_refl _) _)
 have hQ0 := hQ.keep (w' := (w.alloc (.cells #[.slice oa js.length cap, .slice om ms.length mcap] 25))) ((Below.refl _ _).alloc (Nat.le_refl _) _)
 clear hJ hM hP hQ
 generalize (w.alloc (.cells #[.slice oa js.length cap, .slice om ms.length mcap] 25)) = W0 at hW hP0 hQ0 ⊢
 generalize hn1 : w.heap.size = n1 at hW ⊢
 have HN := Lib.hid hn1
 clear hn1
 have s0 : W0.cell? ⟨n1, 0, none⟩ = some (.slice oa js.length cap) := hW.r1.c 0 _ rfl
 have s1 : W0.cell? ⟨n1, 1, none⟩ = some (.slice om ms.length mcap) := hW.r1.c 1 _ rfl
 have lt1 := hW.r1.lt
 refine (lead16 oa om op oq cap mcap pcap qcap js ms ps qs _ hj hl hp hq hW.rJ hW.rM hP0 hQ0).mono ?_
 rintro e W1 ⟨hB1, hA⟩
 replace hW := hW.keep hB1
 replace hP0 := hP0.keep hB1
 replace hQ0 := hQ0.keep hB1
 clear s0 s1 lt1 hB1
 obtain ⟨W0, rfl⟩ : ∃ X, X = W1 := ⟨_, rfl⟩
 have s0 : W0.cell? ⟨n1, 0, none⟩ = some (.slice oa js.length cap) := hW.r1.c 0 _ rfl
 have s1 : W0.cell? ⟨n1, 1, none⟩ = some (.slice om ms.length mcap) := hW.r1.c 1 _ rfl
 have lt1 := hW.r1.lt
 obtain ⟨a1, b1, rfl, hA1⟩ : ∃ a b, e = .returned (.tuple #[.int .i64 a, .bool b]) ∧ ((¬ bothIn js ms ps qs ∧ a = 0 ∧ b = false) ∨ (bothIn js ms ps qs ∧ a = max (leadTo js ps qs js.length) 0 ∧ b = decide (0 ≤ leadTo js ps qs js.length))) := by
  rcases hA with ⟨h, rfl⟩ | ⟨h, rfl⟩
  ·exact ⟨_, _, rfl, .inl ⟨h, rfl, rfl⟩⟩
  ·exact ⟨_, _, rfl, .inr ⟨h, rfl, rfl⟩⟩
 clear hA
 have HA1 := Lib.hid hA1
 clear hA1
 go_wp2_with fail
 refine (lead17 oa om op oq cap mcap pcap qcap js ms ps qs _ hj hl hp hq hW.rJ hW.rM hP0 hQ0).mono ?_
 rintro e W1 ⟨hB1, hA⟩
 replace hW := hW.keep hB1
 replace hP0 := hP0.keep hB1
 replace hQ0 := hQ0.keep hB1
 clear s0 s1 lt1 hB1
 obtain ⟨W0, rfl⟩ : ∃ X, X = W1 := ⟨_, rfl⟩
 have s0 : W0.cell? ⟨n1, 0, none⟩ = some (.slice oa js.length cap) := hW.r1.c 0 _ rfl
 have s1 : W0.cell? ⟨n1, 1, none⟩ = some (.slice om ms.length mcap) := hW.r1.c 1 _ rfl
 have lt1 := hW.r1.lt
 obtain rfl : e = .returned (.tuple #[.int .i64 a1, .bool b1]) := by
  rcases hA with ⟨h, rfl⟩ | ⟨h, rfl⟩
  ·rcases HA1.out with ⟨h2, h3, h4⟩ | ⟨h2, h3, h4⟩
   ·rw [h3, h4]
   ·exact absurd h2 h
  ·rcases HA1.out with ⟨h2, h3, h4⟩ | ⟨h2, h3, h4⟩
   ·exact absurd h h2
   ·rw [h3, h4]
 clear hA HA1
 go_wp2_with fail
 refine (step18 oa om op oq cap mcap pcap qcap js ms ps qs g _ hj hl hp hq hW.rJ hW.rM hP0 hQ0).mono ?_
 rintro e W1 ⟨hB1, hA⟩
 replace hW := hW.keep hB1
 replace hP0 := hP0.keep hB1
 replace hQ0 := hQ0.keep hB1
 clear s0 s1 lt1 hB1
 obtain ⟨W0, rfl⟩ : ∃ X, X = W1 := ⟨_, rfl⟩
 have s0 : W0.cell? ⟨n1, 0, none⟩ = some (.slice oa js.length cap) := hW.r1.c 0 _ rfl
 have s1 : W0.cell? ⟨n1, 1, none⟩ = some (.slice om ms.length mcap) := hW.r1.c 1 _ rfl
 have lt1 := hW.r1.lt
 obtain ⟨a2, b2, rfl, hA1⟩ : ∃ a b, e = .returned (.tuple #[.int .i64 a, .bool b]) ∧ ((¬ stepOk (bothIn js ms ps qs) (leadTo js ps qs js.length) g ∧ a = 0 ∧ b = false) ∨ (stepOk (bothIn js ms ps qs) (leadTo js ps qs js.length) g ∧ a = (stepV js ps qs g : Nat) ∧ b = true)) := by
  rcases hA with ⟨h, rfl⟩ | ⟨h, rfl⟩
  ·exact ⟨_, _, rfl, .inl ⟨h, rfl, rfl⟩⟩
  ·exact ⟨_, _, rfl, .inr ⟨h, rfl, rfl⟩⟩
 clear hA
 have HA1 := Lib.hid hA1
 clear hA1
 go_wp2_with fail
 refine (step19 oa om op oq cap mcap pcap qcap js ms ps qs g _ hj hl hp hq hW.rJ hW.rM hP0 hQ0).mono ?_
 rintro e W1 ⟨hB1, hA⟩
 replace hW := hW.keep hB1
 replace hP0 := hP0.keep hB1
 replace hQ0 := hQ0.keep hB1
 clear s0 s1 lt1 hB1
 obtain ⟨W0, rfl⟩ : ∃ X, X = W1 := ⟨_, rfl⟩
 have s0 : W0.cell? ⟨n1, 0, none⟩ = some (.slice oa js.length cap) := hW.r1.c 0 _ rfl
 have s1 : W0.cell? ⟨n1, 1, none⟩ = some (.slice om ms.length mcap) := hW.r1.c 1 _ rfl
 have lt1 := hW.r1.lt
 obtain rfl : e = .returned (.tuple #[.int .i64 a2, .bool b2]) := by
  rcases hA with ⟨h, rfl⟩ | ⟨h, rfl⟩
  ·rcases HA1.out with ⟨h2, h3, h4⟩ | ⟨h2, h3, h4⟩
   ·rw [h3, h4]
   ·exact absurd h2 h
  ·rcases HA1.out with ⟨h2, h3, h4⟩ | ⟨h2, h3, h4⟩
   ·exact absurd h h2
   ·rw [h3, h4]
 clear hA HA1
 have q1 : (a1 == a1) = true := by simp
 have q2 : (a2 == a2) = true := by simp
 have q3 : (b1 == b1) = true := by simp
 have q4 : (b2 == b2) = true := by simp
 have HB := Lib.hid hW.bel
 clear hW hP0 hQ0 s0 s1 lt1
 go_wp2
 go_ret
 exact boolP_mk rfl HB.out
end Go.Proofs.En
end

section
/-
  A made robot is valid.
-/
namespace Go.Proofs.En
open Go.RowKit
end Go.Proofs.En
end

section
/-
  Walks: the law's robot: a made one with other limits.
-/
namespace Go.Proofs.En
open Go.RowKit

/-- A joint of the law's robot. -/
structure GK (i : Int) (j : JV) : Prop where
  name : j.name = nm i
  kind : 0 ≤ j.kind ∧ j.kind ≤ 5
  parent : -1 ≤ j.parent ∧ j.parent ≤ i - 1
  off : (-4194304 ≤ j.o0 ∧ j.o0 ≤ 4194304) ∧ (-4194304 ≤ j.o1 ∧ j.o1 ≤ 4194304) ∧ (-4194304 ≤ j.o2 ∧ j.o2 ≤ 4194304)
  lim : (-limitF j.kind ≤ j.lo ∧ j.lo ≤ 0) ∧ (0 ≤ j.hi ∧ j.hi ≤ limitF j.kind)
  weight : 1 ≤ j.weight ∧ j.weight ≤ 4
  speed : 1 ≤ j.speed ∧ j.speed ≤ 1048576
  accel : 1 ≤ j.accel ∧ j.accel ≤ 1048576
  torque : 1 ≤ j.torque ∧ j.torque ≤ 1099511627776
theorem GJ.gk {i : Int} {j : JV} (h : GJ i j) : GK i j := ⟨h.name, h.kind, h.parent, h.off, h.lim, h.weight, by have := h.speed; omega, by have := h.accel; omega, by have := h.torque; omega⟩
def RobQ (js : List JV) (ms : List MV) (oa om : Option Addr) (W : World) : Prop := (1 ≤ js.length ∧ js.length ≤ 3) ∧ ms.length ≤ 2 ∧ (∀ (k : Nat) (j : JV), js[k]? = some j → GK k j) ∧ (∀ (k : Nat) (m : MV), ms[k]? = some m → massB js.length m = true) ∧ Sl W oa 12 (js.map JV.vals) ∧ Sl W om 5 (ms.map MV.vals)
theorem robQ_bd {js : List JV} {ms : List MV} {oa om : Option Addr} {W : World} (h : RobQ js ms oa om W) : ∀ (k : Nat) (j : JV), js[k]? = some j → -1000000000 ≤ j.lo ∧ j.lo ≤ j.hi ∧ j.hi ≤ 1000000000 := by
  intro k j hk
  have g := (h.2.2.1 k j hk).lim
  have lb := limitF_bd j.kind
  omega
def MkRobQ (w : World) (e : Ending) (W' : World) : Prop := ∃ js ms oa cj om cm, e = .returned (.agg #[.slice oa (List.length js) cj, .slice om (List.length ms) cm]) ∧ RobQ js ms oa om W' ∧ Below w.heap.size w W'

/-- Setting cells of one's own row. -/
theorem own_setk {W : World} {base n c g size : Nat} {t : TypeId} {xs : List Value} (h : W.ownsRow base t size (.slice (some ⟨g, 0, none⟩) n c) n xs) (i : Nat) (hn : 0 < n) (x : Value) : (W.setCell ⟨g, i, none⟩ x).ownsRow base t size (.slice (some ⟨g, 0, none⟩) n c) n (xs.set i x) := by
  obtain ⟨hl, hv⟩ := h
  refine ⟨by simp [hl], .inr ?_⟩
  rcases hv with ⟨h1, h2⟩ | ⟨g', cap, cur, h1, h2, h3, h4, h5, h6, h7⟩
  · omega
  · injection h1 with h1 h8 h9
    injection h1 with h1
    injection h1 with h1 _ _
    subst h1 h9
    refine ⟨g, c, cur.setIfInBounds i x, rfl, h2, ?_, h4, h5, by simp [h6], ?_⟩
    · have hg : g < W.heap.size := by
        rcases Nat.lt_or_ge g W.heap.size with h1 | h1
        · exact h1
        · rw [Array.getElem?_eq_none h1] at h3; cases h3
      simp [World.setCell, Array.getElem?_modify, h3]
    · rw [← h7]
      simp [List.take_set]
theorem own_frozen {W : World} {base n c g size : Nat} {t : TypeId} {xs : List Value} (h : W.ownsRow base t size (.slice (some ⟨g, 0, none⟩) n c) n xs) (hn : 0 < n) (i : Nat) : W.frozen? ⟨g, i, none⟩ = false := by
  rcases h.2 with ⟨h1, h2⟩ | ⟨g', cap, cur, h1, h2, h3, -⟩
  · omega
  · injection h1 with h1 _ _
    injection h1 with h1
    injection h1 with h1 _ _
    subst h1
    simp [World.frozen?, h3]
theorem own_some {W : World} {base n size : Nat} {t : TypeId} {v : Value} {xs : List Value} (h : W.ownsRow base t size v n xs) (hn : 0 < n) : ∃ g c, v = .slice (some ⟨g, 0, none⟩) n c ∧ base ≤ g ∧ g < W.heap.size := by
  rcases h.2 with ⟨_, h2⟩ | ⟨g, c, cur, h1, h2, h3, _⟩
  · omega
  · refine ⟨g, c, h1, h2, ?_⟩
    rcases Nat.lt_or_ge g W.heap.size with h | h
    · exact h
    · rw [Array.getElem?_eq_none h] at h3; cases h3
/-- A row of joints in which joint k gets other limits. -/
theorem flat_set (js : List JV) (k : Nat) (j j' : JV) (hk : js[k]? = some j) (i : Nat) (x : Value) (hi : i < 12) (hv : j'.vals = j.vals.set i x) : (jflat js).set (k * 12 + i) x = jflat (js.set k j') := by
  induction js generalizing k with
  | nil => cases hk
  | cons a js ih =>
    have hl : a.vals.length = 12 := rfl
    cases k with
    | zero =>
      simp at hk
      subst hk
      show (a.vals ++ jflat js).set (0 * 12 + i) x = j'.vals ++ jflat js
      rw [Nat.zero_mul, Nat.zero_add, List.set_append, if_pos (by omega), hv]
    | succ k =>
      simp at hk
      show (a.vals ++ jflat js).set ((k + 1) * 12 + i) x = a.vals ++ jflat (js.set k j')
      rw [List.set_append, if_neg (by omega), ← ih k hk, hl]
      congr 2
      omega

theorem Sl.keepG {w w' : World} {oa : Option Addr} {n nS : Nat} {l : List (List Value)} (h : Sl w oa n l) (hg : w.grownBy w' (some nS)) (hne : ∀ a, oa = some a → a.block ≠ nS) : Sl w' oa n l := by
  intro h0
  obtain ⟨b, off, e, h1⟩ := h h0
  exact ⟨b, off, e, h1.keepG hg (hne _ e)⟩
/-- The law's robot while it is being made. -/
structure RW (w : World) (base n8 n9 g cj : Nat) (om : Option Addr) (cm : Nat) (js : List JV) (ms : List MV) (W : World) : Prop where
  bel : Below w.heap.size w W
  b8 : Blk W n8 [.slice none 0 0, .slice none 0 0]
  b9 : Blk W n9 [.slice (some ⟨g, 0, none⟩) js.length cj, .slice om ms.length cm]
  own : W.ownsRow base 64 12 (.slice (some ⟨g, 0, none⟩) js.length cj) js.length (jflat js)
  gk : ∀ (k : Nat) (j : JV), js[k]? = some j → GK k j
  sm : Sl W om 5 (ms.map MV.vals)
theorem RW.put {w W : World} {base n8 n9 g cj : Nat} {om : Option Addr} {cm : Nat} {js : List JV} {ms : List MV} (h : RW w base n8 n9 g cj om cm js ms W) (hw : w.heap.size ≤ g) (h8 : n8 ≠ g) (h9 : n9 ≠ g) (hm : ∀ a, om = some a → a.block ≠ g) {k : Nat} {j j' : JV} (hk : js[k]? = some j) (i : Nat) (hi : i < 12) (x : Value) (hv : j'.vals = j.vals.set i x) (hG : GK k j') : RW w base n8 n9 g cj om cm (js.set k j') ms (W.setCell ⟨g, k * 12 + i, none⟩ x) := by
  have hlt : k < js.length := (List.getElem?_eq_some_iff.1 hk).1
  have hg := grown_set W g (k * 12 + i) x
  refine ⟨h.bel.setCell (p := ⟨g, k * 12 + i, none⟩) hw x, h.b8.keepG hg h8, ?_, ?_, ?_, h.sm.keepG hg hm⟩
  · rw [List.length_set]; exact h.b9.keepG hg h9
  · rw [List.length_set, ← flat_set js k j j' hk i x hi hv]
    exact own_setk h.own (k * 12 + i) (by omega) x
  · intro k' a ha
    rw [List.getElem?_set] at ha
    split at ha
    · rename_i he
      subst he
      first
        | (injection ha with ha; subst ha; exact hG)
        | (split at ha
           · injection ha with ha; subst ha; exact hG
           · cases ha)
    · exact h.gk k' a ha
theorem RW.sl {w W : World} {base n8 n9 g cj : Nat} {om : Option Addr} {cm : Nat} {js : List JV} {ms : List MV} (h : RW w base n8 n9 g cj om cm js ms W) : Sl W (some ⟨g, 0, none⟩) 12 (js.map JV.vals) := by
  have ho := h.own
  obtain ⟨oa, cap, e, hs⟩ := own_rows (rows := js.map JV.vals) (n := 12) (by intro r hr; simp at hr; obtain ⟨j, _, rfl⟩ := hr; rfl) (by rw [List.length_map]; exact ho)
  injection e with e1 _ _
  rw [e1]; exact hs
theorem RW.cell {w W : World} {base n8 n9 g cj : Nat} {om : Option Addr} {cm : Nat} {js : List JV} {ms : List MV} (h : RW w base n8 n9 g cj om cm js ms W) {k : Nat} {j : JV} (hk : js[k]? = some j) (i : Nat) (v : Value) (hv : j.vals[i]? = some v) : W.cell? ⟨g, k * 12 + i, none⟩ = some v := by
  have hlt : k < js.length := (List.getElem?_eq_some_iff.1 hk).1
  obtain ⟨b, off, e, hr⟩ := h.sl (jvals_ne hlt)
  injection e with e
  injection e with e1 e2 _
  have := hr.c k _ (rows_get hk) i v hv
  rw [← e1, ← e2, Nat.zero_add] at this
  exact this
theorem RW.keep {w W W' : World} {base n8 n9 g cj : Nat} {om : Option Addr} {cm : Nat} {js : List JV} {ms : List MV} (h : RW w base n8 n9 g cj om cm js ms W) (hb : Below W.heap.size W W') : RW w base n8 n9 g cj om cm js ms W' :=
  ⟨below_call h.bel hb, h.b8.keep hb, h.b9.keep hb, own_keep h.own hb, h.gk, h.sm.keep hb⟩

theorem torque_bd (x b : Int) : 1 ≤ wrap64 (1 + wrap64 (x % 1073741824 * 2 ^ min (b % 11).toNat 64)) ∧ wrap64 (1 + wrap64 (x % 1073741824 * 2 ^ min (b % 11).toNat 64)) ≤ 1099511627776 := by
  have h : b % 11 = 0 ∨ b % 11 = 1 ∨ b % 11 = 2 ∨ b % 11 = 3 ∨ b % 11 = 4 ∨ b % 11 = 5 ∨ b % 11 = 6 ∨ b % 11 = 7 ∨ b % 11 = 8 ∨ b % 11 = 9 ∨ b % 11 = 10 := by omega
  obtain ⟨P, hP, p1, p2⟩ : ∃ P : Int, (2 : Int) ^ min (b % 11).toNat 64 = P ∧ 1 ≤ P ∧ P ≤ 1024 := by
    rcases h with h | h | h | h | h | h | h | h | h | h | h <;> rw [h] <;> exact ⟨_, rfl, by decide, by decide⟩
  rw [hP]
  have y0 : 0 ≤ x % 1073741824 := by omega
  have y1 : x % 1073741824 ≤ 1073741823 := by omega
  generalize x % 1073741824 = y at y0 y1 ⊢
  have m0 := Int.mul_nonneg y0 (show 0 ≤ P by omega)
  have m1 := Int.mul_le_mul y1 p2 (by omega) (by omega)
  generalize y * P = z at m0 m1 ⊢
  unfold wrap64
  omega
set_option maxRecDepth 100000 in
set_option maxHeartbeats 8000000 in
theorem robot5 (w : World) (os : Option Addr) (cap : Nat) (xs : List Int) (a b c : Int) (hI : Sl w os 1 (pvals xs)) (hl : xs.length ≤ 9223372036854775807) :
    Calls Tryz.prog 5 #[.slice os xs.length cap, .int .i64 a, .int .i64 b, .int .i64 c] w (MkRobQ w) := by
  go_enter Tryz.func5, Tryz.ntmps5
  go_wp2_with fail
  have hB0 : Below w.heap.size w (w.alloc (.cells #[.slice none 0 0, .slice none 0 0] 25)) := (Below.refl _ _).alloc (Nat.le_refl _) _
  have b8 := Blk.new w [.slice none 0 0, .slice none 0 0] 25
  have hI0 := hI.keep hB0
  generalize (w.alloc (.cells #[.slice none 0 0, .slice none 0 0] 25)) = W0 at hB0 b8 hI0 ⊢
  generalize hn : w.heap.size = n8 at b8 ⊢
  have HN8 := Lib.hid hn
  clear hn
  refine (mkRobot_cap W0 os cap xs hI0 hl).mono ?_
  rintro e W1 ⟨js, ms, oa, cj, om, cm, rfl, hP, hB1, _, hown, hap, hfr⟩
  obtain ⟨⟨h1, h2⟩, h3, hj, hm, sJ, sM⟩ := hP
  obtain ⟨g, cj', hv, hg1, hg2⟩ := own_some hown (by omega)
  injection hv with e1 _ e2
  subst e1 e2
  have b8' := b8.keep hB1
  have hne8 : n8 ≠ g := by have := b8.lt; omega
  have HMG := Lib.hid (show ∀ a, om = some a → a.block ≠ g from fun a ha h => hap g rfl (by rw [ha, ← h]; rfl))
  have HW := Lib.hid (below_call hB0 hB1)
  have hwg : w.heap.size ≤ g := Nat.le_trans hB0.size hg1
  have HM8 := Lib.hid (show ∀ a, om = some a → a.block ≠ n8 from fun a ha => by have h7 := hfr a ha; have := b8.lt; omega)
  clear hB0 b8 hI0 hB1 hap sJ hfr
  have HOWN := Lib.hid hown
  have HGJ := Lib.hid hj
  have HMB := Lib.hid hm
  have HSM := Lib.hid sM
  clear hown hj hm sM
  go_upto_region 2 with fail
  have hBa : Below W1.heap.size W1 (W1.alloc (.cells #[.slice (some ⟨g, 0, none⟩) js.length cj, .slice om ms.length cm] 25)) := (Below.refl _ _).alloc (Nat.le_refl _) _
  have b9 := Blk.new W1 [.slice (some ⟨g, 0, none⟩) js.length cj, .slice om ms.length cm] 25
  have hRW : RW w W0.heap.size n8 W1.heap.size g cj om cm js ms (W1.alloc (.cells #[.slice (some ⟨g, 0, none⟩) js.length cj, .slice om ms.length cm] 25)) :=
    ⟨below_call HW.out hBa, b8'.keep hBa, b9, own_keep HOWN.out hBa, fun k j hk => (HGJ.out k j hk).gk, HSM.out.keep hBa⟩
  have hne9 : W1.heap.size ≠ g := by omega
  clear hBa b9 b8' HOWN HSM HGJ HW hg2
  generalize (W1.alloc (.cells #[.slice (some ⟨g, 0, none⟩) js.length cj, .slice om ms.length cm] 25)) = W2 at hRW ⊢
  generalize W1.heap.size = n9 at hRW hne9 ⊢
  generalize W0.heap.size = base at hRW hg1 ⊢
  have HLN := Lib.hid (show 1 ≤ js.length ∧ js.length ≤ 3 from ⟨h1, h2⟩)
  clear h1 h2
  go_wp2_with fail
  go_loopw [10] (fun i W => ∃ (k : Nat) (ls : List JV), Hid (ls.length = js.length) ∧ k ≤ ls.length ∧ i = .int .i64 k ∧ RW w base n8 n9 g cj om cm ls ms W) (fun i _ => js.length - (intOf i).toNat)
  case atStart => exact ⟨0, js, Lib.hid rfl, by omega, rfl, hRW⟩
  case round =>
    clear hRW
    obtain ⟨k, ls, HLL, hk, rfl, hR⟩ := hrel
    obtain ⟨V, rfl⟩ : ∃ X, X = wr := ⟨_, rfl⟩
    by_cases hlt : k < ls.length
    · have hl3 : ls.length ≤ 3 := by rw [HLL.out]; exact HLN.out.2
      have hk3 : k ≤ 2 := by omega
      have ek : IntKind.u64.wrap (k : Int) = (k : Nat) := by rw [IntKind.wrap_u64]; omega
      have r0 := hR.b9.c 0 _ rfl
      have r1 := hR.b9.c 1 _ rfl
      have l9 := hR.b9.lt
      go_upto_region 5 with fail
      clear r0 r1 l9
      obtain ⟨j, hj⟩ : ∃ j, ls[k]? = some j := ⟨_, List.getElem?_eq_getElem hlt⟩
      have hG := hR.gk k j hj
      have HR := Lib.hid hR
      have c9 := hR.cell hj 9 _ rfl
      have f9 := own_frozen hR.own (by omega) (k * 12 + 9)
      have lg : g < V.heap.size := by
        obtain ⟨g', c', e, _, h⟩ := own_some hR.own (by omega)
        injection e with e1 _ _
        injection e1 with e1
        injection e1 with e1 _ _
        omega
      have r0 := hR.b9.c 0 _ rfl
      have r1 := hR.b9.c 1 _ rfl
      have l9 := hR.b9.lt
      have hkp : ∀ (x : Int), 1 ≤ x ∧ x ≤ 1048576 → RW w base n8 n9 g cj om cm (ls.set k { j with speed := x }) ms (V.setCell ⟨g, k * 12 + 9, none⟩ (.int .i64 x)) := fun x hx => HR.out.put hwg hne8 hne9 HMG.out hj 9 (by decide) _ rfl (let h := HR.out.gk k j hj; ⟨h.name, h.kind, h.parent, h.off, h.lim, h.weight, hx, h.accel, h.torque⟩)
      have HKP := Lib.hid hkp
      clear hkp hR hG
      go_cut [10] (fun v X => v = .int .i64 (k : Nat) ∧ ∃ ls', Hid (ls'.length = ls.length) ∧ RW w base n8 n9 g cj om cm ls' ms X)
      case first =>
        go_region_with ((go_at_call 8; refine (round_any _ _ _ (by decide) (by decide)).mono ?_; rintro e Xa ⟨rfl, rfl⟩))
        all_goals
          go_wp2_with fail
          go_meet
          refine ⟨rfl, _, Lib.hid (List.length_set ..), (HKP.out _ ?_).keep (Below.refl _ _).drew⟩
          rw [IntKind.wrap_i64]; omega
      case rest =>
        obtain ⟨rfl, ls', HLE, hR⟩ := hcut
        obtain ⟨V', rfl⟩ : ∃ X, X = wc := ⟨_, rfl⟩
        clear c9 f9 lg r0 r1 l9 HR HKP hj
        have hlt' : k < ls'.length := by rw [HLE.out]; exact hlt
        have HLL' : Hid (ls'.length = js.length) := Lib.hid (by rw [HLE.out]; exact HLL.out)
        have hl3' : ls'.length ≤ 3 := by rw [HLL'.out]; exact HLN.out.2
        clear hlt HLE hk hl3 HLL
        obtain ⟨ls0, rfl⟩ : ∃ l, l = ls' := ⟨_, rfl⟩
        obtain ⟨V, rfl⟩ : ∃ X, X = V' := ⟨_, rfl⟩
        obtain ⟨ls, rfl⟩ : ∃ l, l = ls0 := ⟨_, rfl⟩
        have hlt := hlt'
        have hl3 := hl3'
        have HLL := HLL'
        have hk : k ≤ ls.length := by omega
        clear hlt' hl3' HLL'
        go_upto_region 6 with fail
        obtain ⟨j, hj⟩ : ∃ j, ls[k]? = some j := ⟨_, List.getElem?_eq_getElem hlt⟩
        have hG := hR.gk k j hj
        have HR := Lib.hid hR
        have c9 := hR.cell hj 10 _ rfl
        have f9 := own_frozen hR.own (by omega) (k * 12 + 10)
        have lg : g < V.heap.size := by
          obtain ⟨g', c', e, _, h⟩ := own_some hR.own (by omega)
          injection e with e1 _ _
          injection e1 with e1
          injection e1 with e1 _ _
          omega
        have r0 := hR.b9.c 0 _ rfl
        have r1 := hR.b9.c 1 _ rfl
        have l9 := hR.b9.lt
        have hkp : ∀ (x : Int), 1 ≤ x ∧ x ≤ 1048576 → RW w base n8 n9 g cj om cm (ls.set k { j with accel := x }) ms (V.setCell ⟨g, k * 12 + 10, none⟩ (.int .i64 x)) := fun x hx => HR.out.put hwg hne8 hne9 HMG.out hj 10 (by decide) _ rfl (let h := HR.out.gk k j hj; ⟨h.name, h.kind, h.parent, h.off, h.lim, h.weight, h.speed, hx, h.torque⟩)
        have HKP := Lib.hid hkp
        clear hkp hR hG
        go_cut [10] (fun v X => v = .int .i64 (k : Nat) ∧ ∃ ls', Hid (ls'.length = ls.length) ∧ RW w base n8 n9 g cj om cm ls' ms X)
        case first =>
          go_region_with ((go_at_call 8; refine (round_any _ _ _ (by decide) (by decide)).mono ?_; rintro e Xa ⟨rfl, rfl⟩))
          all_goals
            go_wp2_with fail
            go_meet
            refine ⟨rfl, _, Lib.hid (List.length_set ..), (HKP.out _ ?_).keep (Below.refl _ _).drew⟩
            rw [IntKind.wrap_i64]; omega
        case rest =>
          obtain ⟨rfl, ls', HLE, hR⟩ := hcut
          obtain ⟨V', rfl⟩ : ∃ X, X = wc := ⟨_, rfl⟩
          clear c9 f9 lg r0 r1 l9 HR HKP hj
          have hlt' : k < ls'.length := by rw [HLE.out]; exact hlt
          have HLL' : Hid (ls'.length = js.length) := Lib.hid (by rw [HLE.out]; exact HLL.out)
          have hl3' : ls'.length ≤ 3 := by rw [HLL'.out]; exact HLN.out.2
          clear hlt HLE hk hl3 HLL
          obtain ⟨ls0, rfl⟩ : ∃ l, l = ls' := ⟨_, rfl⟩
          obtain ⟨V, rfl⟩ : ∃ X, X = V' := ⟨_, rfl⟩
          obtain ⟨ls, rfl⟩ : ∃ l, l = ls0 := ⟨_, rfl⟩
          have hlt := hlt'
          have hl3 := hl3'
          have HLL := HLL'
          have hk : k ≤ ls.length := by omega
          clear hlt' hl3' HLL'
          go_upto_region 7 with fail
          obtain ⟨j, hj⟩ : ∃ j, ls[k]? = some j := ⟨_, List.getElem?_eq_getElem hlt⟩
          have HR := Lib.hid hR
          have c9 := hR.cell hj 11 _ rfl
          have f9 := own_frozen hR.own (by omega) (k * 12 + 11)
          have lg : g < V.heap.size := by
            obtain ⟨g', c', e, _, h⟩ := own_some hR.own (by omega)
            injection e with e1 _ _
            injection e1 with e1
            injection e1 with e1 _ _
            omega
          have r0 := hR.b9.c 0 _ rfl
          have r1 := hR.b9.c 1 _ rfl
          have l9 := hR.b9.lt
          have hkp : ∀ (x : Int), 1 ≤ x ∧ x ≤ 1099511627776 → RW w base n8 n9 g cj om cm (ls.set k { j with torque := x }) ms (V.setCell ⟨g, k * 12 + 11, none⟩ (.int .i64 x)) := fun x hx => HR.out.put hwg hne8 hne9 HMG.out hj 11 (by decide) _ rfl (let h := HR.out.gk k j hj; ⟨h.name, h.kind, h.parent, h.off, h.lim, h.weight, h.speed, h.accel, hx⟩)
          have HKP := Lib.hid hkp
          clear hkp hR
          have q1 : 0 ≤ b % 11 := by omega
          have q2 : b % 11 < 11 := by omega
          go_region_with ((go_at_call 8; refine (round_any _ _ _ (by decide) (by decide)).mono ?_; rintro e Xa ⟨rfl, rfl⟩))
          all_goals
            go_wp2_with fail
            go_roundw
            case rel =>
              refine ⟨k + 1, ls.set k _, Lib.hid (by rw [List.length_set]; exact HLL.out), by rw [List.length_set]; omega, by simp, (HKP.out _ ?_).keep (Below.refl _ _).drew⟩
              exact torque_bd _ _
            case measure => have h9 := HLL.out; simp [intOf]; omega
    · have hke : k = ls.length := by omega
      have r0 := hR.b9.c 0 _ rfl
      have r1 := hR.b9.c 1 _ rfl
      have l9 := hR.b9.lt
      have d0 := hR.b8.c 0 _ rfl
      have d1 := hR.b8.c 1 _ rfl
      have f0 := hR.b8.f 0
      have f1 := hR.b8.f 1
      have l8 := hR.b8.lt
      have HK := Lib.hid hke
      have HR := Lib.hid hR
      clear hke hR
      go_wp2_with fail
      have hB : Below w.heap.size w ((V.setCell ⟨n8, 0, none⟩ (.slice (some ⟨g, 0, none⟩) ls.length cj)).setCell ⟨n8, 1, none⟩ (.slice om ms.length cm)) := (HR.out.bel.setCell (p := ⟨n8, 0, none⟩) (Nat.le_of_eq HN8.out) _).setCell (p := ⟨n8, 1, none⟩) (Nat.le_of_eq HN8.out) _
      have hg1 := grown_set V n8 0 (.slice (some ⟨g, 0, none⟩) ls.length cj)
      have hg2 := grown_set (V.setCell ⟨n8, 0, none⟩ (.slice (some ⟨g, 0, none⟩) ls.length cj)) n8 1 (.slice om ms.length cm)
      refine bodyPost_ret (v := .agg #[.slice (some ⟨g, 0, none⟩) ls.length cj, .slice om ms.length cm]) (by simp [results, Tryz.results5, go_sem, d0, d1]) rfl ⟨ls, ms, _, cj, om, cm, rfl, ⟨by rw [HLL.out]; exact HLN.out, h3, HR.out.gk, by rw [HLL.out]; exact HMB.out, (HR.out.sl.keepG hg1 ?_).keepG hg2 ?_, (HR.out.sm.keepG hg1 ?_).keepG hg2 ?_⟩, hB⟩
      · intro a ha; injection ha with ha; subst ha; exact Ne.symm hne8
      · intro a ha; injection ha with ha; subst ha; exact Ne.symm hne8
      · exact HM8.out
      · exact HM8.out
end Go.Proofs.En
end

section
/-
  TrajectorySteps: the law's walk.
-/
namespace Go.Proofs.En
open Go.RowKit
theorem keepL {V W W' : World} {n6 n13 : Nat} {a b c d : Value} (l6 : n6 < V.heap.size) (l13 : n13 < V.heap.size) (h : W.cell? ⟨n6, 0, none⟩ = some a ∧ W.cell? ⟨n6, 1, none⟩ = some b ∧ W.cell? ⟨n13, 0, none⟩ = some c ∧ W.cell? ⟨n13, 1, none⟩ = some d ∧ Below V.heap.size V W) (hb : Below W.heap.size W W') :
  W'.cell? ⟨n6, 0, none⟩ = some a ∧ W'.cell? ⟨n6, 1, none⟩ = some b ∧ W'.cell? ⟨n13, 0, none⟩ = some c ∧ W'.cell? ⟨n13, 1, none⟩ = some d ∧ Below V.heap.size V W' := by
 have h6 := Nat.lt_of_lt_of_le l6 h.2.2.2.2.size
 have h13 := Nat.lt_of_lt_of_le l13 h.2.2.2.2.size
 exact ⟨(hb.cell (p := ⟨n6, 0, none⟩) h6).trans h.1, (hb.cell (p := ⟨n6, 1, none⟩) h6).trans h.2.1, (hb.cell (p := ⟨n13, 0, none⟩) h13).trans h.2.2.1, (hb.cell (p := ⟨n13, 1, none⟩) h13).trans h.2.2.2.1, below_call h.2.2.2.2 hb⟩
set_option maxRecDepth 100000 in
set_option maxHeartbeats 8000000 in
theorem stepsLaw3 (oa om op oq ol oc od : Option Addr) (cj cm cp cq cl cc cd : Nat) (js : List JV) (ms : List MV) (ps qs ls us bs : List Int) (g a b c : Int) (w : World) (hj : js.length ≤ 9223372036854775807) (hl : ms.length ≤ 9223372036854775807) (hp : ps.length ≤ 9223372036854775807) (hq : qs.length ≤ 9223372036854775807) (hll : ls.length ≤ 9223372036854775807) (hla : us.length ≤ 9223372036854775807) (hlb : bs.length ≤ 9223372036854775807)
  (hJ : Sl w oa 12 (js.map JV.vals)) (hM : Sl w om 5 (ms.map MV.vals)) (hP : Sl w op 1 (pvals ps)) (hQ : Sl w oq 1 (pvals qs)) (hL : Sl w ol 1 (pvals ls)) (hA : Sl w oc 1 (pvals us)) (hB : Sl w od 1 (pvals bs)) :
  Calls Tryz.prog 3 #[.agg #[.slice oa js.length cj, .slice om ms.length cm], .slice op ps.length cp, .slice oq qs.length cq, .int .i64 g, .slice ol ls.length cl, .slice oc us.length cc, .slice od bs.length cd, .int .i64 a, .int .i64 b, .int .i64 c] w (BoolP true w) := by
 go_enter Tryz.func3, Tryz.ntmps3
 by_cases h12 : 12 < js.length
 ·have d1 : decide ((12 : Int) < (js.length : Int)) = true := decide_eq_true (by omega)
  have d1' : decide (12 < js.length) = true := decide_eq_true (by omega)
  go_wp2_with fail
  refine (Tryz.awake _).mono ?_
  rintro e W1 ⟨rfl, hb1⟩
  have HB := Lib.hid (below_call ((Below.refl w.heap.size w).alloc (Nat.le_refl _) _) hb1)
  go_wp2
  go_ret
  exact boolP_mk rfl HB.out
 ·have d1 : decide ((12 : Int) < (js.length : Int)) = false := decide_eq_false (by omega)
  have d1' : decide (12 < js.length) = false := decide_eq_false (by omega)
  by_cases h20 : 20 < ps.length
  ·have d2 : decide ((20 : Int) < (ps.length : Int)) = true := decide_eq_true (by omega)
   have d2' : decide (20 < ps.length) = true := decide_eq_true (by omega)
   go_wp2_with fail
   refine (Tryz.awake _).mono ?_
   rintro e W1 ⟨rfl, hb1⟩
   have HB := Lib.hid (below_call ((Below.refl w.heap.size w).alloc (Nat.le_refl _) _) hb1)
   go_wp2
   go_ret
   exact boolP_mk rfl HB.out
  ·have d2 : decide ((20 : Int) < (ps.length : Int)) = false := decide_eq_false (by omega)
   have d2' : decide (20 < ps.length) = false := decide_eq_false (by omega)
   by_cases h21 : 20 < qs.length
   ·have d3 : decide ((20 : Int) < (qs.length : Int)) = true := decide_eq_true (by omega)
    have d3' : decide (20 < qs.length) = true := decide_eq_true (by omega)
    go_wp2_with fail
    refine (Tryz.awake _).mono ?_
    rintro e W1 ⟨rfl, hb1⟩
    have HB := Lib.hid (below_call ((Below.refl w.heap.size w).alloc (Nat.le_refl _) _) hb1)
    go_wp2
    go_ret
    exact boolP_mk rfl HB.out
   ·have d3 : decide ((20 : Int) < (qs.length : Int)) = false := decide_eq_false (by omega)
    have d3' : decide (20 < qs.length) = false := decide_eq_false (by omega)
    go_wp2_with fail
    have hB0 : Below w.heap.size w (w.alloc (.cells #[.slice oa js.length cj, .slice om ms.length cm] 25)) := (Below.refl _ _).alloc (Nat.le_refl _) _
    have r6 := Row.new w [.slice oa js.length cj, .slice om ms.length cm] 25
    have HB0 := Lib.hid hB0
    have hL0 := hL.keep hB0
    clear hB0
    generalize (w.alloc (.cells #[.slice oa js.length cj, .slice om ms.length cm] 25)) = W0 at HB0 r6 hL0 ⊢
    generalize w.heap.size = n6 at r6 ⊢
    refine (robot5 W0 ol cl ls a b c hL0 hll).mono ?_
    rintro e W1 ⟨jr, mr, ra, rc, rm, rd, rfl, hR, hb1⟩
    replace r6 := r6.keep hb1
    replace HB0 : Hid (Below w.heap.size w W1) := Lib.hid (below_call HB0.out hb1)
    clear hb1 hL0
    go_wp2_with fail
    have hbA : Below W1.heap.size W1 (W1.alloc (.cells #[.slice ra jr.length rc, .slice rm mr.length rd] 25)) := (Below.refl _ _).alloc (Nat.le_refl _) _
    have r13 := Row.new W1 [.slice ra jr.length rc, .slice rm mr.length rd] 25
    replace r6 := r6.keep hbA
    have HV := Lib.hid (below_call HB0.out hbA)
    have HRJ := Lib.hid (hR.2.2.2.2.1.keep hbA)
    have HRM := Lib.hid (hR.2.2.2.2.2.keep hbA)
    have HBD := Lib.hid (robQ_bd hR)
    have HL1 := Lib.hid hR.1
    have HL2 := Lib.hid hR.2.1
    have HJ := Lib.hid (hJ.keep HV.out)
    have HM := Lib.hid (hM.keep HV.out)
    have HP := Lib.hid (hP.keep HV.out)
    have HQ := Lib.hid (hQ.keep HV.out)
    have HA := Lib.hid (hA.keep HV.out)
    have HBB := Lib.hid (hB.keep HV.out)
    clear hbA hR HB0 hJ hM hP hQ hA hB hL
    generalize (W1.alloc (.cells #[.slice ra jr.length rc, .slice rm mr.length rd] 25)) = V at r6 r13 HV HRJ HRM HJ HM HP HQ HA HBB ⊢
    generalize W1.heap.size = n13 at r13 ⊢
    have s0 : V.cell? ⟨n6, 0, none⟩ = some (.slice oa js.length cj) := r6.c 0 _ rfl
    have s1 : V.cell? ⟨n6, 1, none⟩ = some (.slice om ms.length cm) := r6.c 1 _ rfl
    have s2 : V.cell? ⟨n13, 0, none⟩ = some (.slice ra jr.length rc) := r13.c 0 _ rfl
    have s3 : V.cell? ⟨n13, 1, none⟩ = some (.slice rm mr.length rd) := r13.c 1 _ rfl
    have l6 := r6.lt
    have l13 := r13.lt
    clear r6 r13
    have e12 : js.length ≤ 100 := by omega
    have e20 : ps.length ≤ 100 := by omega
    have e21 : qs.length ≤ 100 := by omega
    have jl : jr.length ≤ 100 := by have := HL1.out; omega
    have ml : mr.length ≤ 9223372036854775807 := by have := HL2.out; omega
    clear d1 d1' d2 d2' d3 d3' h12 h20 h21
    go_region_held3 (fun X => X.cell? ⟨n6, 0, none⟩ = some (.slice oa js.length cj) ∧ X.cell? ⟨n6, 1, none⟩ = some (.slice om ms.length cm) ∧ X.cell? ⟨n13, 0, none⟩ = some (.slice ra jr.length rc) ∧ X.cell? ⟨n13, 1, none⟩ = some (.slice rm mr.length rd) ∧ Below V.heap.size V X)
     (first | exact keepL l6 l13 ⟨s0, s1, s2, s3, Below.refl _ _⟩ (Below.refl _ _).drew | exact keepL l6 l13 (by assumption) (by assumption))
     (first
      | (have hxx := HB11; clear hxx; go_at_call 6; refine (steps6 _ _ _ _ _ _ _ _ jr mr ps ksK5 _ _ jl ml e20 hkK5 (HRJ.out.keep HB11.out) (HRM.out.keep HB11.out) (HP.out.keep HB11.out) (HSK5.out.keep HDK5_11.out)).mono ?_; rintro e X12 ⟨rfl, hb12⟩; have HB12 := Lib.hid (below_call HB11.out hb12))
      | (have hxx := HB10; clear hxx; go_at_call 7; refine (config_any _ _ _ _ _ _ jr mr.length bs _ jl HBD.out (HRJ.out.keep HB10.out) (HBB.out.keep HB10.out) hlb).mono ?_; rintro e X11 ⟨ksK5, ooK5, kcK5, rfl, klK5, _, kSK5, hb11⟩; have HB11 := Lib.hid (below_call HB10.out hb11); have HSK5 := Lib.hid kSK5; have hkK5 : ksK5.length ≤ 100 := Nat.le_trans (Nat.le_of_eq klK5) jl; clear klK5 kSK5; have HDK5_11 := Lib.hid (Below.refl X11.heap.size X11))
      | (have hxx := HB9; clear hxx; go_at_call 6; refine (steps6 _ _ _ _ _ _ _ _ jr mr ksK3 ksK4 _ _ jl ml hkK3 hkK4 (HRJ.out.keep HB9.out) (HRM.out.keep HB9.out) (HSK3.out.keep HDK3_9.out) (HSK4.out.keep HDK4_9.out)).mono ?_; rintro e X10 ⟨rfl, hb10⟩; have HB10 := Lib.hid (below_call HB9.out hb10))
      | (have hxx := HB8; clear hxx; go_at_call 8; refine (round_any _ _ _ (by decide) (by decide)).mono ?_; rintro e X9 ⟨rfl, hr9⟩; have HB9 := Lib.hid (show Below V.heap.size V X9 from by rw [← hr9]; exact HB8.out); have HDK3_9 := Lib.hid (show Below X7.heap.size X7 X9 from by rw [← hr9]; exact HDK3_8.out); have HDK4_9 := Lib.hid (show Below X8.heap.size X8 X9 from by rw [← hr9]; exact HDK4_8.out))
      | (have hxx := HB7; clear hxx; go_at_call 7; refine (config_any _ _ _ _ _ _ jr mr.length bs _ jl HBD.out (HRJ.out.keep HB7.out) (HBB.out.keep HB7.out) hlb).mono ?_; rintro e X8 ⟨ksK4, ooK4, kcK4, rfl, klK4, _, kSK4, hb8⟩; have HB8 := Lib.hid (below_call HB7.out hb8); have HSK4 := Lib.hid kSK4; have hkK4 : ksK4.length ≤ 100 := Nat.le_trans (Nat.le_of_eq klK4) jl; clear klK4 kSK4; have HDK4_8 := Lib.hid (Below.refl X8.heap.size X8); have HDK3_8 := Lib.hid (below_call HDK3_7.out hb8))
      | (have hxx := HB6; clear hxx; go_at_call 7; refine (config_any _ _ _ _ _ _ jr mr.length us _ jl HBD.out (HRJ.out.keep HB6.out) (HA.out.keep HB6.out) hla).mono ?_; rintro e X7 ⟨ksK3, ooK3, kcK3, rfl, klK3, _, kSK3, hb7⟩; have HB7 := Lib.hid (below_call HB6.out hb7); have HSK3 := Lib.hid kSK3; have hkK3 : ksK3.length ≤ 100 := Nat.le_trans (Nat.le_of_eq klK3) jl; clear klK3 kSK3; have HDK3_7 := Lib.hid (Below.refl X7.heap.size X7))
      | (have hxx := HB5; clear hxx; go_at_call 6; refine (steps6 _ _ _ _ _ _ _ _ jr mr ksK1 ksK2 _ _ jl ml hkK1 hkK2 (HRJ.out.keep HB5.out) (HRM.out.keep HB5.out) (HSK1.out.keep HDK1_5.out) (HSK2.out.keep HDK2_5.out)).mono ?_; rintro e X6 ⟨rfl, hb6⟩; have HB6 := Lib.hid (below_call HB5.out hb6))
      | (have hxx := HB4; clear hxx; go_at_call 8; refine (round_any _ _ _ (by decide) (by decide)).mono ?_; rintro e X5 ⟨rfl, hr5⟩; have HB5 := Lib.hid (show Below V.heap.size V X5 from by rw [← hr5]; exact HB4.out); have HDK1_5 := Lib.hid (show Below X3.heap.size X3 X5 from by rw [← hr5]; exact HDK1_4.out); have HDK2_5 := Lib.hid (show Below X4.heap.size X4 X5 from by rw [← hr5]; exact HDK2_4.out))
      | (have hxx := HB3; clear hxx; go_at_call 7; refine (config_any _ _ _ _ _ _ jr mr.length bs _ jl HBD.out (HRJ.out.keep HB3.out) (HBB.out.keep HB3.out) hlb).mono ?_; rintro e X4 ⟨ksK2, ooK2, kcK2, rfl, klK2, _, kSK2, hb4⟩; have HB4 := Lib.hid (below_call HB3.out hb4); have HSK2 := Lib.hid kSK2; have hkK2 : ksK2.length ≤ 100 := Nat.le_trans (Nat.le_of_eq klK2) jl; clear klK2 kSK2; have HDK2_4 := Lib.hid (Below.refl X4.heap.size X4); have HDK1_4 := Lib.hid (below_call HDK1_3.out hb4))
      | (have hxx := HB2; clear hxx; go_at_call 7; refine (config_any _ _ _ _ _ _ jr mr.length us _ jl HBD.out (HRJ.out.keep HB2.out) (HA.out.keep HB2.out) hla).mono ?_; rintro e X3 ⟨ksK1, ooK1, kcK1, rfl, klK1, _, kSK1, hb3⟩; have HB3 := Lib.hid (below_call HB2.out hb3); have HSK1 := Lib.hid kSK1; have hkK1 : ksK1.length ≤ 100 := Nat.le_trans (Nat.le_of_eq klK1) jl; clear klK1 kSK1; have HDK1_3 := Lib.hid (Below.refl X3.heap.size X3))
      | (have hxx := HB1; clear hxx; go_at_call 6; refine (steps6 _ _ _ _ _ _ _ _ js ms ps qs _ _ e12 hl e20 e21 (HJ.out.keep HB1.out) (HM.out.keep HB1.out) (HP.out.keep HB1.out) (HQ.out.keep HB1.out)).mono ?_; rintro e X2 ⟨rfl, hb2⟩; have HB2 := Lib.hid (below_call HB1.out hb2))
      | (go_at_call 4; refine (Tryz.awake _).mono ?_; rintro e X1 ⟨rfl, hb1⟩; have HB1 := Lib.hid (below_call (Below.refl _ _).drew hb1)))
    go_wp2
    go_ret
    exact boolP_mk rfl (below_call HV.out HB12.out)
end Go.Proofs.En
end

