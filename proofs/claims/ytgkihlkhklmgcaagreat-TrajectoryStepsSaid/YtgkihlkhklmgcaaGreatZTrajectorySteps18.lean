/-
  Texts put together: Gc Gd Ge Gf.
-/
import Derived.Test.YtgkihlkhklmgcaaGreatZTrajectorySteps17
set_option linter.unusedVariables false
section
/-
  Walks: the leading joint of a motion, in the code and in the reference.
-/
namespace Go.Proofs.En
open Go.RowKit
def spdAt (js : List JV) (m : Nat) : Int := match js[m]? with
 | some j => j.speed
 | none => 0
def dAt (ps qs : List Int) (m : Nat) : Int := match ps[m]?, qs[m]? with
 | some p, some q => dd p q
 | _, _ => 0
theorem spdAt_of {js : List JV} {m : Nat} {j : JV} (h : js[m]? = some j) : spdAt js m = j.speed := by unfold spdAt; rw [h]
theorem dAt_of {ps qs : List Int} {m : Nat} {p q : Int} (hp : ps[m]? = some p) (hq : qs[m]? = some q) : dAt ps qs m = dd p q := by unfold dAt; rw [hp, hq]
/-- Whether joint k leads those that came first, of which m leads. -/
def leads (js : List JV) (ps qs : List Int) (m : Int) (k : Nat) : Bool := decide (0 < dAt ps qs k) && (decide (m < 0) || decide (spdAt js k * dAt ps qs m.toNat < spdAt js m.toNat * dAt ps qs k))
/-- The leading joint of the first k ones; -1: there is none. -/
def leadTo (js : List JV) (ps qs : List Int) : Nat → Int
 | 0 => -1
 | k + 1 => bif leads js ps qs (leadTo js ps qs k) k then (k : Int) else leadTo js ps qs k
theorem leadTo_cases (js : List JV) (ps qs : List Int) : ∀ k, leadTo js ps qs k = -1 ∨ ∃ m : Nat, leadTo js ps qs k = (m : Nat) ∧ m < k
 | 0 => .inl rfl
 | k + 1 => by
  unfold leadTo
  cases leads js ps qs (leadTo js ps qs k) k with
  | true => exact .inr ⟨k, rfl, Nat.lt_succ_self k⟩
  | false =>
   rcases leadTo_cases js ps qs k with h | ⟨m, h, hm⟩
   ·exact .inl h
   ·exact .inr ⟨m, h, by omega⟩
theorem leadTo_yes {js : List JV} {ps qs : List Int} {k : Nat} {l : Int} (hl : leadTo js ps qs k = l) (h : leads js ps qs l k = true) : leadTo js ps qs (k + 1) = (k : Nat) := by unfold leadTo; rw [hl, h]; rfl
theorem leadTo_no {js : List JV} {ps qs : List Int} {k : Nat} {l : Int} (hl : leadTo js ps qs k = l) (h : leads js ps qs l k = false) : leadTo js ps qs (k + 1) = l := by unfold leadTo; rw [hl, h]; rfl
/-- The bounds of a joint that stands. -/
theorem joint_sp {js : List JV} {j : JV} {k : Int} (h : checkJ js j k = 0) : (1 ≤ j.speed ∧ j.speed ≤ 1048576) ∧ (1 ≤ j.accel ∧ j.accel ≤ 1048576) := by
 unfold checkJ at h
 split at h
 ·cases h
 ·split at h
  ·cases h
  ·split at h
   ·cases h
   ·split at h
    ·cases h
    ·split at h
     ·cases h
     ·split at h
      ·cases h
      ·rename_i h1
       simp only [from1B, Bool.or_eq_true, Bool.not_eq_true', decide_eq_false_iff_not, not_or, Decidable.not_not] at h1
       exact ⟨h1.1.1.2, h1.1.2⟩
def LeadP (P : Prop) (l : Int) (w : World) (e : Ending) (w' : World) : Prop :=
 Below w.heap.size w w' ∧ ((¬ P ∧ e = .returned (.tuple #[.int .i64 0, .bool false])) ∨ (P ∧ e = .returned (.tuple #[.int .i64 (max l 0), .bool (decide (0 ≤ l))])))
set_option maxRecDepth 100000 in
set_option maxHeartbeats 8000000 in
theorem lead16 (oa om op oq : Option Addr) (cap mcap pcap qcap : Nat) (js : List JV) (ms : List MV) (ps qs : List Int) (w : World) (hj : js.length ≤ 100) (hl : ms.length ≤ 9223372036854775807) (hp : ps.length ≤ 100) (hq : qs.length ≤ 100) (hJ : Sl w oa 12 (js.map JV.vals)) (hM : Sl w om 5 (ms.map MV.vals)) (hP : Sl w op 1 (pvals ps)) (hQ : Sl w oq 1 (pvals qs)) :
  Calls Tryz.prog 16 #[.agg #[.slice oa js.length cap, .slice om ms.length mcap], .slice op ps.length pcap, .slice oq qs.length qcap] w (LeadP (bothIn js ms ps qs) (leadTo js ps qs js.length) w) := by
 generalize hr : bothIn js ms ps qs = r
 unfold bothIn at hr
 have HR := Lib.hid hr
 clear hr
 go_enter Tryz.func16, Tryz.ntmps16
 go_wp2_with fail
 have hW0 : KW w w.heap.size oa om [.slice oa js.length cap, .slice om ms.length mcap] js ms (w.alloc (.cells #[.slice oa js.length cap, .slice om ms.length mcap] 25)) := ⟨(Below.refl _ _).alloc (Nat.le_refl _) _, Row.new w [.slice oa js.length cap, .slice om ms.length mcap] 25, hJ.keep ((Below.refl _ _).alloc (Nat.le_refl _) _), hM.keep ((Below.refl _ _).alloc (Nat.le_refl _) _)⟩
 have hP0 := hP.keep (w' := (w.alloc (.cells #[.slice oa js.length cap, .slice om ms.length mcap] 25))) ((Below.refl _ _).alloc (Nat.le_refl _) _)
 have hQ0 := hQ.keep (w' := (w.alloc (.cells #[.slice oa js.length cap, .slice om ms.length mcap] 25))) ((Below.refl _ _).alloc (Nat.le_refl _) _)
 generalize (w.alloc (.cells #[.slice oa js.length cap, .slice om ms.length mcap] 25)) = W0 at hW0 hP0 hQ0 ⊢
 generalize hn1 : w.heap.size = n1 at hW0 ⊢
 have HN := Lib.hid hn1
 clear hn1
 refine (inside_any oa om op cap mcap pcap js ms ps _ hj hl hp hW0.rJ hW0.rM hP0).mono ?_
 rintro e W1 ⟨b1, rfl, hb1, hB1⟩
 have hW1 := hW0.keep hB1
 have hQ1 := hQ0.keep hB1
 have HB1 := Lib.hid hb1
 clear hW0 hP0 hQ0 hB1 hb1
 have s0 : W1.cell? ⟨n1, 0, none⟩ = some (.slice oa js.length cap) := hW1.r1.c 0 _ rfl
 have s1 : W1.cell? ⟨n1, 1, none⟩ = some (.slice om ms.length mcap) := hW1.r1.c 1 _ rfl
 have lt1 := hW1.r1.lt
 cases b1 with
 | false =>
  go_wp2
  go_ret2
  refine ⟨hW1.bel, .inl ⟨?_, rfl⟩⟩
  rw [← HR.out]
  exact fun h => absurd (HB1.out.2 h.1) (by simp)
 | true =>
  go_wp2_with fail
  refine (inside_any oa om oq cap mcap qcap js ms qs _ hj hl hq hW1.rJ hW1.rM hQ1).mono ?_
  rintro e W2 ⟨b2, rfl, hb2, hB2⟩
  have hW2 := hW1.keep hB2
  have HB2 := Lib.hid hb2
  clear hW1 hQ1 hB2 hb2 s0 s1 lt1
  cases b2 with
  | false =>
   go_wp2
   go_ret2
   refine ⟨hW2.bel, .inl ⟨?_, rfl⟩⟩
   rw [← HR.out]
   exact fun h => absurd (HB2.out.2 h.2) (by simp)
  | true =>
   have hin1 := HB1.out.1 (by trivial)
   have hin2 := HB2.out.1 (by trivial)
   have HI : Hid r := Lib.hid (by rw [← HR.out]; exact ⟨hin1, hin2⟩)
   have HOK := Lib.hid hin1.1.2.1
   have HP1 := Lib.hid hin1.2.2
   have HQ1 := Lib.hid hin2.2.2
   have L1 := hin1.2.1
   have L2 := hin2.2.1
   have l1a : ps.length ≤ js.length := by omega
   have l1b : js.length ≤ ps.length := by omega
   have l2a : qs.length ≤ js.length := by omega
   have l2b : js.length ≤ qs.length := by omega
   clear L1 L2 hin1 hin2 HB1 HB2 HR
   have s0 : W2.cell? ⟨n1, 0, none⟩ = some (.slice oa js.length cap) := hW2.r1.c 0 _ rfl
   have s1 : W2.cell? ⟨n1, 1, none⟩ = some (.slice om ms.length mcap) := hW2.r1.c 1 _ rfl
   have lt1 := hW2.r1.lt
   go_wp2_with fail
   go_loopw [8, 25] (fun v i W => ∃ k : Nat, k ≤ js.length ∧ i = .int .i64 k ∧ v = .int .i64 (leadTo js ps qs k) ∧ Below w.heap.size w W ∧ Row W n1 [.slice oa js.length cap, .slice om ms.length mcap]) (fun _ i _ => js.length - (intOf i).toNat)
   case atStart => exact ⟨0, by omega, rfl, rfl, hW2.bel, hW2.r1⟩
   case round =>
    clear hW2 s0 s1 lt1
    obtain ⟨k, hk, rfl, rfl, hBel, hRow⟩ := hrel
    generalize hL : leadTo js ps qs k = L
    by_cases hlt : k < js.length
    ·skip
     obtain ⟨j, hj'⟩ : ∃ j, js[k]? = some j := ⟨_, List.getElem?_eq_getElem hlt⟩
     obtain ⟨p, hp'⟩ : ∃ p, ps[k]? = some p := ⟨_, List.getElem?_eq_getElem (by omega)⟩
     obtain ⟨q, hq'⟩ : ∃ q, qs[k]? = some q := ⟨_, List.getElem?_eq_getElem (by omega)⟩
     have bj := joint_bd (HOK.out k j hj')
     have sj := joint_sp (HOK.out k j hj')
     have b1 := HP1.out k j p hj' hp'
     have b2 := HQ1.out k j q hj' hq'
     have bp : -4194304 ≤ p ∧ p ≤ 4194304 := by omega
     have bq : -4194304 ≤ q ∧ q ≤ 4194304 := by omega
     have hd0 := dd_nn p q
     have hd1 := dd_bd bp bq
     have hsp := spdAt_of hj'
     have hda := dAt_of hp' hq'
     obtain ⟨b, off, rfl, hJr⟩ := (hJ.keep hBel) (jvals_ne hlt)
     have x0 : wr.cell? ⟨b, off + k * 12, none⟩ = some (.string j.name) := hJr.c k _ (rows_get hj') 0 _ rfl
     have x1 : wr.cell? ⟨b, off + k * 12 + 1, none⟩ = some (.int .i64 j.kind) := hJr.c k _ (rows_get hj') 1 _ rfl
     have x2 : wr.cell? ⟨b, off + k * 12 + 2, none⟩ = some (.int .i64 j.parent) := hJr.c k _ (rows_get hj') 2 _ rfl
     have x3 : wr.cell? ⟨b, off + k * 12 + 3, none⟩ = some (.int .i64 j.o0) := hJr.c k _ (rows_get hj') 3 _ rfl
     have x4 : wr.cell? ⟨b, off + k * 12 + 4, none⟩ = some (.int .i64 j.o1) := hJr.c k _ (rows_get hj') 4 _ rfl
     have x5 : wr.cell? ⟨b, off + k * 12 + 5, none⟩ = some (.int .i64 j.o2) := hJr.c k _ (rows_get hj') 5 _ rfl
     have x6 : wr.cell? ⟨b, off + k * 12 + 6, none⟩ = some (.int .i64 j.lo) := hJr.c k _ (rows_get hj') 6 _ rfl
     have x7 : wr.cell? ⟨b, off + k * 12 + 7, none⟩ = some (.int .i64 j.hi) := hJr.c k _ (rows_get hj') 7 _ rfl
     have x8 : wr.cell? ⟨b, off + k * 12 + 8, none⟩ = some (.int .i64 j.weight) := hJr.c k _ (rows_get hj') 8 _ rfl
     have x9 : wr.cell? ⟨b, off + k * 12 + 9, none⟩ = some (.int .i64 j.speed) := hJr.c k _ (rows_get hj') 9 _ rfl
     have x10 : wr.cell? ⟨b, off + k * 12 + 10, none⟩ = some (.int .i64 j.accel) := hJr.c k _ (rows_get hj') 10 _ rfl
     have x11 : wr.cell? ⟨b, off + k * 12 + 11, none⟩ = some (.int .i64 j.torque) := hJr.c k _ (rows_get hj') 11 _ rfl
     have HBel := Lib.hid hBel
     have HRow := Lib.hid hRow
     have s0 : wr.cell? ⟨n1, 0, none⟩ = some (.slice (some ⟨b, off, none⟩) js.length cap) := hRow.c 0 _ rfl
     have lt1 := hRow.lt
     go_upto_region 7 with fail
     have hBV : Below wr.heap.size wr (wr.alloc (.cells #[.string j.name, .int .i64 j.kind, .int .i64 j.parent, .int .i64 j.o0, .int .i64 j.o1, .int .i64 j.o2, .int .i64 j.lo, .int .i64 j.hi, .int .i64 j.weight, .int .i64 j.speed, .int .i64 j.accel, .int .i64 j.torque] 64)) := (Below.refl _ _).alloc (Nat.le_refl _) _
     have hrow := Row.new wr [.string j.name, .int .i64 j.kind, .int .i64 j.parent, .int .i64 j.o0, .int .i64 j.o1, .int .i64 j.o2, .int .i64 j.lo, .int .i64 j.hi, .int .i64 j.weight, .int .i64 j.speed, .int .i64 j.accel, .int .i64 j.torque] 64
     have hRV := hRow.keep hBV
     have hJV := hJr.keep hBV
     have hPV := (hP.keep hBel).keep hBV
     have hQV := (hQ.keep hBel).keep hBV
     have HX := Lib.hid hBV
     clear hJr hBel hRow x0 x1 x2 x3 x4 x5 x6 x7 x8 x9 x10 x11 s0 lt1
     generalize (wr.alloc (.cells #[.string j.name, .int .i64 j.kind, .int .i64 j.parent, .int .i64 j.o0, .int .i64 j.o1, .int .i64 j.o2, .int .i64 j.lo, .int .i64 j.hi, .int .i64 j.weight, .int .i64 j.speed, .int .i64 j.accel, .int .i64 j.torque] 64)) = V at hBV hrow hRV hJV hPV hQV HX ⊢
     clear hBV
     generalize hn10 : wr.heap.size = n10 at hrow HX ⊢
     have HN10 := Lib.hid hn10
     clear hn10
     have HDI := Lib.hid (fun W (h1 : Sl W op 1 (pvals ps)) (h2 : Sl W oq 1 (pvals qs)) => dist28 op oq pcap qcap k ps qs p q W h1 h2 hp' hq' bp bq hp hq)
     generalize dd p q = D at hd0 hd1 hda HDI
     clear bp bq b1 b2 bj
     go_wp2_with fail
     refine (HDI.out _ hPV hQV).mono ?_
     rintro e w1 ⟨rfl, nd, rfl⟩
     have hVd : Below V.heap.size V (V.drewN nd) := below_drew V nd
     have hrow2 := hrow.keep hVd
     have hRV2 := hRV.keep hVd
     have hJV2 := hJV.keep hVd
     have hPV2 := hPV.keep hVd
     have hQV2 := hQV.keep hVd
     have HX2 := Lib.hid (below_call (w := wr) (by rw [HN10.out]; exact HX.out) hVd)
     clear hrow hRV hJV hPV hQV HX
     generalize V.drewN nd = U at hVd hrow2 hRV2 hJV2 hPV2 hQV2 HX2 ⊢
     clear hVd
     have t9 : U.cell? ⟨n10, 9, none⟩ = some (.int .i64 j.speed) := hrow2.c 9 _ rfl
     have s0 : U.cell? ⟨n1, 0, none⟩ = some (.slice (some ⟨b, off, none⟩) js.length cap) := hRV2.c 0 _ rfl
     have HP2 := Lib.hid hPV2
     have HQ2 := Lib.hid hQV2
     have HR2 := Lib.hid hRV2
     have HBU : Hid (Below w.heap.size w U) := Lib.hid (by have := HBel.out; exact this.trans ((show Below wr.heap.size wr U from HX2.out).mono this.size))
     rcases Int.lt_or_eq_of_le hd0 with hpos | hzero
     ·have g0 : decide (0 < D) = true := by simp; exact hpos
      rcases leadTo_cases js ps qs k with h | ⟨m, h, hm⟩
      ·have hLm : L = -1 := by rw [← hL, h]
       subst hLm
       have HN := Lib.hid (leadTo_yes hL (by unfold leads; rw [hda, g0]; simp))
       clear hrow2 hRV2 hJV2 hPV2 hQV2 hL h hsp hda
       go_wp2_with fail
       go_quiet (fail)
       go_wp2
       go_roundw
       case rel => exact ⟨k + 1, by omega, by simp, by rw [HN.out], below_drewN HBU.out nq, (HR2.out.keep (below_drew U nq))⟩
       case measure => simp [intOf]; omega
      ·have hLm : L = (m : Nat) := by rw [← hL, h]
       subst hLm
       have gm : decide ((m : Int) < 0) = false := by simp
       obtain ⟨j', hj2⟩ : ∃ j', js[m]? = some j' := ⟨_, List.getElem?_eq_getElem (by omega)⟩
       obtain ⟨p', hp2⟩ : ∃ p', ps[m]? = some p' := ⟨_, List.getElem?_eq_getElem (by omega)⟩
       obtain ⟨q', hq2⟩ : ∃ q', qs[m]? = some q' := ⟨_, List.getElem?_eq_getElem (by omega)⟩
       have bj2 := joint_bd (HOK.out m j' hj2)
       have sj2 := joint_sp (HOK.out m j' hj2)
       have b3 := HP1.out m j' p' hj2 hp2
       have b4 := HQ1.out m j' q' hj2 hq2
       have hda2 := dAt_of hp2 hq2
       have hsp2 := spdAt_of hj2
       have d0 := dd_nn p' q'
       have d1 := dd_bd (p := p') (q := q') (by omega) (by omega)
       have HDI2 := Lib.hid (fun W (h1 : Sl W op 1 (pvals ps)) (h2 : Sl W oq 1 (pvals qs)) => dist28 op oq pcap qcap m ps qs p' q' W h1 h2 hp2 hq2 (by omega) (by omega) hp hq)
       generalize dd p' q' = D2 at d0 d1 hda2 HDI2
       have x9 : U.cell? ⟨b, off + m * 12 + 9, none⟩ = some (.int .i64 j'.speed) := hJV2.c m _ (rows_get hj2) 9 _ rfl
       have hle : leads js ps qs (m : Nat) k = decide (j.speed * D2 < j'.speed * D) := by
        unfold leads
        have e0 : decide ((m : Int) < 0) = false := by simp
        rw [hda, g0, e0, hsp, Int.toNat_natCast, hda2, hsp2]; rfl
       have m1 : 0 ≤ j.speed * D2 ∧ j.speed * D2 ≤ 8796093022208 := ⟨Int.mul_nonneg (by omega) d0, by have := Int.mul_le_mul sj.1.2 d1 d0 (by omega); omega⟩
       have m2 : 0 ≤ j'.speed * D ∧ j'.speed * D ≤ 8796093022208 := ⟨Int.mul_nonneg (by omega) hd0, by have := Int.mul_le_mul sj2.1.2 hd1 hd0 (by omega); omega⟩
       obtain ⟨A1, hA1⟩ : ∃ A, j.speed * D2 = A := ⟨_, rfl⟩
       obtain ⟨A2, hA2⟩ : ∃ A, j'.speed * D = A := ⟨_, rfl⟩
       rw [hA1] at m1 hle
       rw [hA2] at m2 hle
       have w1 : IntKind.i64.wrap (j.speed * D2) = A1 := by rw [hA1, IntKind.wrap_i64]; omega
       have w2 : IntKind.i64.wrap (j'.speed * D) = A2 := by rw [hA2, IntKind.wrap_i64]; omega
       clear hA1 hA2
       cases hc : decide (A1 < A2) with
       | true =>
        have HN := Lib.hid (leadTo_yes hL (by rw [hle, hc]))
        clear hrow2 hRV2 hJV2 hPV2 hQV2 hL h hsp hda hsp2 hda2 hle m1 m2 b3 b4 bj2 sj sj2 d0 d1
        go_wp2_with fail
        go_quiet ((go_at_call 28; exact Calls.quiet_of (HDI2.out _ (HP2.out.keep (below_drew _ _)) (HQ2.out.keep (below_drew _ _)))))
        go_wp2
        go_roundw
        case rel => exact ⟨k + 1, by omega, by simp, by rw [HN.out], below_drewN HBU.out nq, (HR2.out.keep (below_drew U nq))⟩
        case measure => simp [intOf]; omega
       | false =>
        have HN := Lib.hid (leadTo_no hL (by rw [hle, hc]))
        clear hrow2 hRV2 hJV2 hPV2 hQV2 hL h hsp hda hsp2 hda2 hle m1 m2 b3 b4 bj2 sj sj2 d0 d1
        go_wp2_with fail
        go_quiet ((go_at_call 28; exact Calls.quiet_of (HDI2.out _ (HP2.out.keep (below_drew _ _)) (HQ2.out.keep (below_drew _ _)))))
        go_wp2
        go_roundw
        case rel => exact ⟨k + 1, by omega, by simp, by rw [HN.out], below_drewN HBU.out nq, (HR2.out.keep (below_drew U nq))⟩
        case measure => simp [intOf]; omega
     ·have hD0 : D = 0 := hzero.symm
      subst hD0
      have HN := Lib.hid (leadTo_no hL (by unfold leads; rw [hda]; rfl))
      clear hrow2 hRV2 hJV2 hPV2 hQV2 hL hsp hda
      go_wp2_with fail
      go_quiet (fail)
      go_wp2
      go_roundw
      case rel => exact ⟨k + 1, by omega, by simp, by rw [HN.out], below_drewN HBU.out nq, (HR2.out.keep (below_drew U nq))⟩
      case measure => simp [intOf]; omega
    ·have hke : k = js.length := by omega
     subst hke
     have HBel := Lib.hid hBel
     have HL := Lib.hid hL
     have HLC := Lib.hid (leadTo_cases js ps qs js.length)
     by_cases hneg : L < 0
     ·have g0 : decide (L < 0) = true := by simp; exact hneg
      go_wp2
      go_ret2
      refine ⟨HBel.out, .inr ⟨HI.out, ?_⟩⟩
      have e1 : max L 0 = 0 := by omega
      have e2 : decide (0 ≤ L) = false := by simp; omega
      try rw [show leadTo js ps qs js.length = L from HL.out]
      rw [e1, e2]
      rfl
     ·have g0 : decide (L < 0) = false := by simp; omega
      go_wp2
      go_ret2
      refine ⟨HBel.out, .inr ⟨HI.out, ?_⟩⟩
      have e1 : max L 0 = L := by omega
      have e2 : decide (0 ≤ L) = true := by simp; omega
      try rw [show leadTo js ps qs js.length = L from HL.out]
      rw [e1, e2]
      rfl
end Go.Proofs.En
end

section
/-
  Walks: the leading joint of a motion, in the reference.
-/
namespace Go.Proofs.En
open Go.RowKit
set_option maxRecDepth 100000 in
set_option maxHeartbeats 8000000 in
theorem lead17 (oa om op oq : Option Addr) (cap mcap pcap qcap : Nat) (js : List JV) (ms : List MV) (ps qs : List Int) (w : World) (hj : js.length ≤ 100) (hl : ms.length ≤ 9223372036854775807) (hp : ps.length ≤ 100) (hq : qs.length ≤ 100) (hJ : Sl w oa 12 (js.map JV.vals)) (hM : Sl w om 5 (ms.map MV.vals)) (hP : Sl w op 1 (pvals ps)) (hQ : Sl w oq 1 (pvals qs)) :
  Calls Tryz.prog 17 #[.agg #[.slice oa js.length cap, .slice om ms.length mcap], .slice op ps.length pcap, .slice oq qs.length qcap] w (LeadP (bothIn js ms ps qs) (leadTo js ps qs js.length) w) := by
 generalize hr : bothIn js ms ps qs = r
 unfold bothIn at hr
 have HR := Lib.hid hr
 clear hr
 go_enter Tryz.func17, Tryz.ntmps17
 go_wp2_with fail
 have hW0 : KW w w.heap.size oa om [.slice oa js.length cap, .slice om ms.length mcap] js ms (w.alloc (.cells #[.slice oa js.length cap, .slice om ms.length mcap] 25)) := ⟨(Below.refl _ _).alloc (Nat.le_refl _) _, Row.new w [.slice oa js.length cap, .slice om ms.length mcap] 25, hJ.keep ((Below.refl _ _).alloc (Nat.le_refl _) _), hM.keep ((Below.refl _ _).alloc (Nat.le_refl _) _)⟩
 have hP0 := hP.keep (w' := (w.alloc (.cells #[.slice oa js.length cap, .slice om ms.length mcap] 25))) ((Below.refl _ _).alloc (Nat.le_refl _) _)
 have hQ0 := hQ.keep (w' := (w.alloc (.cells #[.slice oa js.length cap, .slice om ms.length mcap] 25))) ((Below.refl _ _).alloc (Nat.le_refl _) _)
 generalize (w.alloc (.cells #[.slice oa js.length cap, .slice om ms.length mcap] 25)) = W0 at hW0 hP0 hQ0 ⊢
 generalize hn1 : w.heap.size = n1 at hW0 ⊢
 have HN := Lib.hid hn1
 clear hn1
 refine (inside_ref oa om op cap mcap pcap js ms ps _ hj hl hp hW0.rJ hW0.rM hP0).mono ?_
 rintro e W1 ⟨b1, rfl, hb1, hB1⟩
 have hW1 := hW0.keep hB1
 have hQ1 := hQ0.keep hB1
 have HB1 := Lib.hid hb1
 clear hW0 hP0 hQ0 hB1 hb1
 have s0 : W1.cell? ⟨n1, 0, none⟩ = some (.slice oa js.length cap) := hW1.r1.c 0 _ rfl
 have s1 : W1.cell? ⟨n1, 1, none⟩ = some (.slice om ms.length mcap) := hW1.r1.c 1 _ rfl
 have lt1 := hW1.r1.lt
 cases b1 with
 | false =>
  go_wp2
  go_ret2
  refine ⟨hW1.bel, .inl ⟨?_, rfl⟩⟩
  rw [← HR.out]
  exact fun h => absurd (HB1.out.2 h.1) (by simp)
 | true =>
  go_wp2_with fail
  refine (inside_ref oa om oq cap mcap qcap js ms qs _ hj hl hq hW1.rJ hW1.rM hQ1).mono ?_
  rintro e W2 ⟨b2, rfl, hb2, hB2⟩
  have hW2 := hW1.keep hB2
  have HB2 := Lib.hid hb2
  clear hW1 hQ1 hB2 hb2 s0 s1 lt1
  cases b2 with
  | false =>
   go_wp2
   go_ret2
   refine ⟨hW2.bel, .inl ⟨?_, rfl⟩⟩
   rw [← HR.out]
   exact fun h => absurd (HB2.out.2 h.2) (by simp)
  | true =>
   have hin1 := HB1.out.1 (by trivial)
   have hin2 := HB2.out.1 (by trivial)
   have HI : Hid r := Lib.hid (by rw [← HR.out]; exact ⟨hin1, hin2⟩)
   have HOK := Lib.hid hin1.1.2.1
   have HP1 := Lib.hid hin1.2.2
   have HQ1 := Lib.hid hin2.2.2
   have L1 := hin1.2.1
   have L2 := hin2.2.1
   have l1a : ps.length ≤ js.length := by omega
   have l1b : js.length ≤ ps.length := by omega
   have l2a : qs.length ≤ js.length := by omega
   have l2b : js.length ≤ qs.length := by omega
   clear L1 L2 hin1 hin2 HB1 HB2 HR
   have s0 : W2.cell? ⟨n1, 0, none⟩ = some (.slice oa js.length cap) := hW2.r1.c 0 _ rfl
   have s1 : W2.cell? ⟨n1, 1, none⟩ = some (.slice om ms.length mcap) := hW2.r1.c 1 _ rfl
   have lt1 := hW2.r1.lt
   go_wp2_with fail
   go_loopw [8, 9] (fun v i W => ∃ k : Nat, k ≤ js.length ∧ i = .int .i64 k ∧ v = .int .i64 (leadTo js ps qs k) ∧ Below w.heap.size w W ∧ Row W n1 [.slice oa js.length cap, .slice om ms.length mcap]) (fun _ i _ => js.length - (intOf i).toNat)
   case atStart => exact ⟨0, by omega, rfl, rfl, hW2.bel, hW2.r1⟩
   case round =>
    clear hW2 s0 s1 lt1
    obtain ⟨k, hk, rfl, rfl, hBel, hRow⟩ := hrel
    obtain ⟨U, rfl⟩ : ∃ X, X = wr := ⟨_, rfl⟩
    generalize hL : leadTo js ps qs k = L
    by_cases hlt : k < js.length
    ·skip
     have hltp : k < ps.length := by omega
     obtain ⟨j, hj'⟩ : ∃ j, js[k]? = some j := ⟨_, List.getElem?_eq_getElem hlt⟩
     obtain ⟨p, hp'⟩ : ∃ p, ps[k]? = some p := ⟨_, List.getElem?_eq_getElem (by omega)⟩
     obtain ⟨q, hq'⟩ : ∃ q, qs[k]? = some q := ⟨_, List.getElem?_eq_getElem (by omega)⟩
     have bj := joint_bd (HOK.out k j hj')
     have sj := joint_sp (HOK.out k j hj')
     have b1 := HP1.out k j p hj' hp'
     have b2 := HQ1.out k j q hj' hq'
     have bp : -4194304 ≤ p ∧ p ≤ 4194304 := by omega
     have bq : -4194304 ≤ q ∧ q ≤ 4194304 := by omega
     have hd0 := dd_nn p q
     have hd1 := dd_bd bp bq
     have hsp := spdAt_of hj'
     have hda := dAt_of hp' hq'
     obtain ⟨b, off, rfl, hJV2⟩ := (hJ.keep hBel) (jvals_ne hlt)
     have hPV2 := hP.keep hBel
     have hQV2 := hQ.keep hBel
     have s0 : U.cell? ⟨n1, 0, none⟩ = some (.slice (some ⟨b, off, none⟩) js.length cap) := hRow.c 0 _ rfl
     have lt1 := hRow.lt
     have HBU := Lib.hid hBel
     have HR2 := Lib.hid hRow
     have HP2 := Lib.hid hPV2
     have HQ2 := Lib.hid hQV2
     have HDI := Lib.hid (fun W (h1 : Sl W op 1 (pvals ps)) (h2 : Sl W oq 1 (pvals qs)) => dist34 op oq pcap qcap k ps qs p q W h1 h2 hp' hq' bp bq hp hq)
     generalize dd p q = D at hd0 hd1 hda HDI
     have x8 : U.cell? ⟨b, off + k * 12 + 9, none⟩ = some (.int .i64 j.speed) := hJV2.c k _ (rows_get hj') 9 _ rfl
     clear bp bq b1 b2 bj hBel hRow
     go_wp2_with fail
     refine (HDI.out _ hPV2 hQV2).mono ?_
     rintro e w1 ⟨rfl, nd, rfl⟩
     have hVd : Below U.heap.size U (U.drewN nd) := below_drew U nd
     replace HBU := Lib.hid (below_drewN HBU.out nd)
     replace HR2 := Lib.hid (HR2.out.keep hVd)
     replace HP2 := Lib.hid (HP2.out.keep hVd)
     replace HQ2 := Lib.hid (HQ2.out.keep hVd)
     replace hJV2 := hJV2.keep hVd
     clear hPV2 hQV2 s0 x8 lt1 hVd
     generalize U.drewN nd = V at HBU HR2 HP2 HQ2 hJV2 ⊢
     have s0 : V.cell? ⟨n1, 0, none⟩ = some (.slice (some ⟨b, off, none⟩) js.length cap) := HR2.out.c 0 _ rfl
     have lt1 := HR2.out.lt
     have x8 : V.cell? ⟨b, off + k * 12 + 9, none⟩ = some (.int .i64 j.speed) := hJV2.c k _ (rows_get hj') 9 _ rfl
     rcases Int.lt_or_eq_of_le hd0 with hpos | hzero
     ·have g0 : decide (0 < D) = true := by simp; exact hpos
      have g1 : (D == 0) = false := by simp; omega
      rcases leadTo_cases js ps qs k with h | ⟨m, h, hm⟩
      ·have hLm : L = -1 := by rw [← hL, h]
       subst hLm
       have HN := Lib.hid (leadTo_yes hL (by unfold leads; rw [hda, g0]; simp))
       clear hJV2 hL h hsp hda
       go_wp2_with fail
       go_quiet (fail)
       go_wp2
       go_roundw
       case rel => exact ⟨k + 1, by omega, by simp, by rw [HN.out], below_drewN HBU.out _, (HR2.out.keep (below_drew V _))⟩
       case measure => simp [intOf]; omega
      ·have hLm : L = (m : Nat) := by rw [← hL, h]
       subst hLm
       have gm : decide ((m : Int) < 0) = false := by simp
       obtain ⟨j', hj2⟩ : ∃ j', js[m]? = some j' := ⟨_, List.getElem?_eq_getElem (by omega)⟩
       obtain ⟨p', hp2⟩ : ∃ p', ps[m]? = some p' := ⟨_, List.getElem?_eq_getElem (by omega)⟩
       obtain ⟨q', hq2⟩ : ∃ q', qs[m]? = some q' := ⟨_, List.getElem?_eq_getElem (by omega)⟩
       have bj2 := joint_bd (HOK.out m j' hj2)
       have sj2 := joint_sp (HOK.out m j' hj2)
       have b3 := HP1.out m j' p' hj2 hp2
       have b4 := HQ1.out m j' q' hj2 hq2
       have hda2 := dAt_of hp2 hq2
       have hsp2 := spdAt_of hj2
       have d0 := dd_nn p' q'
       have d1 := dd_bd (p := p') (q := q') (by omega) (by omega)
       have HDI2 := Lib.hid (fun W (h1 : Sl W op 1 (pvals ps)) (h2 : Sl W oq 1 (pvals qs)) => dist34 op oq pcap qcap m ps qs p' q' W h1 h2 hp2 hq2 (by omega) (by omega) hp hq)
       generalize dd p' q' = D2 at d0 d1 hda2 HDI2
       have x9 : V.cell? ⟨b, off + m * 12 + 9, none⟩ = some (.int .i64 j'.speed) := hJV2.c m _ (rows_get hj2) 9 _ rfl
       have hle : leads js ps qs (m : Nat) k = decide (j.speed * D2 < j'.speed * D) := by
        unfold leads
        have e0 : decide ((m : Int) < 0) = false := by simp
        rw [hda, g0, e0, hsp, Int.toNat_natCast, hda2, hsp2]; rfl
       have m1 : 0 ≤ j.speed * D2 ∧ j.speed * D2 ≤ 8796093022208 := ⟨Int.mul_nonneg (by omega) d0, by have := Int.mul_le_mul sj.1.2 d1 d0 (by omega); omega⟩
       have m2 : 0 ≤ j'.speed * D ∧ j'.speed * D ≤ 8796093022208 := ⟨Int.mul_nonneg (by omega) hd0, by have := Int.mul_le_mul sj2.1.2 hd1 hd0 (by omega); omega⟩
       obtain ⟨A1, hA1⟩ : ∃ A, j.speed * D2 = A := ⟨_, rfl⟩
       obtain ⟨A2, hA2⟩ : ∃ A, j'.speed * D = A := ⟨_, rfl⟩
       rw [hA1] at m1 hle
       rw [hA2] at m2 hle
       have w1 : IntKind.i64.wrap (j.speed * D2) = A1 := by rw [hA1, IntKind.wrap_i64]; omega
       have w2 : IntKind.i64.wrap (j'.speed * D) = A2 := by rw [hA2, IntKind.wrap_i64]; omega
       clear hA1 hA2
       have hmj : m < js.length := by omega
       have HDV2 := Lib.hid (show ∀ W, Sl W op 1 (pvals ps) → Sl W oq 1 (pvals qs) → Calls Tryz.prog 34 #[.slice op ps.length pcap, .slice oq qs.length qcap, .int .i64 (m : Nat)] W (fun e w' => e = .returned (.int .i64 D2) ∧ ∃ n, w' = W.drewN n) from fun W h1 h2 => HDI2.out W h1 h2)
       have HDV := Lib.hid (show ∀ W, Sl W op 1 (pvals ps) → Sl W oq 1 (pvals qs) → Calls Tryz.prog 34 #[.slice op ps.length pcap, .slice oq qs.length qcap, .int .i64 (k : Nat)] W (fun e w' => e = .returned (.int .i64 D) ∧ ∃ n, w' = W.drewN n) from fun W h1 h2 => HDI.out W h1 h2)
       cases hc : decide (A1 < A2) with
       | true =>
        have HN := Lib.hid (leadTo_yes hL (by rw [hle, hc]))
        clear hJV2 hL h hsp hda hsp2 hda2 hle m1 m2 b3 b4 bj2 sj sj2 d0 d1
        go_wp2_with fail
        go_quiet ((go_at_call 34; first | (with_reducible exact Calls.quiet_of (HDV2.out _ (HP2.out.keep (below_drew _ _)) (HQ2.out.keep (below_drew _ _)))) | (with_reducible exact Calls.quiet_of (HDV.out _ (HP2.out.keep (below_drew _ _)) (HQ2.out.keep (below_drew _ _))))))
        go_wp2
        go_roundw
        case rel => exact ⟨k + 1, by omega, by simp, by rw [HN.out], below_drewN HBU.out _, (HR2.out.keep (below_drew V _))⟩
        case measure => simp [intOf]; omega
       | false =>
        have HN := Lib.hid (leadTo_no hL (by rw [hle, hc]))
        clear hJV2 hL h hsp hda hsp2 hda2 hle m1 m2 b3 b4 bj2 sj sj2 d0 d1
        go_wp2_with fail
        go_quiet ((go_at_call 34; first | (with_reducible exact Calls.quiet_of (HDV2.out _ (HP2.out.keep (below_drew _ _)) (HQ2.out.keep (below_drew _ _)))) | (with_reducible exact Calls.quiet_of (HDV.out _ (HP2.out.keep (below_drew _ _)) (HQ2.out.keep (below_drew _ _))))))
        go_wp2
        go_roundw
        case rel => exact ⟨k + 1, by omega, by simp, by rw [HN.out], below_drewN HBU.out _, (HR2.out.keep (below_drew V _))⟩
        case measure => simp [intOf]; omega
     ·have hD0 : D = 0 := hzero.symm
      subst hD0
      have HN := Lib.hid (leadTo_no hL (by unfold leads; rw [hda]; rfl))
      clear hJV2 hL hsp hda
      go_wp2
      go_roundw
      case rel => exact ⟨k + 1, by omega, by simp, by rw [HN.out], HBU.out, HR2.out⟩
      case measure => simp [intOf]; omega
    ·have hke : k = js.length := by omega
     subst hke
     have hltp : ¬ js.length < ps.length := by omega
     have HBel := Lib.hid hBel
     have HL := Lib.hid hL
     go_wp2
     go_ret2
     refine ⟨HBel.out, .inr ⟨HI.out, ?_⟩⟩
     first
      | rfl
      | (rw [show leadTo js ps qs js.length = L from HL.out]; rfl)
end Go.Proofs.En
end

section
/-
  The greatest difference of neighboring levels: as data; what both programs compute for one joint.
-/
namespace Go.Proofs.En
open Go.RowKit
def accAt (js : List JV) (m : Nat) : Int := match js[m]? with
 | some j => j.accel
 | none => 0
theorem accAt_of {js : List JV} {m : Nat} {j : JV} (h : js[m]? = some j) : accAt js m = j.accel := by unfold accAt; rw [h]
/-- What the limit of acceleration A of a joint that moves by e permits, where the leading joint moves by d at most at speed s. -/
def permits (A d e s g : Nat) : Nat := A * d * (d * 2 * 4096) / (e * 2 ^ g) / s / s
/-- The least one of the first k joints. -/
def stepTo (js : List JV) (ps qs : List Int) (d s g : Nat) : Nat → Nat
 | 0 => 4096
 | k + 1 => bif decide (0 < dAt ps qs k) then min (stepTo js ps qs d s g k) (permits (accAt js k).toNat d (dAt ps qs k).toNat s g) else stepTo js ps qs d s g k
theorem stepTo_le (js : List JV) (ps qs : List Int) (d s g : Nat) : ∀ k, stepTo js ps qs d s g k ≤ 4096
 | 0 => Nat.le_refl _
 | k + 1 => by
  unfold stepTo
  have := stepTo_le js ps qs d s g k
  cases decide (0 < dAt ps qs k) with
  | true => exact Nat.le_trans (Nat.min_le_left _ _) this
  | false => exact this
theorem stepTo_yes {js : List JV} {ps qs : List Int} {d s g k e A : Nat} (he : dAt ps qs k = (e : Nat)) (h0 : 0 < e) (hA : accAt js k = (A : Nat)) : stepTo js ps qs d s g (k + 1) = min (stepTo js ps qs d s g k) (permits A d e s g) := by
 conv => lhs; unfold stepTo
 have : decide (0 < ((e : Nat) : Int)) = true := by simp; exact h0
 rw [he, hA, this]; rfl
theorem stepTo_no {js : List JV} {ps qs : List Int} {d s g k : Nat} (he : dAt ps qs k = 0) : stepTo js ps qs d s g (k + 1) = stepTo js ps qs d s g k := by
 conv => lhs; unfold stepTo
 rw [he]; rfl
/-- The code divides in another order, and its growth is at most 4096. -/
theorem grow_permits (A d e s g m : Nat) (hm : m ≤ 4096) : min m (growN (s * s) (d * d * 4096) (2 * A) (e * 2 ^ g)) = min m (permits A d e s g) := by
 have e1 : 2 * A * (d * d * 4096) = A * d * (d * 2 * 4096) := by
  rw [Nat.mul_comm 2 A, Nat.mul_assoc, Nat.mul_assoc A d]
  congr 1
  rw [← Nat.mul_assoc, ← Nat.mul_assoc, Nat.mul_comm 2 d, Nat.mul_assoc d 2 d, Nat.mul_comm 2 d, Nat.mul_assoc]
 have e2 : A * d * (d * 2 * 4096) / (s * s) / (e * 2 ^ g) = permits A d e s g := by
  unfold permits
  rw [Nat.div_div_eq_div_mul, Nat.div_div_eq_div_mul, Nat.div_div_eq_div_mul, Nat.mul_comm (s * s), Nat.mul_assoc]
 unfold growN
 rw [e1, e2]
 omega
/-- What Step answers. -/
def StepP (P : Prop) (v : Nat) (w : World) (e : Ending) (w' : World) : Prop :=
 Below w.heap.size w w' ∧ ((¬ P ∧ e = .returned (.tuple #[.int .i64 0, .bool false])) ∨ (P ∧ e = .returned (.tuple #[.int .i64 (v : Nat), .bool true])))
/-- When it answers a number: a joint leads, and the grid is from 1 to 6. -/
def stepOk (P : Prop) (l g : Int) : Prop := (P ∧ 0 ≤ l) ∧ 1 ≤ g ∧ g ≤ 6
/-- The number. -/
def stepV (js : List JV) (ps qs : List Int) (g : Int) : Nat := stepTo js ps qs (dAt ps qs (leadTo js ps qs js.length).toNat).toNat (spdAt js (leadTo js ps qs js.length).toNat).toNat g.toNat js.length
end Go.Proofs.En
end

section
/-
  Walks: Step, in the code.
-/
namespace Go.Proofs.En
open Go.RowKit

theorem min_cast (a b : Nat) : ((min a b : Nat) : Int) = min (a : Int) (b : Int) := by omega
theorem below_of_drew {W X : World} {n : Nat} (h : X = W.drewN n) : Below W.heap.size W X := by subst h; exact below_drew W n
set_option maxRecDepth 100000 in
set_option maxHeartbeats 8000000 in
theorem step18 (oa om op oq : Option Addr) (cap mcap pcap qcap : Nat) (js : List JV) (ms : List MV) (ps qs : List Int) (g : Int) (w : World) (hj : js.length ≤ 100) (hl : ms.length ≤ 9223372036854775807) (hp : ps.length ≤ 100) (hq : qs.length ≤ 100) (hJ : Sl w oa 12 (js.map JV.vals)) (hM : Sl w om 5 (ms.map MV.vals)) (hP : Sl w op 1 (pvals ps)) (hQ : Sl w oq 1 (pvals qs)) :
    Calls Tryz.prog 18 #[.agg #[.slice oa js.length cap, .slice om ms.length mcap], .slice op ps.length pcap, .slice oq qs.length qcap, .int .i64 g] w (StepP (stepOk (bothIn js ms ps qs) (leadTo js ps qs js.length) g) (stepV js ps qs g) w) := by
  generalize hr : bothIn js ms ps qs = r
  have HR := Lib.hid hr
  clear hr
  go_enter Tryz.func18, Tryz.ntmps18
  go_wp2_with fail
  have hW0 : KW w w.heap.size oa om [.slice oa js.length cap, .slice om ms.length mcap] js ms (w.alloc (.cells #[.slice oa js.length cap, .slice om ms.length mcap] 25)) := ⟨(Below.refl _ _).alloc (Nat.le_refl _) _, Row.new w [.slice oa js.length cap, .slice om ms.length mcap] 25, hJ.keep ((Below.refl _ _).alloc (Nat.le_refl _) _), hM.keep ((Below.refl _ _).alloc (Nat.le_refl _) _)⟩
  have hP0 := hP.keep (w' := (w.alloc (.cells #[.slice oa js.length cap, .slice om ms.length mcap] 25))) ((Below.refl _ _).alloc (Nat.le_refl _) _)
  have hQ0 := hQ.keep (w' := (w.alloc (.cells #[.slice oa js.length cap, .slice om ms.length mcap] 25))) ((Below.refl _ _).alloc (Nat.le_refl _) _)
  generalize (w.alloc (.cells #[.slice oa js.length cap, .slice om ms.length mcap] 25)) = W0 at hW0 hP0 hQ0 ⊢
  generalize hn1 : w.heap.size = n1 at hW0 ⊢
  have HN := Lib.hid hn1
  clear hn1
  have HLC := Lib.hid (leadTo_cases js ps qs js.length)
  have HLD : Hid (∀ X, Sl X oa 12 (js.map JV.vals) → Sl X om 5 (ms.map MV.vals) → Sl X op 1 (pvals ps) → Sl X oq 1 (pvals qs) → Calls Tryz.prog 16 #[.agg #[.slice oa js.length cap, .slice om ms.length mcap], .slice op ps.length pcap, .slice oq qs.length qcap] X (LeadP r (leadTo js ps qs js.length) X)) := Lib.hid (fun X a b c d => by rw [← HR.out]; exact lead16 oa om op oq cap mcap pcap qcap js ms ps qs X hj hl hp hq a b c d)
  generalize hL : leadTo js ps qs js.length = L at HLD HLC ⊢
  have HL := Lib.hid hL
  clear hL
  refine (HLD.out _ hW0.rJ hW0.rM hP0 hQ0).mono ?_
  rintro e W1 ⟨hB1, hcs⟩
  have hW1 := hW0.keep hB1
  have hP1 := hP0.keep hB1
  have hQ1 := hQ0.keep hB1
  clear hW0 hP0 hQ0 hB1
  have s0 : W1.cell? ⟨n1, 0, none⟩ = some (.slice oa js.length cap) := hW1.r1.c 0 _ rfl
  have s1 : W1.cell? ⟨n1, 1, none⟩ = some (.slice om ms.length mcap) := hW1.r1.c 1 _ rfl
  have lt1 := hW1.r1.lt
  rcases hcs with ⟨hnr, rfl⟩ | ⟨hyr, rfl⟩
  · go_wp2
    go_ret2
    exact ⟨hW1.bel, .inl ⟨fun h => hnr h.1.1, rfl⟩⟩
  by_cases hL0 : 0 ≤ L
  rotate_left
  · have g0 : decide (0 ≤ L) = false := by simp; omega
    go_wp2
    go_ret2
    exact ⟨hW1.bel, .inl ⟨fun h => by have := h.1.2; have := HL.out; omega, rfl⟩⟩
  have g0 : decide (0 ≤ L) = true := by simp; exact hL0
  by_cases hg1 : g < 1
  · have g1 : decide (g < 1) = true := by simp; exact hg1
    go_wp2
    go_ret2
    exact ⟨hW1.bel, .inl ⟨fun h => by have := h.2.1; omega, rfl⟩⟩
  by_cases hg6 : 6 < g
  · have g1 : decide (g < 1) = false := by simp; omega
    have g2 : decide (6 < g) = true := by simp; exact hg6
    go_wp2
    go_ret2
    exact ⟨hW1.bel, .inl ⟨fun h => by have := h.2.2; omega, rfl⟩⟩
  obtain ⟨m, hLm, hmj⟩ : ∃ m : Nat, L = (m : Nat) ∧ m < js.length := by
    rcases HLC.out with h | h
    · omega
    · exact h
  subst hLm
  have hmx : max (m : Int) 0 = (m : Nat) := by omega
  obtain ⟨G, hG⟩ : ∃ G : Nat, g = (G : Nat) := ⟨g.toNat, by omega⟩
  subst hG
  have g1 : decide ((G : Int) < 1) = false := by simp; omega
  have g2 : decide (6 < (G : Int)) = false := by simp; omega
  have hG6 : G ≤ 6 := by omega
  have hG1 : 1 ≤ G := by omega
  have hBI : bothIn js ms ps qs := by rw [HR.out]; exact hyr
  have HOK := Lib.hid hBI.1.1.2.1
  have HP1 := Lib.hid hBI.1.2.2
  have HQ1 := Lib.hid hBI.2.2.2
  have L1 := hBI.1.2.1
  have L2 := hBI.2.2.1
  have l1a : ps.length ≤ js.length := by omega
  have l1b : js.length ≤ ps.length := by omega
  have l2a : qs.length ≤ js.length := by omega
  have l2b : js.length ≤ qs.length := by omega
  have HOKK := Lib.hid (show stepOk r (leadTo js ps qs js.length) ((G : Nat) : Int) from by rw [HL.out]; exact ⟨⟨hyr, hL0⟩, by omega, by omega⟩)
  clear hBI L1 L2 hL0 hg1 hg6 hyr HR HLD HLC
  obtain ⟨jm, hjm⟩ : ∃ j, js[m]? = some j := ⟨_, List.getElem?_eq_getElem hmj⟩
  obtain ⟨pm, hpm⟩ : ∃ p, ps[m]? = some p := ⟨_, List.getElem?_eq_getElem (by omega)⟩
  obtain ⟨qm, hqm⟩ : ∃ q, qs[m]? = some q := ⟨_, List.getElem?_eq_getElem (by omega)⟩
  have bjm := joint_bd (HOK.out m jm hjm)
  have sjm := joint_sp (HOK.out m jm hjm)
  have bm1 := HP1.out m jm pm hjm hpm
  have bm2 := HQ1.out m jm qm hjm hqm
  obtain ⟨D, hD⟩ : ∃ D : Nat, dd pm qm = (D : Nat) := ⟨(dd pm qm).toNat, by have := dd_nn pm qm; omega⟩
  have hDb : D ≤ 8388608 := by have := dd_bd (p := pm) (q := qm) (by omega) (by omega); omega
  obtain ⟨S, hS⟩ : ∃ S : Nat, jm.speed = (S : Nat) := ⟨jm.speed.toNat, by omega⟩
  have hS1 : 1 ≤ S := by omega
  have hSb : S ≤ 1048576 := by omega
  have HSV := Lib.hid (show stepV js ps qs ((G : Nat) : Int) = stepTo js ps qs D S G js.length from by unfold stepV; rw [HL.out, Int.toNat_natCast, dAt_of hpm hqm, spdAt_of hjm, hD, hS, Int.toNat_natCast, Int.toNat_natCast, Int.toNat_natCast])
  have HDI := Lib.hid (fun W (h1 : Sl W op 1 (pvals ps)) (h2 : Sl W oq 1 (pvals qs)) => (by have := dist28 op oq pcap qcap m ps qs pm qm W h1 h2 hpm hqm (by omega) (by omega) hp hq; rw [hD] at this; exact this : Calls Tryz.prog 28 #[.slice op ps.length pcap, .slice oq qs.length qcap, .int .i64 (m : Nat)] W (fun e w' => e = .returned (.int .i64 (D : Nat)) ∧ ∃ n, w' = W.drewN n)))
  have hJ1 := hW1.rJ
  obtain ⟨b, off, hoa, hJr⟩ := hJ1 (jvals_ne hmj)
  have xm : W1.cell? ⟨b, off + m * 12 + 9, none⟩ = some (.int .i64 (S : Nat)) := by rw [← hS]; exact hJr.c m _ (rows_get hjm) 9 _ rfl
  subst hoa
  have ltb := hJr.lt
  clear hJr hJ1 bjm sjm bm1 bm2 hjm hpm hqm hD hS HL
  go_upto_region 4 with fail
  have hmk : ∀ Y, Below W1.heap.size W1 Y → Y.cell? ⟨n1, 0, none⟩ = some (.slice (some ⟨b, off, none⟩) js.length cap) ∧ Y.cell? ⟨b, off + m * 12 + 9, none⟩ = some (.int .i64 (S : Nat)) ∧ Below W1.heap.size W1 Y := fun Y hY => ⟨(hY.cell (p := ⟨n1, 0, none⟩) lt1).trans s0, (hY.cell (p := ⟨b, off + m * 12 + 9, none⟩) ltb).trans xm, hY⟩
  have HMK := Lib.hid hmk
  have hSt := hmk W1 (Below.refl _ _)
  have HDX := Lib.hid (fun X (h : Below W1.heap.size W1 X) => HDI.out X (hP1.keep h) (hQ1.keep h))
  have HW1 := Lib.hid hW1
  have HPX := Lib.hid hP1
  have HQX := Lib.hid hQ1
  clear hmk hP1 hQ1 hW1 s0 s1 xm hJ hM hP hQ
  go_cut [12] (fun v12 X => ∃ n12 : Nat, v12 = .pointer (some ⟨n12, 0, none⟩) ∧ Blk X n12 [.int .u64 ((S : Int) * (S : Int)), .int .u64 ((D : Int) * (D : Int) * 4096)] ∧ Below W1.heap.size W1 X)
  case first =>
    go_region_held3 (fun X => X.cell? ⟨n1, 0, none⟩ = some (.slice (some ⟨b, off, none⟩) js.length cap) ∧ X.cell? ⟨b, off + m * 12 + 9, none⟩ = some (.int .i64 (S : Nat)) ∧ Below W1.heap.size W1 X)
      (first
        | assumption
        | exact hSt
        | exact HMK.out _ (by assumption : _ ∧ _ ∧ Below W1.heap.size W1 _).2.2.drew
        | exact HMK.out _ ((by assumption : _ ∧ _ ∧ Below W1.heap.size W1 _).2.2.alloc (by assumption : _ ∧ _ ∧ Below W1.heap.size W1 _).2.2.size _).drew
        | exact HMK.out _ ((by assumption : _ ∧ _ ∧ Below W1.heap.size W1 _).2.2.alloc (by assumption : _ ∧ _ ∧ Below W1.heap.size W1 _).2.2.size _)
        | exact HMK.out _ ((hSc.2.2.setCell (p := ⟨_, 0, none⟩) (by first | exact Nat.le_refl _ | exact hge | exact hSc.2.2.size) _).setCell (p := ⟨_, 1, none⟩) (by first | exact Nat.le_refl _ | exact hge | exact hSc.2.2.size) _)
        | exact HMK.out _ ((hSc.2.2.setCell (p := ⟨_, 0, none⟩) (by first | exact Nat.le_refl _ | exact hge | exact hSc.2.2.size) _).setCell (p := ⟨_, 1, none⟩) (by first | exact Nat.le_refl _ | exact hge | exact hSc.2.2.size) _).drew)
      (first
        | (go_at_call 28
           with_reducible refine (HDX.out _ (by assumption : _ ∧ _ ∧ Below W1.heap.size W1 _).2.2).mono ?_
           rintro e Xa ⟨rfl, nd, hXa⟩
           have hba := below_of_drew hXa
           have hSa := HMK.out _ (below_call (by assumption : _ ∧ _ ∧ Below W1.heap.size W1 _).2.2 hba)
           have hbk : Blk Xa W1.heap.size [.int .u64 0, .int .u64 0] := (Blk.new W1 [.int .u64 0, .int .u64 0] 94).keep (by first | exact hba | exact (Below.refl _ _).drew.trans hba)
           clear hXa hba)
        | (go_at_call 28
           with_reducible refine (HDX.out _ (by assumption : _ ∧ _ ∧ Below W1.heap.size W1 _).2.2).mono ?_
           rintro e Xa ⟨rfl, nd, hXa⟩
           have hba := below_of_drew hXa
           have hSa := HMK.out _ (below_call (by assumption : _ ∧ _ ∧ Below W1.heap.size W1 _).2.2 hba)
           clear hXa hba)
        | (go_at_call 35
           with_reducible refine (unit35 D S _ hDb hSb).mono ?_
           rintro e Xb ⟨rfl, hbb⟩
           have hSc := HMK.out _ (below_call (by assumption : _ ∧ _ ∧ Below W1.heap.size W1 _).2.2 hbb)
           have hbk2 : Blk Xb W1.heap.size [.int .u64 0, .int .u64 0] := hbk.keep (by first | exact hbb | exact (Below.refl _ _).drew.trans hbb)
           have k0 := hbk2.c 0 _ rfl
           have k1 := hbk2.c 1 _ rfl
           have f0 := hbk2.f 0
           have f1 := hbk2.f 1
           have l12 := hbk2.lt
           have HBK := Lib.hid hbk2
           clear hbk2 hbb)
        | (go_at_call 35
           with_reducible refine (unit35 D S _ hDb hSb).mono ?_
           rintro e Xb ⟨rfl, hbb⟩
           have hSc := HMK.out _ (below_call (by assumption : _ ∧ _ ∧ Below W1.heap.size W1 _).2.2 hbb)
           have hbk2 : Blk Xb Xa.heap.size [.int .u64 0, .int .u64 0] := (Blk.new Xa [.int .u64 0, .int .u64 0] 94).keep (by first | exact hbb | exact (Below.refl _ _).drew.trans hbb)
           have hge : W1.heap.size ≤ Xa.heap.size := hSa.2.2.size
           have k0 := hbk2.c 0 _ rfl
           have k1 := hbk2.c 1 _ rfl
           have f0 := hbk2.f 0
           have f1 := hbk2.f 1
           have l12 := hbk2.lt
           have HBK := Lib.hid hbk2
           clear hbk2 hbb)
        | (go_at_call 35
           with_reducible refine (unit35 D S _ hDb hSb).mono ?_
           rintro e Xb ⟨rfl, hbb⟩
           have hSc := HMK.out _ (below_call (by assumption : _ ∧ _ ∧ Below W1.heap.size W1 _).2.2 hbb)
           clear hbb))
    all_goals
      have HSC := Lib.hid hSc
      clear hSc hSt hSa
      go_wp2_with fail
      go_meet
      first
        | exact ⟨W1.heap.size, rfl, (HBK.out.put 0 _).put 1 _, (HSC.out.2.2.setCell (p := ⟨W1.heap.size, 0, none⟩) (Nat.le_refl _) _).setCell (p := ⟨W1.heap.size, 1, none⟩) (Nat.le_refl _) _⟩
        | exact ⟨Xa.heap.size, rfl, (HBK.out.put 0 _).put 1 _, (HSC.out.2.2.setCell (p := ⟨Xa.heap.size, 0, none⟩) hge _).setCell (p := ⟨Xa.heap.size, 1, none⟩) hge _⟩
        | exact ⟨Xb.heap.size, rfl, Blk.new Xb [.int .u64 ((S : Int) * (S : Int)), .int .u64 ((D : Int) * (D : Int) * 4096)] 94, HSC.out.2.2.alloc HSC.out.2.2.size _⟩
  case rest =>
    clear hSt
    obtain ⟨n12, rfl, hU, hbc⟩ := hcut
    obtain ⟨W2, rfl⟩ : ∃ X, X = wc := ⟨_, rfl⟩
    have hW2 := HW1.out.keep hbc
    have hP2 := HPX.out.keep hbc
    have hQ2 := HQX.out.keep hbc
    have s0 : W2.cell? ⟨n1, 0, none⟩ = some (.slice (some ⟨b, off, none⟩) js.length cap) := hW2.r1.c 0 _ rfl
    have lt1 := hW2.r1.lt
    go_wp2_with fail
    go_loopw [13, 48] (fun v i W => ∃ k : Nat, k ≤ js.length ∧ i = .int .i64 k ∧ v = .int .i64 ((stepTo js ps qs D S G k : Nat) : Int) ∧ KW w n1 (some ⟨b, off, none⟩) om [.slice (some ⟨b, off, none⟩) js.length cap, .slice om ms.length mcap] js ms W ∧ Sl W op 1 (pvals ps) ∧ Sl W oq 1 (pvals qs) ∧ Blk W n12 [.int .u64 ((S : Int) * (S : Int)), .int .u64 ((D : Int) * (D : Int) * 4096)]) (fun _ i _ => js.length - (intOf i).toNat)
    case atStart => exact ⟨0, by omega, rfl, rfl, hW2, hP2, hQ2, hU⟩
    case round =>
      clear hW2 hP2 hQ2 hU s0 lt1 hbc
      obtain ⟨k, hk, rfl, rfl, hW, hP, hQ, hU⟩ := hrel
      have htl := stepTo_le js ps qs D S G k
      generalize hT : stepTo js ps qs D S G k = T at htl ⊢
      by_cases hlt : k < js.length
      · skip
        obtain ⟨j, hj'⟩ : ∃ j, js[k]? = some j := ⟨_, List.getElem?_eq_getElem hlt⟩
        obtain ⟨p, hp'⟩ : ∃ p, ps[k]? = some p := ⟨_, List.getElem?_eq_getElem (by omega)⟩
        obtain ⟨q, hq'⟩ : ∃ q, qs[k]? = some q := ⟨_, List.getElem?_eq_getElem (by omega)⟩
        have bj := joint_bd (HOK.out k j hj')
        have sj := joint_sp (HOK.out k j hj')
        have b1 := HP1.out k j p hj' hp'
        have b2 := HQ1.out k j q hj' hq'
        have bp : -4194304 ≤ p ∧ p ≤ 4194304 := by omega
        have bq : -4194304 ≤ q ∧ q ≤ 4194304 := by omega
        have hd0 := dd_nn p q
        have hd1 := dd_bd bp bq
        have hsp := spdAt_of hj'
        have hda := dAt_of hp' hq'
        have hac := accAt_of hj'
        obtain ⟨A, hA⟩ : ∃ A : Nat, j.accel = (A : Nat) := ⟨j.accel.toNat, by omega⟩
        rw [hA] at hac
        obtain ⟨E, hE⟩ : ∃ E : Nat, dd p q = (E : Nat) := ⟨(dd p q).toNat, by omega⟩
        rw [hE] at hda hd1
        have hA2 : 1 ≤ A ∧ A ≤ 1048576 := by omega
        have HA := Lib.hid hA
        have HE := Lib.hid hE
        clear hA hE
        obtain ⟨bb, offf, hoa, hJr⟩ := hW.rJ (jvals_ne hlt)
        injection hoa with hoa
        injection hoa with e1 e2 _
        subst e1 e2
        have x0 : wr.cell? ⟨b, off + k * 12, none⟩ = some (.string j.name) := hJr.c k _ (rows_get hj') 0 _ rfl
        have x1 : wr.cell? ⟨b, off + k * 12 + 1, none⟩ = some (.int .i64 j.kind) := hJr.c k _ (rows_get hj') 1 _ rfl
        have x2 : wr.cell? ⟨b, off + k * 12 + 2, none⟩ = some (.int .i64 j.parent) := hJr.c k _ (rows_get hj') 2 _ rfl
        have x3 : wr.cell? ⟨b, off + k * 12 + 3, none⟩ = some (.int .i64 j.o0) := hJr.c k _ (rows_get hj') 3 _ rfl
        have x4 : wr.cell? ⟨b, off + k * 12 + 4, none⟩ = some (.int .i64 j.o1) := hJr.c k _ (rows_get hj') 4 _ rfl
        have x5 : wr.cell? ⟨b, off + k * 12 + 5, none⟩ = some (.int .i64 j.o2) := hJr.c k _ (rows_get hj') 5 _ rfl
        have x6 : wr.cell? ⟨b, off + k * 12 + 6, none⟩ = some (.int .i64 j.lo) := hJr.c k _ (rows_get hj') 6 _ rfl
        have x7 : wr.cell? ⟨b, off + k * 12 + 7, none⟩ = some (.int .i64 j.hi) := hJr.c k _ (rows_get hj') 7 _ rfl
        have x8 : wr.cell? ⟨b, off + k * 12 + 8, none⟩ = some (.int .i64 j.weight) := hJr.c k _ (rows_get hj') 8 _ rfl
        have x9 : wr.cell? ⟨b, off + k * 12 + 9, none⟩ = some (.int .i64 j.speed) := hJr.c k _ (rows_get hj') 9 _ rfl
        have x10 : wr.cell? ⟨b, off + k * 12 + 10, none⟩ = some (.int .i64 j.accel) := hJr.c k _ (rows_get hj') 10 _ rfl
        have x11 : wr.cell? ⟨b, off + k * 12 + 11, none⟩ = some (.int .i64 j.torque) := hJr.c k _ (rows_get hj') 11 _ rfl
        have s0 : wr.cell? ⟨n1, 0, none⟩ = some (.slice (some ⟨b, off, none⟩) js.length cap) := hW.r1.c 0 _ rfl
        have lt1 := hW.r1.lt
        go_upto_region 9 with fail
        have hBV : Below wr.heap.size wr (wr.alloc (.cells #[.string j.name, .int .i64 j.kind, .int .i64 j.parent, .int .i64 j.o0, .int .i64 j.o1, .int .i64 j.o2, .int .i64 j.lo, .int .i64 j.hi, .int .i64 j.weight, .int .i64 j.speed, .int .i64 j.accel, .int .i64 j.torque] 64)) := (Below.refl _ _).alloc (Nat.le_refl _) _
        have hrow := Row.new wr [.string j.name, .int .i64 j.kind, .int .i64 j.parent, .int .i64 j.o0, .int .i64 j.o1, .int .i64 j.o2, .int .i64 j.lo, .int .i64 j.hi, .int .i64 j.weight, .int .i64 j.speed, .int .i64 j.accel, .int .i64 j.torque] 64
        have hWV := hW.keep hBV
        have hPV := hP.keep hBV
        have hQV := hQ.keep hBV
        have hUV := hU.keep hBV
        clear hJr hW hP hQ hU x0 x1 x2 x3 x4 x5 x6 x7 x8 x9 x10 x11 s0 lt1
        generalize (wr.alloc (.cells #[.string j.name, .int .i64 j.kind, .int .i64 j.parent, .int .i64 j.o0, .int .i64 j.o1, .int .i64 j.o2, .int .i64 j.lo, .int .i64 j.hi, .int .i64 j.weight, .int .i64 j.speed, .int .i64 j.accel, .int .i64 j.torque] 64)) = V at hBV hrow hWV hPV hQV hUV ⊢
        clear hBV
        generalize wr.heap.size = n15 at hrow ⊢
        have HDK := Lib.hid (fun W (h1 : Sl W op 1 (pvals ps)) (h2 : Sl W oq 1 (pvals qs)) => (by have := dist28 op oq pcap qcap k ps qs p q W h1 h2 hp' hq' bp bq hp hq; rw [HE.out] at this; exact this : Calls Tryz.prog 28 #[.slice op ps.length pcap, .slice oq qs.length qcap, .int .i64 (k : Nat)] W (fun e w' => e = .returned (.int .i64 (E : Nat)) ∧ ∃ n, w' = W.drewN n)))
        clear bp bq b1 b2 bj sj hd0
        go_wp2_with fail
        refine (HDK.out _ hPV hQV).mono ?_
        rintro e w1 ⟨rfl, nd, rfl⟩
        have hVd : Below V.heap.size V (V.drewN nd) := below_drew V nd
        have hrow2 := hrow.keep hVd
        have hWU := hWV.keep hVd
        have hPU := hPV.keep hVd
        have hQU := hQV.keep hVd
        have hUU := hUV.keep hVd
        clear hrow hWV hPV hQV hUV
        generalize V.drewN nd = U at hVd hrow2 hWU hPU hQU hUU ⊢
        clear hVd
        rcases Nat.eq_zero_or_pos E with hE0 | hE0
        · subst hE0
          have HN := Lib.hid (show stepTo js ps qs D S G (k + 1) = T from by rw [stepTo_no hda, hT])
          have HWU := Lib.hid hWU
          have HPU := Lib.hid hPU
          have HQU := Lib.hid hQU
          have HUU := Lib.hid hUU
          clear hrow2 hWU hPU hQU hUU hda hT
          go_wp2
          go_roundw
          case rel => exact ⟨k + 1, by omega, by simp, by rw [HN.out], HWU.out, HPU.out, HQU.out, HUU.out⟩
          case measure => simp [intOf]; omega
        · have g0 : decide (0 < (E : Int)) = true := by simp; exact hE0
          have hpw : 2 ^ G ≤ 64 := Nat.pow_le_pow_right (n := 2) (by decide) hG6
          have hpw0 : 0 < 2 ^ G := Nat.two_pow_pos G
          obtain ⟨B, hB⟩ : ∃ B, E * 2 ^ G = B := ⟨_, rfl⟩
          have hB2 : 1 ≤ B ∧ B ≤ 536870912 := by
            have h1 := Nat.mul_le_mul (show E ≤ 8388608 by omega) hpw
            have h2 := Nat.mul_pos hE0 hpw0
            omega
          have c2 : ((2 : Int) ^ G) = ((2 ^ G : Nat) : Int) := by norm_cast
          have eb0 : (E : Int) * 2 ^ G = (B : Nat) := by rw [c2, ← Int.natCast_mul, hB]
          have eb : IntKind.i64.wrap ((E : Int) * 2 ^ G) = (B : Nat) := by rw [eb0, IntKind.wrap_i64]; omega
          have eb2 : IntKind.i64.wrap (B : Int) = (B : Nat) := by rw [IntKind.wrap_i64]; omega
          obtain ⟨A2, hAA⟩ : ∃ n, 2 * A = n := ⟨_, rfl⟩
          have ea : 2 * (A : Int) = (A2 : Nat) := by omega
          have ea2 : IntKind.i64.wrap (A2 : Int) = (A2 : Nat) := by rw [IntKind.wrap_i64]; omega
          have hSS : S * S ≤ 1099511627776 := Nat.mul_le_mul hSb hSb
          have hDD : D * D ≤ 70368744177664 := Nat.mul_le_mul hDb hDb
          have hSS0 : 0 < S * S := Nat.mul_pos hS1 hS1
          obtain ⟨gv, hgv⟩ : ∃ n, growN (S * S) (D * D * 4096) A2 B = n := ⟨_, rfl⟩
          have HGR := Lib.hid (fun X => (by have := growth36 (S * S) (D * D * 4096) A2 B X hSS0 hSS (by omega) (by omega) (by omega) (by omega); rw [hgv] at this; push_cast at this; exact this : Calls Tryz.prog 36 #[.agg #[.int .u64 ((S : Int) * (S : Int)), .int .u64 ((D : Int) * (D : Int) * 4096)], .int .i64 (A2 : Nat), .int .i64 (B : Nat)] X (fun e w' => e = .returned (.int .i64 (gv : Nat)) ∧ Below X.heap.size X w')))
          have HN := Lib.hid (show stepTo js ps qs D S G (k + 1) = min T gv from by rw [stepTo_yes hda hE0 hac, hT, ← grow_permits A D E S G T htl, hAA, hB, hgv])
          have y10 : U.cell? ⟨n15, 10, none⟩ = some (.int .i64 (A : Nat)) := by rw [← HA.out]; exact hrow2.c 10 _ rfl
          have u0 : U.cell? ⟨n12, 0, none⟩ = some (.int .u64 ((S : Int) * (S : Int))) := hUU.c 0 _ rfl
          have u1 : U.cell? ⟨n12, 1, none⟩ = some (.int .u64 ((D : Int) * (D : Int) * 4096)) := hUU.c 1 _ rfl
          have l15 := hrow2.lt
          have l12 := hUU.lt
          have hmk : ∀ Y, Below U.heap.size U Y → Y.cell? ⟨n15, 10, none⟩ = some (.int .i64 (A : Nat)) ∧ Y.cell? ⟨n12, 0, none⟩ = some (.int .u64 ((S : Int) * (S : Int))) ∧ Y.cell? ⟨n12, 1, none⟩ = some (.int .u64 ((D : Int) * (D : Int) * 4096)) ∧ Below U.heap.size U Y := fun Y hY => ⟨(hY.cell (p := ⟨n15, 10, none⟩) l15).trans y10, (hY.cell (p := ⟨n12, 0, none⟩) l12).trans u0, (hY.cell (p := ⟨n12, 1, none⟩) l12).trans u1, hY⟩
          have HMK2 := Lib.hid hmk
          have hSt := hmk U (Below.refl _ _)
          have HWU := Lib.hid hWU
          have HPU := Lib.hid hPU
          have HQU := Lib.hid hQU
          have HUU := Lib.hid hUU
          clear hrow2 hWU hPU hQU hUU hda hT hac hmk y10 u0 u1 hpw hpw0 hSS hDD hSS0 hgv c2 hB hAA
          go_upto_region 11 with fail
          go_region_held3 (fun X => X.cell? ⟨n15, 10, none⟩ = some (.int .i64 (A : Nat)) ∧ X.cell? ⟨n12, 0, none⟩ = some (.int .u64 ((S : Int) * (S : Int))) ∧ X.cell? ⟨n12, 1, none⟩ = some (.int .u64 ((D : Int) * (D : Int) * 4096)) ∧ Below U.heap.size U X)
            (first
              | assumption
              | exact hSt
              | exact HMK2.out _ (by assumption : _ ∧ _ ∧ _ ∧ Below U.heap.size U _).2.2.2.drew)
            (first
              | (go_at_call 36
                 with_reducible refine (HGR.out _).mono ?_
                 rintro e Xa ⟨rfl, hba⟩
                 have hSa := HMK2.out _ (below_call (by assumption : _ ∧ _ ∧ _ ∧ Below U.heap.size U _).2.2.2 hba)
                 clear hba))
          all_goals
            have HSA := Lib.hid hSa.2.2.2
            clear hSa hSt
            go_wp2
            go_roundw
            case rel => exact ⟨k + 1, by omega, by simp, by rw [HN.out, min_cast], HWU.out.keep HSA.out, HPU.out.keep HSA.out, HQU.out.keep HSA.out, HUU.out.keep HSA.out⟩
            case measure => simp [intOf]; omega
      · have hke : k = js.length := by omega
        subst hke
        have HT := Lib.hid hT
        have HWU := Lib.hid hW
        have s0 : wr.cell? ⟨n1, 0, none⟩ = some (.slice (some ⟨b, off, none⟩) js.length cap) := hW.r1.c 0 _ rfl
        have lt1 := hW.r1.lt
        clear hT hP hQ hU
        go_wp2
        go_ret2
        refine ⟨HWU.out.bel, .inr ⟨HOKK.out, ?_⟩⟩
        rw [HSV.out, HT.out]
        rfl
end Go.Proofs.En
end

