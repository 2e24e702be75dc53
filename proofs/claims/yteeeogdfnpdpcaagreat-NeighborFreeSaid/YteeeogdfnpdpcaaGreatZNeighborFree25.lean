/-
  Texts put together: Gb Fa Fb Fc.
-/
import Derived.Test.YteeeogdfnpdpcaaGreatZNeighborFree24
import Derived.Shelf.Sort.Plain
import Derived.Test.YteeeogdfnpdpcaaGreatProg
set_option linter.unusedVariables false
section
/-
  Walks: the chain.
-/
namespace Go.Proofs.Ng
open Go.RowKit

/-- What chain answers. -/
def ChainP (pts : List (List Int)) (d : Nat) (w : World) (e : Ending) (W : World) : Prop :=
  ∃ (os : List Nat) (ot : Option Addr) (ct : Nat), e = .returned (.slice ot pts.length ct) ∧ os.length = pts.length ∧ ChO pts d pts.length os ∧ Sl W ot 4 ((chT d pts.length os).map Nd.vals) ∧ Below w.heap.size w W
set_option maxRecDepth 100000 in
set_option maxHeartbeats 4000000 in
theorem chain16 (op : Option Addr) (cp : Nat) (pts : List (List Int)) (d : Nat) (w : World) (hP : Pts w op pts) (hl : pts.length ≤ 100) (hd : d < 100) (hdim : ∀ x ∈ pts, x.length = d + 1) :
    Calls Tryz.prog 16 #[.slice op pts.length cp] w (ChainP pts d w) := by
  have HP := Lib.hid hP
  have HDM := Lib.hid hdim
  clear hP hdim
  go_enter Tryz.func16, Tryz.ntmps16
  go_wp2_with fail
  go_loopw [3, 4, 5, 6, 7, 8] (fun o _ _ _ _ _ X => ∃ os : List Nat, os.length ≤ pts.length ∧ ChO pts d pts.length os ∧ X.ownsRow w.heap.size 57 4 o os.length (nflat (chT d pts.length os)) ∧ Below w.heap.size w X) (fun o _ _ _ _ _ _ => pts.length - (match o with | .slice _ n _ => n | _ => 0))
  case atStart => exact ⟨[], Nat.zero_le _, ChO.nil _ _ _, World.ownsRow_nil _ _ _ _, Below.refl _ _⟩
  case round =>
    obtain ⟨os, hol, hos, hown, hbel⟩ := hrel
    obtain ⟨V, rfl⟩ : ∃ X, X = wr := ⟨_, rfl⟩
    obtain ⟨oo, co, rfl, -⟩ := own_rows (rows := (chT d pts.length os).map Nd.vals) (nd_four _) (by rw [List.length_map, chT_len]; exact hown)
    rw [List.length_map, chT_len] at hown ⊢
    have HOW := Lib.hid hown
    have HOS := Lib.hid hos
    have HBV := Lib.hid hbel
    by_cases hlt : os.length < pts.length
    · have hlt1 : (os.length : Int) < (pts.length : Int) := by omega
      have hszV : w.heap.size ≤ V.heap.size := hbel.size
      clear hown hos hbel
      go_wp2_with fail
      go_loopw [4, 5, 6, 7] (fun b i _ _ X => ∃ (best : Int) (k : Nat), b = .int .i64 best ∧ i = .int .i64 (k : Nat) ∧ k ≤ pts.length ∧ BestI pts d os k best ∧ Below V.heap.size V X) (fun _ i _ _ _ => pts.length - (intOf i).toNat)
      case atStart => exact ⟨-1, 0, rfl, rfl, Nat.zero_le _, BestI.start _ _ _, Below.refl _ _⟩
      case round =>
        obtain ⟨best, k, rfl, rfl, hk, hbi, hb⟩ := hrel
        obtain ⟨U, rfl⟩ : ∃ X, X = wr := ⟨_, rfl⟩
        have HBI := Lib.hid hbi
        have HBU := Lib.hid hb
        obtain ⟨x0, hx0⟩ : ∃ x, pts[0]? = some x := ⟨_, List.getElem?_eq_getElem (by omega)⟩
        have hxl := HDM.out x0 (List.mem_of_getElem? hx0)
        obtain ⟨bp, offp, ox, cx, rfl, y0, lp, -⟩ := (HP.out.keep (below_call HBV.out hb)).get hx0
        rw [hxl, Nat.add_zero] at y0
        have hwd : IntKind.i64.wrap ((d : Int) + 1 - 1) = (d : Int) := by rw [IntWalk.i64_in _ (by omega)]; omega
        by_cases hkl : k < pts.length
        · have hkl1 : (k : Int) < (pts.length : Int) := by omega
          obtain ⟨o2, c2, e2, hS⟩ := own_rows (rows := (chT d pts.length os).map Nd.vals) (nd_four _) (by rw [List.length_map, chT_len]; exact own_keep HOW.out hb)
          rw [List.length_map, chT_len] at e2
          injection e2 with e2 _ e3
          subst e2 e3
          have HSL := Lib.hid hS
          clear hbi hb hS hx0 hxl
          go_wp2_with fail
          go_loopw [6, 7] (fun dn m X => ∃ mm : Nat, m = .int .i64 (mm : Nat) ∧ mm ≤ os.length ∧ dn = .bool (decide (k ∈ os.take mm)) ∧ X = U) (fun _ m _ => os.length - (intOf m).toNat)
          case atStart => exact ⟨0, rfl, Nat.zero_le _, by simp, rfl⟩
          case round =>
            obtain ⟨mm, rfl, hmm, rfl, hwU⟩ := hrel
            subst hwU
            by_cases hml : mm < os.length
            · have hml1 : (mm : Int) < (os.length : Int) := by omega
              obtain ⟨p, hp⟩ : ∃ p, os[mm]? = some p := ⟨_, List.getElem?_eq_getElem hml⟩
              have htk : os.take (mm + 1) = os.take mm ++ [p] := by rw [List.take_add_one, hp]; rfl
              obtain ⟨bo, offo, rfl, hr⟩ := HSL.out (map_ne (k := mm) (by rw [chT_len]; exact hml))
              have z0 : wr.cell? ⟨bo, offo + mm * 4, none⟩ = some (.int .i64 (p : Nat)) := by
                have := hr.c mm _ (map_get (chT_at hp)) 0 _ rfl
                simpa [chN] using this
              have lo := hr.lt
              clear hp hr
              by_cases hin : k ∈ os.take mm
              · have HT : Hid (decide (k ∈ os.take (mm + 1)) = true) := Lib.hid (decide_eq_true (by rw [htk]; simp [hin]))
                rw [decide_eq_true hin]
                clear htk
                go_wp2_with fail
                go_roundw
                case rel => exact ⟨mm + 1, by simp, by omega, by rw [HT.out], trivial⟩
                case measure => simp [intOf]; omega
              · rw [decide_eq_false hin]
                by_cases hpk : p = k
                · have HT : Hid (decide (k ∈ os.take (mm + 1)) = true) := Lib.hid (decide_eq_true (by rw [htk]; simp [hpk]))
                  have hpk1 : ((p : Int) == (k : Int)) = true := by simp [hpk]
                  clear htk
                  go_wp2_with fail
                  go_roundw
                  case rel => exact ⟨mm + 1, by simp, by omega, by rw [HT.out], trivial⟩
                  case measure => simp [intOf]; omega
                · have HT : Hid (decide (k ∈ os.take (mm + 1)) = false) := Lib.hid (decide_eq_false (by rw [htk]; simp [hin]; exact fun e => hpk e.symm))
                  have hpk1 : ((p : Int) == (k : Int)) = false := by simp; omega
                  have hpk2 : (p == k) = false := by simp [hpk]
                  clear htk
                  go_wp2_with fail
                  go_roundw
                  case rel => exact ⟨mm + 1, by simp, by omega, by rw [HT.out], trivial⟩
                  case measure => simp [intOf]; omega
            · obtain rfl : mm = os.length := by omega
              rw [List.take_length]
              have hml1 : ¬ ((os.length : Int) < (os.length : Int)) := Int.lt_irrefl _
              by_cases hin : k ∈ os
              · rw [decide_eq_true hin]
                have HB2 := Lib.hid (HBI.out.skip hin)
                go_wp2_with fail
                go_roundw
                case rel => exact ⟨best, k + 1, rfl, by simp, by omega, HB2.out, HBU.out⟩
                case measure => simp [intOf]; omega
              · rw [decide_eq_false hin]
                by_cases hneg : best = -1
                · subst hneg
                  have HB2 := Lib.hid (HBI.out.first hin)
                  go_wp2_with fail
                  go_roundw
                  case rel => exact ⟨(k : Nat), k + 1, rfl, by simp, by omega, HB2.out, HBU.out⟩
                  case measure => simp [intOf]; omega
                · obtain ⟨b, rfl, hbk⟩ : ∃ b : Nat, best = (b : Nat) ∧ b < k := by
                    rcases HBI.out with ⟨h, _⟩ | ⟨b, h, h2, _⟩
                    · exact absurd h hneg
                    · exact ⟨b, h, h2⟩
                  have hb0 : decide ((b : Int) < 0) = false := decide_eq_false (by omega)
                  have HBF := Lib.hid (before36 (some ⟨bp, offp, none⟩) cp pts d k b wr (HP.out.keep (below_call HBV.out HBU.out)) hkl (by omega) (fun x hx => by rw [HDM.out x hx]; omega) (by omega) (by omega))
                  cases hq : bef pts d k b with
                  | true =>
                    rw [hq] at HBF
                    have HB2 := Lib.hid (HBI.out.more hin hq)
                    clear hq hneg
                    go_wp2_with fail
                    refine HBF.out.mono ?_
                    rintro e W2 ⟨rfl, nq, rfl⟩
                    go_wp2_with fail
                    go_roundw
                    case rel => exact ⟨(k : Nat), k + 1, rfl, by simp, by omega, HB2.out, below_call HBU.out (below_drew _ _)⟩
                    case measure => simp [intOf]; omega
                  | false =>
                    rw [hq] at HBF
                    have HB2 := Lib.hid (HBI.out.stay hq)
                    clear hq hneg
                    go_wp2_with fail
                    refine HBF.out.mono ?_
                    rintro e W2 ⟨rfl, nq, rfl⟩
                    go_wp2_with fail
                    go_roundw
                    case rel => exact ⟨(b : Nat), k + 1, rfl, by simp, by omega, HB2.out, below_call HBU.out (below_drew _ _)⟩
                    case measure => simp [intOf]; omega
        · obtain rfl : k = pts.length := by omega
          obtain ⟨b, rfl, hnx⟩ := hbi.done HOS.out hlt
          have HNX := Lib.hid hnx
          have hnl : ¬ ((pts.length : Int) < (pts.length : Int)) := Int.lt_irrefl _
          have hwo : IntKind.i64.wrap ((os.length : Int) + 1) = (os.length : Int) + 1 := IntWalk.i64_in _ (by omega)
          clear hbi hb hx0 hxl hnx
          go_upto_region 15 with fail
          have hb2 : Below U.heap.size U (U.alloc (.cells #[.int .i64 (b : Nat), .int .i64 (d : Nat), .int .i64 (-1), .int .i64 ((os.length : Int) + 1)] 57)) := (Below.refl _ _).alloc (Nat.le_refl _) _
          have r8 := Blk.new U [.int .i64 (b : Nat), .int .i64 (d : Nat), .int .i64 (-1), .int .i64 ((os.length : Int) + 1)] 57
          have hnbV : V.heap.size ≤ U.heap.size := HBU.out.size
          have hbX := below_call HBU.out hb2
          generalize (U.alloc (.cells #[.int .i64 (b : Nat), .int .i64 (d : Nat), .int .i64 (-1), .int .i64 ((os.length : Int) + 1)] 57)) = X at hb2 r8 hbX ⊢
          clear hb2
          generalize U.heap.size = nb at r8 hnbV ⊢
          by_cases hlast : os.length + 1 = pts.length
          · have e1 : ((os.length : Int) + 1 == (pts.length : Int)) = true := by simp; omega
            have y0 : X.cell? ⟨nb, 0, none⟩ = some (.int .i64 (b : Nat)) := r8.c 0 _ rfl
            have y1 : X.cell? ⟨nb, 1, none⟩ = some (.int .i64 (d : Nat)) := r8.c 1 _ rfl
            have y2 : X.cell? ⟨nb, 2, none⟩ = some (.int .i64 (-1)) := r8.c 2 _ rfl
            have y3 : X.cell? ⟨nb, 3, none⟩ = some (.int .i64 ((os.length : Int) + 1)) := r8.c 3 _ rfl
            have f3 := r8.f 3
            have ly := r8.lt
            have HCH : Hid (chN d pts.length os.length b = ⟨(b : Nat), (d : Nat), -1, -1⟩) := Lib.hid (by unfold chN; rw [if_pos hlast])
            have R9 := Lib.hid (r8.put 3 (.int .i64 (-1)))
            have HBY := Lib.hid (hbX.setCell (p := ⟨nb, 3, none⟩) hnbV (.int .i64 (-1)))
            clear r8 hbX hlast
            go_upto_region 17 with fail
            clear y0 y1 y2 y3 f3 ly e1
            generalize (X.setCell ⟨nb, 3, none⟩ (.int .i64 (-1))) = Y at R9 HBY ⊢
            have r9 := R9.out
            have y0 : Y.cell? ⟨nb, 0, none⟩ = some (.int .i64 (b : Nat)) := r9.c 0 _ rfl
            have y1 : Y.cell? ⟨nb, 1, none⟩ = some (.int .i64 (d : Nat)) := r9.c 1 _ rfl
            have y2 : Y.cell? ⟨nb, 2, none⟩ = some (.int .i64 (-1)) := r9.c 2 _ rfl
            have y3 : Y.cell? ⟨nb, 3, none⟩ = some (.int .i64 (-1)) := r9.c 3 _ rfl
            have ly := r9.lt
            have hba : Below Y.heap.size Y (Y.alloc (.cells #[.int .i64 (b : Nat), .int .i64 (d : Nat), .int .i64 (-1), .int .i64 (-1)] 57)) := (Below.refl _ _).alloc (Nat.le_refl _) _
            have HC := Lib.hid (own_keep (own_keep HOW.out HBY.out) hba)
            have HBa := Lib.hid (below_call HBY.out hba)
            have HSZ := Lib.hid (Nat.le_trans hszV HBa.out.size)
            obtain ⟨i0, hi, hz0, hz1, hz2⟩ := info_parts info36
            clear hba r9
            go_wp2_with (at_builtin; refine wpList_append_own_at _ rfl _ _ 27 rfl w.heap.size 57 i0 (.agg #[.int .i64 0, .int .i64 0, .int .i64 0, .int .i64 0]) 4 32 under23 hi hz0 hz1 hz2 rfl (by decide) _ _ _ rfl HC.out ⟨Y.heap.size, 0, none⟩ 1 1 [.int .i64 (b : Nat), .int .i64 (d : Nat), .int .i64 (-1), .int .i64 (-1)] rfl rfl (new_cells _ _ _) (by intro u hu; simp at hu; rcases hu with rfl | rfl | rfl | rfl <;> rfl) (by unfold maxLen; omega) (by omega) HSZ.out ?_)
            intro v1 W2 ho2 hg2 _ _
            have hB2 := (below_call HBV.out HBa.out).trans (grown_below HC.out hg2 HSZ.out)
            have ho3 : W2.ownsRow w.heap.size 57 4 v1 (os ++ [b]).length (nflat (chT d pts.length (os ++ [b]))) := by
              rw [chT_snoc, nflat_snoc, HCH.out, List.length_append]; exact ho2
            obtain ⟨ov, cv, rfl, -⟩ := own_rows (rows := (chT d pts.length (os ++ [b])).map Nd.vals) (nd_four _) (by rw [List.length_map, chT_len]; exact ho3)
            rw [List.length_map, chT_len] at ho3 ho2 ⊢
            have HO3 := Lib.hid ho3
            have HB3 := Lib.hid hB2
            clear ho2 hg2 hB2 ho3 HC HBa HSZ hi hz0 hz1 hz2
            go_wp2_with fail
            go_roundw
            case rel => exact ⟨os ++ [b], by simp; omega, HNX.out, HO3.out, HB3.out⟩
            case measure => simp; omega
          · have e1 : ((os.length : Int) + 1 == (pts.length : Int)) = false := by simp; omega
            have y0 : X.cell? ⟨nb, 0, none⟩ = some (.int .i64 (b : Nat)) := r8.c 0 _ rfl
            have y1 : X.cell? ⟨nb, 1, none⟩ = some (.int .i64 (d : Nat)) := r8.c 1 _ rfl
            have y2 : X.cell? ⟨nb, 2, none⟩ = some (.int .i64 (-1)) := r8.c 2 _ rfl
            have y3 : X.cell? ⟨nb, 3, none⟩ = some (.int .i64 ((os.length : Int) + 1)) := r8.c 3 _ rfl
            have ly := r8.lt
            have HCH : Hid (chN d pts.length os.length b = ⟨(b : Nat), (d : Nat), -1, (os.length : Int) + 1⟩) := Lib.hid (by unfold chN; rw [if_neg hlast]; rfl)
            have R9 := Lib.hid r8
            have HBY := Lib.hid hbX
            clear r8 hbX hlast
            go_upto_region 17 with fail
            clear y0 y1 y2 y3 ly e1
            obtain ⟨Y, rfl⟩ : ∃ Y, Y = X := ⟨_, rfl⟩
            have r9 := R9.out
            have y0 : Y.cell? ⟨nb, 0, none⟩ = some (.int .i64 (b : Nat)) := r9.c 0 _ rfl
            have y1 : Y.cell? ⟨nb, 1, none⟩ = some (.int .i64 (d : Nat)) := r9.c 1 _ rfl
            have y2 : Y.cell? ⟨nb, 2, none⟩ = some (.int .i64 (-1)) := r9.c 2 _ rfl
            have y3 : Y.cell? ⟨nb, 3, none⟩ = some (.int .i64 ((os.length : Int) + 1)) := r9.c 3 _ rfl
            have ly := r9.lt
            have hba : Below Y.heap.size Y (Y.alloc (.cells #[.int .i64 (b : Nat), .int .i64 (d : Nat), .int .i64 (-1), .int .i64 ((os.length : Int) + 1)] 57)) := (Below.refl _ _).alloc (Nat.le_refl _) _
            have HC := Lib.hid (own_keep (own_keep HOW.out HBY.out) hba)
            have HBa := Lib.hid (below_call HBY.out hba)
            have HSZ := Lib.hid (Nat.le_trans hszV HBa.out.size)
            obtain ⟨i0, hi, hz0, hz1, hz2⟩ := info_parts info36
            clear hba r9
            go_wp2_with (at_builtin; refine wpList_append_own_at _ rfl _ _ 27 rfl w.heap.size 57 i0 (.agg #[.int .i64 0, .int .i64 0, .int .i64 0, .int .i64 0]) 4 32 under23 hi hz0 hz1 hz2 rfl (by decide) _ _ _ rfl HC.out ⟨Y.heap.size, 0, none⟩ 1 1 [.int .i64 (b : Nat), .int .i64 (d : Nat), .int .i64 (-1), .int .i64 ((os.length : Int) + 1)] rfl rfl (new_cells _ _ _) (by intro u hu; simp at hu; rcases hu with rfl | rfl | rfl | rfl <;> rfl) (by unfold maxLen; omega) (by omega) HSZ.out ?_)
            intro v1 W2 ho2 hg2 _ _
            have hB2 := (below_call HBV.out HBa.out).trans (grown_below HC.out hg2 HSZ.out)
            have ho3 : W2.ownsRow w.heap.size 57 4 v1 (os ++ [b]).length (nflat (chT d pts.length (os ++ [b]))) := by
              rw [chT_snoc, nflat_snoc, HCH.out, List.length_append]; exact ho2
            obtain ⟨ov, cv, rfl, -⟩ := own_rows (rows := (chT d pts.length (os ++ [b])).map Nd.vals) (nd_four _) (by rw [List.length_map, chT_len]; exact ho3)
            rw [List.length_map, chT_len] at ho3 ho2 ⊢
            have HO3 := Lib.hid ho3
            have HB3 := Lib.hid hB2
            clear ho2 hg2 hB2 ho3 HC HBa HSZ hi hz0 hz1 hz2
            go_wp2_with fail
            go_roundw
            case rel => exact ⟨os ++ [b], by simp; omega, HNX.out, HO3.out, HB3.out⟩
            case measure => simp; omega
    · have hle : os.length = pts.length := by have := hos.len; omega
      have hnl : ¬ ((os.length : Int) < (pts.length : Int)) := by omega
      have HF : Hid (ChainP pts d w (.returned (.slice oo os.length co)) V) := Lib.hid (by
        obtain ⟨o2, c2, e2, hS⟩ := own_rows (rows := (chT d pts.length os).map Nd.vals) (nd_four _) (by rw [List.length_map, chT_len]; exact hown)
        rw [List.length_map, chT_len] at e2
        injection e2 with e2 _ e3
        subst e2 e3
        exact ⟨os, oo, co, by rw [hle], hle, hos, hS, hbel⟩)
      clear hown hos hbel hle
      go_wp2_with fail
      go_ret
      exact HF.out
end Go.Proofs.Ng
end

section
/-
  The library's sort of whole numbers, laid at this program in plain words (the form is lay-plain.mjs's).
-/
namespace Go.Proofs
open Go.Shelf
def Tryz.sortI_ren : Go.Shelf.Ren := ⟨fun | 189 => 38 | 125 => 64 | 257 => 68 | 128 => 87 | 129 => 88 | 294 => 93 | 295 => 94 | 296 => 95 | 297 => 96 | 298 => 97 | 299 => 98 | 216 => 99 | 300 => 100 | 301 => 101 | 328 => 118 | 329 => 108 | 330 => 109 | 331 => 119 | 332 => 120 | 215 => 70 | 343 => 124 | n => n, fun | 28 => 29 | 3 => 3 | 46 => 50 | 0 => 0 | 51 => 117 | 53 => 119 | 4 => 4 | 183 => 110 | 182 => 109 | 131 => 114 | 5 => 5 | 9 => 9 | 218 => 139 | 222 => 143 | 228 => 151 | 229 => 152 | n => n, fun | n => n⟩
theorem Tryz.sortI : Go.Proofs.Lays.n189 Tryz.prog Tryz.sortI_ren := {
  mixed := by kernel_rfl
  f125 := Tryz.func64.trans (congrArg some (by kernel_rfl))
  f128 := Tryz.func87.trans (congrArg some (by kernel_rfl))
  f129 := Tryz.func88.trans (congrArg some (by kernel_rfl))
  f189 := Tryz.func38.trans (congrArg some (by kernel_rfl))
  f215 := Tryz.func70.trans (congrArg some (by kernel_rfl))
  f216 := Tryz.func99.trans (congrArg some (by kernel_rfl))
  f257 := Tryz.func68.trans (congrArg some (by kernel_rfl))
  f294 := Tryz.func93.trans (congrArg some (by kernel_rfl))
  f295 := Tryz.func94.trans (congrArg some (by kernel_rfl))
  f296 := Tryz.func95.trans (congrArg some (by kernel_rfl))
  f297 := Tryz.func96.trans (congrArg some (by kernel_rfl))
  f298 := Tryz.func97.trans (congrArg some (by kernel_rfl))
  f299 := Tryz.func98.trans (congrArg some (by kernel_rfl))
  f300 := Tryz.func100.trans (congrArg some (by kernel_rfl))
  f301 := Tryz.func101.trans (congrArg some (by kernel_rfl))
  f328 := Tryz.func118.trans (congrArg some (by kernel_rfl))
  f329 := Tryz.func108.trans (congrArg some (by kernel_rfl))
  f330 := Tryz.func109.trans (congrArg some (by kernel_rfl))
  f331 := Tryz.func119.trans (congrArg some (by kernel_rfl))
  f332 := Tryz.func120.trans (congrArg some (by kernel_rfl))
  f343 := Tryz.func124.trans (congrArg some (by kernel_rfl))
  t0 := Tryz.underlying0
  a0 := Tryz.isAgg0
  z0 := Tryz.sizeOf0
  v0 := Tryz.zeroValue0
  t3 := Tryz.underlying3
  a3 := Tryz.isAgg3
  z3 := Tryz.sizeOf3
  v3 := Tryz.zeroValue3
  t4 := Tryz.underlying4
  a4 := Tryz.isAgg4
  z4 := Tryz.sizeOf4
  v4 := Tryz.zeroValue4
  t5 := Tryz.underlying5
  a5 := Tryz.isAgg5
  z5 := Tryz.sizeOf5
  v5 := Tryz.zeroValue5
  t9 := Tryz.underlying9
  a9 := Tryz.isAgg9
  z9 := Tryz.sizeOf9
  v9 := Tryz.zeroValue9
  t28 := Tryz.underlying29
  a28 := Tryz.isAgg29
  z28 := Tryz.sizeOf29
  v28 := Tryz.zeroValue29
  t46 := Tryz.underlying50
  a46 := Tryz.isAgg50
  z46 := Tryz.sizeOf50
  v46 := Tryz.zeroValue50
  t51 := Tryz.underlying117
  a51 := Tryz.isAgg117
  z51 := Tryz.sizeOf117
  v51 := Tryz.zeroValue117
  t53 := Tryz.underlying119
  a53 := Tryz.isAgg119
  z53 := Tryz.sizeOf119
  v53 := Tryz.zeroValue119
  t131 := Tryz.underlying114
  a131 := Tryz.isAgg114
  z131 := Tryz.sizeOf114
  v131 := Tryz.zeroValue114
  t182 := Tryz.underlying109
  a182 := Tryz.isAgg109
  z182 := Tryz.sizeOf109
  v182 := Tryz.zeroValue109
  t183 := Tryz.underlying110
  a183 := Tryz.isAgg110
  z183 := Tryz.sizeOf110
  v183 := Tryz.zeroValue110
  t218 := Tryz.underlying139
  a218 := Tryz.isAgg139
  z218 := Tryz.sizeOf139
  v218 := Tryz.zeroValue139
  t222 := Tryz.underlying143
  a222 := Tryz.isAgg143
  z222 := Tryz.sizeOf143
  v222 := Tryz.zeroValue143
  t228 := Tryz.underlying151
  a228 := Tryz.isAgg151
  z228 := Tryz.sizeOf151
  v228 := Tryz.zeroValue151
  t229 := Tryz.underlying152
  a229 := Tryz.isAgg152
  z229 := Tryz.sizeOf152
  v229 := Tryz.zeroValue152 }
end Go.Proofs
end

section
/-
  Walks: the sort of an owned row of numbers.
-/
namespace Go.Proofs.Ng
open Go.RowKit Go.Shelf Go.Sort

def numsF (l : List Nat) : List Value := l.map fun x => .int .i64 (x : Nat)
def srN (l : List Nat) : List Nat := l.mergeSort fun x y => decide (x ≤ y)
theorem srN_len (l : List Nat) : (srN l).length = l.length := by unfold srN; simp
theorem srN_mem (l : List Nat) (x : Nat) : x ∈ srN l ↔ x ∈ l := by unfold srN; simp
theorem srN_int (l : List Nat) : (l.map fun (x : Nat) => (x : Int)).mergeSort (fun x y => decide (x ≤ y)) = (srN l).map fun (x : Nat) => (x : Int) := by
  unfold srN
  rw [← List.map_mergeSort]
  intro a _ b _
  simp
theorem numsF_len (l : List Nat) : (numsF l).length = l.length := by simp [numsF]
theorem nvals_numsF (l : List Nat) : (nvals l).flatten = numsF l := by
  induction l with
  | nil => rfl
  | cons a t ih => simp only [nvals, numsF, List.map_cons, List.flatten_cons] at ih ⊢; rw [ih]; rfl
theorem take_putI (cur : Array Value) (zs : List Int) (h : zs.length ≤ cur.size) : (putCells (Value.int .i64) 0 zs.toArray cur).toList.take zs.length = zs.map (Value.int .i64) := by
  apply List.ext_getElem?
  intro j
  rw [List.getElem?_take]
  split
  · rename_i hj
    have hc : j < cur.size := by omega
    simp [putCells, hj, hc]
  · rename_i hj
    rw [List.getElem?_eq_none (by simp; omega)]
theorem sort_own (base : Nat) (v : Value) (l : List Nat) (w : World) (h : w.ownsRow base 3 1 v l.length (numsF l)) (h0 : 0 < l.length) (hl : l.length ≤ 3000) :
    Calls Tryz.prog 38 #[v] w fun e w' => e = .returned (.tuple #[]) ∧ w'.ownsRow base 3 1 v l.length (numsF (srN l)) ∧ w.grownBy w' v.ownBlock := by
  obtain ⟨hn, h⟩ := h
  rcases h with ⟨_, h1⟩ | ⟨g, cap, cur, rfl, hbg, hg, hc, hm, hs, ht⟩
  · omega
  have hlt : g < w.heap.size := by
    rcases Nat.lt_or_ge g w.heap.size with h | h
    · exact h
    · rw [Array.getElem?_eq_none h] at hg; cases hg
  simp only [Nat.mul_one] at hs ht
  have hH : Holds (Value.int .i64) w g 0 (l.map fun (x : Nat) => (x : Int)).toArray := by
    intro j hj
    have hj : j < l.length := by simpa using hj
    refine ⟨?_, by simp [World.frozen?, hg]⟩
    have : (numsF l)[j]? = some (.int .i64 ((l[j] : Nat) : Int)) := by simp only [numsF, List.getElem?_map, List.getElem?_eq_getElem hj, Option.map_some]
    rw [← ht, List.getElem?_take, if_pos hj] at this
    simp [World.cell?, hg, hj]
    simpa using this
  have hS := Any.slices_Sort_int Tryz.sortI g 0 cap (l.map fun (x : Nat) => (x : Int)) w hH hlt (by simp; omega)
  change Calls Tryz.prog 38 _ _ _ at hS
  rw [srN_int, List.length_map] at hS
  refine hS.mono ?_
  rintro e w' ⟨rfl, n, os, rfl⟩
  refine ⟨rfl, ⟨by rw [numsF_len, srN_len]; omega, .inr ⟨g, cap, putCells (Value.int .i64) 0 ((srN l).map fun (x : Nat) => (x : Int)).toArray cur, rfl, hbg, ?_, hc, hm, by simp [putCells, hs], ?_⟩⟩, ⟨rfl, rfl, rfl, by simp [Sort.ahead], fun k hk hne => ?_⟩⟩
  · rw [heap_grow_old _ _ (by simp [Sort.ahead]; exact hlt)]
    simp [putRow, mapBlock, Sort.ahead, Array.getElem?_modify, hg, onCells]
  · have := take_putI cur ((srN l).map fun (x : Nat) => (x : Int)) (by rw [List.length_map, srN_len]; omega)
    rw [List.length_map, srN_len] at this
    rw [Nat.mul_one, this]
    simp [numsF]
  · rw [heap_grow_old _ _ (by simp [Sort.ahead]; exact hk)]
    simp only [putRow, mapBlock, Sort.ahead, Array.getElem?_modify]
    rw [if_neg (fun e => hne (by simp [Value.ownBlock, e]))]

end Go.Proofs.Ng
end

section
/-
  Walks: the closures of Within.
-/
namespace Go.Proofs.Ng
open Go.RowKit

/-- Those visited that are near enough. -/
def nearL (dP : Nat → Int) (most : Int) (l : List Nat) : List Nat := l.filter fun p => decide (dP p ≤ most)
theorem nearL_yes {dP : Nat → Int} {most : Int} {l : List Nat} {p : Nat} (h : dP p ≤ most) : nearL dP most (l ++ [p]) = nearL dP most l ++ [p] := by
  unfold nearL; rw [List.filter_append]; simp [h]
theorem nearL_no {dP : Nat → Int} {most : Int} {l : List Nat} {p : Nat} (h : ¬ dP p ≤ most) : nearL dP most (l ++ [p]) = nearL dP most l := by
  unfold nearL; rw [List.filter_append]; simp [h]
theorem nearL_len (dP : Nat → Int) (most : Int) (l : List Nat) : (nearL dP most l).length ≤ l.length := List.length_filter_le _ _
/-- The world of Within: the list holds those visited that are near enough. -/
structure XW (base bL bM n : Nat) (most : Int) (dP : Nat → Int) (l : List Nat) (v : Value) (W : World) : Prop where
  box : Blk W bL [v]
  cm : Blk W bM [.int .i64 most]
  own : W.ownsRow base 3 1 v (nearL dP most l).length (nvals (nearL dP most l)).flatten
  lL : bL < base
  lM : bM < base ∧ bM ≠ bL
  nd : l.Nodup
  el : ∀ p ∈ l, p < n
  hb : base ≤ W.heap.size
variable {base bL bM n : Nat} {most : Int} {dP : Nat → Int} {l : List Nat} {v : Value} {W : World}
theorem XW.keep {W' : World} (h : XW base bL bM n most dP l v W) (hb : Below W.heap.size W W') : XW base bL bM n most dP l v W' :=
  ⟨h.box.keep hb, h.cm.keep hb, own_keep h.own hb, h.lL, h.lM, h.nd, h.el, Nat.le_trans h.hb hb.size⟩
/-- What the closure that takes a point answers. -/
def TakX (base bL bM n : Nat) (most : Int) (dP : Nat → Int) (l : List Nat) (v : Value) (W : World) (e : Ending) (W' : World) : Prop := e = .returned (.tuple #[]) ∧ ∃ v', XW base bL bM n most dP l v' W' ∧ FrN bL bL v v' W W'
set_option maxRecDepth 100000 in
set_option maxHeartbeats 4000000 in
theorem take37 (hw : XW base bL bM n most dP l v W) (p : Nat) (hp : p < n) (hpl : p ∉ l) (hn : n ≤ 1024) :
    Calls Tryz.prog 37 #[.int .i64 p, .int .i64 (dP p), .pointer (some ⟨bM, 0, none⟩), .pointer (some ⟨bL, 0, none⟩)] W (TakX base bL bM n most dP (l ++ [p]) v W) := by
  have hnd2 : (l ++ [p]).Nodup := by
    rw [List.nodup_append]
    exact ⟨hw.nd, by simp, fun a ha b hb e => by simp at hb; subst hb; subst e; exact hpl ha⟩
  have hel2 : ∀ q ∈ l ++ [p], q < n := fun q hq => by
    rw [List.mem_append, List.mem_singleton] at hq
    rcases hq with hq | rfl
    · exact hw.el q hq
    · exact hp
  have hll : l.length ≤ 1024 := by
    have := nodup_le n l hw.nd hw.el
    omega
  have hnl : (nearL dP most l).length ≤ 1024 := Nat.le_trans (nearL_len dP most l) hll
  have y0 : W.cell? ⟨bM, 0, none⟩ = some (.int .i64 most) := hw.cm.c 0 _ rfl
  have ly := hw.cm.lt
  have HW := Lib.hid hw
  have HND := Lib.hid hnd2
  have HEL := Lib.hid hel2
  by_cases hd : dP p ≤ most
  · have hdd : decide (dP p ≤ most) = true := decide_eq_true hd
    have y1 : W.cell? ⟨bL, 0, none⟩ = some v := hw.box.c 0 _ rfl
    have ly1 := hw.box.lt
    have hb2 : Below W.heap.size W (W.alloc (.cells #[.int .i64 (p : Nat)] 3)) := (Below.refl _ _).alloc (Nat.le_refl _) _
    have HX2 := Lib.hid (hw.keep hb2)
    have HB2 := Lib.hid hb2
    obtain ⟨i0, hi, hz0, hz1, hz2⟩ := info_parts info3
    clear hw hnd2 hel2 hb2 hll
    go_enter Tryz.func37, Tryz.ntmps37
    go_wp2_with (at_builtin; refine wpList_append_own_at _ rfl _ _ 29 rfl base 3 i0 (.int .i64 0) 1 8 under24 hi hz0 hz1 hz2 rfl (by decide) _ _ _ rfl HX2.out.own ⟨W.heap.size, 0, none⟩ 1 1 [.int .i64 (p : Nat)] rfl rfl ?c1 ?c2 ?c3 ?c4 ?c5 ?_)
    case c1 => exact new_cells _ _ _
    case c2 => intro u hu; simp at hu; subst hu; rfl
    case c3 => unfold maxLen; omega
    case c4 => omega
    case c5 => exact HX2.out.hb
    intro v' w' hown' hgrow _ hat'
    have hfl : (nvals (nearL dP most l)).flatten ++ [.int .i64 (p : Nat)] = (nvals (nearL dP most l ++ [p])).flatten := by simp [nvals]
    rw [hfl] at hown'
    obtain ⟨ov, cv, rfl, -⟩ := own_rows (nvals_one (nearL dP most l ++ [p])) (by rw [nvals_len, List.length_append]; exact hown')
    generalize (nvals (nearL dP most l ++ [p])).length = nv at hown' hat' ⊢
    have B := grown_below HX2.out.own hgrow HX2.out.hb
    have hlL := HX2.out.lL
    have hlM := HX2.out.lM
    have k1 := HX2.out.box.low hlL B
    have k2 := HX2.out.cm.low hlM.1 B
    have x1 : w'.cell? ⟨bL, 0, none⟩ = some v := k1.c 0 _ rfl
    have f1 := k1.f 0
    have lx := k1.lt
    have hg := grown_set w' bL 0 (.slice ov nv cv)
    have hvb : ∀ g, (Value.slice ov nv cv).ownBlock = some g → base ≤ g ∧ g < w'.heap.size := fun g e => ⟨(own_lt hown' g e).2, (own_lt hown' g e).1⟩
    have kX : XW base bL bM n most dP (l ++ [p]) (.slice ov nv cv) (w'.setCell ⟨bL, 0, none⟩ (.slice ov nv cv)) := by
      refine ⟨k1.put 0 (.slice ov nv cv), k2.keepG hg hlM.2, ?_, hlL, hlM, HND.out, HEL.out, Nat.le_trans HX2.out.hb (Nat.le_trans B.size hg.size)⟩
      rw [nearL_yes hd]
      refine own_blk (W := w') ?_ fun g hgo hl _ => hg.block g hl (fun e => by injection e with e; have := (hvb g hgo).1; omega)
      rw [List.length_append]
      exact hown'
    have kF : FrN bL bL v (.slice ov nv cv) W (w'.setCell ⟨bL, 0, none⟩ (.slice ov nv cv)) := by
      have hb2 := HB2.out
      refine ⟨hg.os.trans (hgrow.os.trans hb2.os), hg.tape.trans (hgrow.tape.trans hb2.tape), hg.output.trans (hgrow.output.trans hb2.output), Nat.le_trans hb2.size (Nat.le_trans hgrow.size hg.size), fun b hl h1 _ h3 => ?_, fun g hgo => ?_⟩
      · have hl2 := Nat.lt_of_lt_of_le hl hb2.size
        exact (hg.block b (Nat.lt_of_lt_of_le hl2 hgrow.size) (fun e => h1 (by injection e))).trans ((hgrow.block b hl2 (fun e => h3 e.symm)).trans (hb2.block b hl))
      · rcases hat' with e | e
        · left; rw [← e]; exact hgo
        · right
          rw [e] at hgo; injection hgo with hgo; have := hb2.size; omega
    have HF : Hid (TakX base bL bM n most dP (l ++ [p]) v W (.returned (.tuple #[])) (w'.setCell ⟨bL, 0, none⟩ (.slice ov nv cv))) := Lib.hid ⟨rfl, .slice ov nv cv, kX, kF⟩
    clear hown' hgrow B k1 k2 hg hvb kX kF HX2 hi hz0 hz1 hz2
    go_wp2_with fail
    refine bodyPost_end (v := .tuple #[]) (by simp [results, Tryz.results37, go_sem]) rfl ?_
    exact HF.out
  · have hdd : decide (dP p ≤ most) = false := decide_eq_false hd
    have HF : Hid (TakX base bL bM n most dP (l ++ [p]) v W (.returned (.tuple #[])) W) := Lib.hid ⟨rfl, v, ⟨hw.box, hw.cm, by rw [nearL_no hd]; exact hw.own, hw.lL, hw.lM, HND.out, HEL.out, hw.hb⟩, FrN.below (Below.refl _ _)⟩
    clear hw hnd2 hel2 hll
    go_enter Tryz.func37, Tryz.ntmps37
    go_wp2_with fail
    refine bodyPost_end (v := .tuple #[]) (by simp [results, Tryz.results37, go_sem]) rfl ?_
    exact HF.out
/-- What the closure that bounds answers. -/
def BnX (most : Int) (W : World) (e : Ending) (W' : World) : Prop := e = .returned (.tuple #[.int .i64 most, .bool true]) ∧ W' = W
theorem bound36 (hw : XW base bL bM n most dP l v W) : Calls Tryz.prog 36 #[.pointer (some ⟨bM, 0, none⟩)] W (BnX most W) := by
  have y0 : W.cell? ⟨bM, 0, none⟩ = some (.int .i64 most) := hw.cm.c 0 _ rfl
  have ly := hw.cm.lt
  clear hw
  go_enter Tryz.func36, Tryz.ntmps36
  go_wp2_with fail
  refine bodyPost_ret (v := .tuple #[.int .i64 most, .bool true]) (by simp [results, Tryz.results36, go_sem]) rfl ?_
  exact ⟨rfl, rfl⟩
end Go.Proofs.Ng
end

