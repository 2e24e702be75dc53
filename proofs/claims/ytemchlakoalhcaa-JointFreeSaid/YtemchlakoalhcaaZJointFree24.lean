/-
  Texts put together: Gh Gi.
-/
import Derived.Test.YtemchlakoalhcaaZJointFree23
set_option linter.unusedVariables false
section
/-
  Walks of the reference: next, the whole.
-/
namespace Go.Proofs.Jn
open Go.RowKit Go.Shelf

theorem slice22 (ob : Option Addr) (k cb : Nat) (hk : k ≤ cb) (hn : ob = none → cb = 0) (w : World) : (Instr.sliceAt 22 (.slice ob k cb) none (some (.int .i64 (k : Nat))) (some (.int .i64 (k : Nat)))).run Try.prog w = .ok (.slice ob k k) w := by
  cases ob with
  | none =>
    have := hn rfl
    subst this
    have : k = 0 := by omega
    subst this
    simp [Instr.sliceAt, go_sem, run_underlying under22]
  | some a =>
    have h2 : (k : Int) ≤ (cb : Int) := by omega
    simp [Instr.sliceAt, go_sem, run_underlying under22, h2]
theorem tch_own {vl vl1 : Value} {W U U' : World} {K : Nat} (h : Tch (fun b => vl.ownBlock = some b) W U) (k : Tch (fun b => vl1.ownBlock = some b) U U') (ha : ∀ b, vl1.ownBlock = some b → vl.ownBlock = some b ∨ K ≤ b) (hK : W.heap.size ≤ K) : Tch (fun b => vl.ownBlock = some b) W U' :=
  ⟨k.os.trans h.os, k.tape.trans h.tape, k.output.trans h.output, Nat.le_trans h.size k.size, fun b hb hn => by
    rw [k.block b (Nat.lt_of_lt_of_le hb h.size) (fun e => by
      rcases ha b e with h1 | h1
      · exact hn h1
      · omega), h.block b hb hn]⟩
theorem own_nvals {W : World} {base : Nat} {o : Option Addr} {c : Nat} {l : List Nat} (ho : W.ownsRow base 3 1 (.slice o l.length c) l.length (nflat l)) : Sl W o 1 (nvals l) := by
  rw [← nvals_flat, ← nvals_len] at ho
  intro hne
  obtain ⟨oa, cap, hv2, hS⟩ := own_rows (nvals_one l) ho
  injection hv2 with h1 _ _
  rw [h1]
  exact hS hne
set_option maxRecDepth 100000 in
set_option maxHeartbeats 4000000 in
theorem next_all (om oc oa : Option Addr) (cm cc ca : Nat) (T : Tm) (ps : List Nat) (W0 : World) (hO : TeamOk T) (hp : InR T ps) (hT : TeamAt W0 om oc T) (hA : Sl W0 oa 1 (nvals ps)) :
    ∀ (d : Nat) (bs : List Nat) (ob : Option Addr) (cb : Nat) (rows : List (List Nat)) (vs : List Value) (vl : Value) (W : World), bs.length + d = T.ms.length → Below W0.heap.size W0 W → Sl W ob 1 (nvals bs) → bs.length ≤ cb → (ob = none → cb = 0) → OB W W0.heap.size rows vs vl → (∀ b off s, ob = some ⟨b, off, s⟩ → vl.ownBlock ≠ some b ∧ b < W.heap.size) → rows.length + 1000 ^ d ≤ 1000000000000 →
    Calls Try.prog 39 #[.agg #[.slice om T.ms.length cm, .slice oc T.cs.length cc], .slice oa ps.length ca, .slice ob bs.length cb, vl] W (NextE W0 W (rows ++ nextR T ps d bs) vl) := by
  intro d
  induction d with
  | zero =>
    intro bs ob cb rows vs vl W hbl hW hS _ _ hB _ hr
    exact next_zero om oc oa cm cc ca T ps W0 hp.1 hO.n1 bs ob cb rows vs vl W (by omega) hO.n2 hW hS hB (by simp at hr; omega)
  | succ d ih =>
    intro bs ob cb rows vs vl W hbl hW hS hcb hnn hB hapb hrb
    have hkN : bs.length < T.ms.length := by omega
    have hn2 := hO.n2
    obtain ⟨m, hm⟩ : ∃ m, T.ms[bs.length]? = some m := ⟨_, List.getElem?_eq_getElem hkN⟩
    have hmo := hO.mo m (List.mem_of_getElem? hm)
    have hmn := hmo.n2
    have hpm := atOf_lt hp hm
    have hplen := hp.1
    have hkp : bs.length < ps.length := by omega
    have heq := int_beq (bs.length : Int) (ps.length : Int)
    rw [decide_eq_false (by omega)] at heq
    obtain ⟨F, hF⟩ : ∃ F : Nat → List (List Nat), F = fun v => if okN' T ps bs v = true then nextR T ps d (bs ++ [v]) else [] := ⟨_, rfl⟩
    have hnext : nextR T ps (d + 1) bs = (List.range m.n).flatMap F := by rw [hF]; simp only [nextR, hm, Option.map_some, Option.getD_some]
    rw [hnext]
    have hFl : ∀ v, (F v).length ≤ 1000 ^ d := fun v => by
      rw [hF]
      show (if okN' T ps bs v = true then nextR T ps d (bs ++ [v]) else []).length ≤ 1000 ^ d
      split
      · exact nextR_len hO d _
      · simp
    have hFs : ∀ j, ((List.range j).flatMap F).length ≤ j * 1000 ^ d := fun j => by
      induction j with
      | zero => simp
      | succ j ihj => rw [List.range_succ, List.flatMap_append, List.length_append]; simp only [List.flatMap_cons, List.flatMap_nil, List.append_nil, Nat.succ_mul]; have := hFl j; omega
    have hpw : 1000 ^ (d + 1) = 1000 * 1000 ^ d := by rw [Nat.pow_succ, Nat.mul_comm]
    rw [hpw] at hrb
    have HIH := Lib.hid ih
    have HO := Lib.hid hO
    have HP := Lib.hid hp
    have HT := Lib.hid hT
    have HA := Lib.hid hA
    have HF := Lib.hid hF
    have HFS := Lib.hid hFs
    have HM := Lib.hid hm
    have HMO := Lib.hid hmo
    have HBL := Lib.hid hbl
    have HRB := Lib.hid hrb
    have HW := Lib.hid hW
    have HS := Lib.hid hS
    have HAPB := Lib.hid hapb
    have HPL := Lib.hid hplen
    have HCB := Lib.hid hcb
    have HNN := Lib.hid hnn
    have hvlow : ∀ b, vl.ownBlock = some b → W0.heap.size ≤ b := fun b hb => (own_lt hB.own b hb).2
    have HVLOW := Lib.hid hvlow
    have HVLT : Hid (∀ b, vl.ownBlock = some b → b < W.heap.size) := Lib.hid fun b hb => (own_lt hB.own b hb).1
    clear ih hO hp hT hA hF hFs hFl hm hmo hbl hrb hW hS hapb hnext hpw hplen hvlow hcb hnn
    go_enter Try.func39, Try.ntmps39
    go_upto_region 1 with fail
    have hbx_ := blks1 W [.slice om T.ms.length cm, .slice oc T.cs.length cc] 26
    replace hB := hB.keep hbx_.2
    have HB := Lib.hid (hbx_.2)
    have hoe : W.heap.size ≤ W.heap.size := by omega
    generalize W.alloc (.cells #[.slice om T.ms.length cm, .slice oc T.cs.length cc] 26) = V at hbx_ hB HB ⊢
    obtain ⟨r4, hbel_⟩ := hbx_
    obtain ⟨n4, hn_⟩ : ∃ n, n = W.heap.size := ⟨_, rfl⟩
    rw [← hn_] at r4 ⊢
    replace hoe := Nat.le_of_eq hn_.symm
    clear hn_ hbel_
    have HR4 := Lib.hid r4
    have hV0 : Tch (fun b => vl.ownBlock = some b) W V := Tch.of_below HB.out
    have hn4 : ∀ b, vl.ownBlock = some b → b ≠ n4 := fun b hb e => by
      have := HVLT.out b hb; omega
    have HN4L := Lib.hid r4.lt
    clear r4
    go_wp2_with fail
    go_loopw [10, 3] (fun i y X => ∃ (j : Nat) (vs1 : List Value) (vl1 : Value), i = .int .i64 (j : Nat) ∧ j ≤ m.n ∧ y = vl1 ∧ OB X W0.heap.size (rows ++ (List.range j).flatMap F) vs1 vl1 ∧ Tch (fun b => vl.ownBlock = some b) W X ∧ (∀ b, vl1.ownBlock = some b → vl.ownBlock = some b ∨ V.heap.size ≤ b) ∧ V.heap.size ≤ X.heap.size ∧ Blk X n4 [.slice om T.ms.length cm, .slice oc T.cs.length cc]) (fun i _ _ => m.n - (intOf i).toNat)
    case atStart => exact ⟨0, vs, vl, rfl, Nat.zero_le _, rfl, by simpa using hB, hV0, fun b hb => .inl hb, Nat.le_refl _, HR4.out⟩
    case round =>
      clear hB hV0
      obtain ⟨j, vs1, vl1, rfl, hj, hy, hB, hT, hat, hVs, r4⟩ := hrel
      have hy2 := hy.symm
      subst hy2
      clear hy
      obtain ⟨X, rfl⟩ : ∃ X, X = wr := ⟨_, rfl⟩
      have hWX := tch_fresh HW.out hT HVLOW.out
      have hSX := HS.out.tch hT (fun b off s hb => (HAPB.out b off s hb).1)
      obtain ⟨bm, offm, rfl, hMr⟩ := (HT.out.keep hWX).ms (map_ne hkN)
      obtain ⟨ba, offa, rfl, hAr⟩ := (HA.out.keep hWX) (nvals_ne hkp)
      have x0 : X.cell? ⟨bm, offm + bs.length * 2, none⟩ = some (.slice m.op m.n m.cp) := hMr.c bs.length _ (map_get HM.out) 0 _ rfl
      have lm := hMr.lt
      have y0 : X.cell? ⟨ba, offa + bs.length, none⟩ = some (.int .i64 (atOf ps bs.length : Nat)) := by have := hAr.c bs.length _ (nvals_get (atOf_get hkp)) 0 _ rfl; simpa using this
      have ly := hAr.lt
      have hki : (bs.length : Int) < (T.ms.length : Int) := by omega
      have hkpi : (bs.length : Int) < (ps.length : Int) := by omega
      have a0 : X.cell? ⟨n4, 0, none⟩ = some (.slice (some ⟨bm, offm, none⟩) T.ms.length cm) := r4.c 0 _ rfl
      have a1 : X.cell? ⟨n4, 1, none⟩ = some (.slice oc T.cs.length cc) := r4.c 1 _ rfl
      have l4 := r4.lt
      have HWX := Lib.hid hWX
      have HSX := Lib.hid hSX
      have HBX := Lib.hid hB
      have HTX := Lib.hid hT
      have HAT := Lib.hid hat
      have HR4X := Lib.hid r4
      clear hWX hSX hB hT hat hMr hAr r4
      by_cases hlt : j < m.n
      · go_upto_region 8 with fail
        clear x0 lm y0 ly hki hkpi a0 a1 l4
        have hbx_ := boxes1 X [.int .i64 (bs.length : Nat), .int .i64 (atOf ps bs.length : Nat), .int .i64 (j : Nat)] 65
        have HY := Lib.hid (hbx_.2)
        generalize X.alloc (.cells #[.int .i64 (bs.length : Nat), .int .i64 (atOf ps bs.length : Nat), .int .i64 (j : Nat)] 65) = Y at hbx_ HY ⊢
        obtain ⟨r11, hbel_⟩ := hbx_
        obtain ⟨n11, hn_⟩ : ∃ n, n = X.heap.size := ⟨_, rfl⟩
        rw [← hn_] at r11 ⊢
        clear hn_ hbel_
        have hle : legB T ⟨bs.length, atOf ps bs.length, j⟩ = (edgeB m.es (atOf ps bs.length) j || decide (atOf ps bs.length = j)) := by
          simp [legB, HM.out, hpm, hlt, Bool.or_comm]
        have hlg := refLegal_any (some ⟨bm, offm, none⟩) oc cm cc T m ⟨bs.length, atOf ps bs.length, j⟩ Y (by omega) HM.out hpm hlt hmn HMO.out.len (HT.out.keep (below_call HWX.out HY.out))
        rw [← hle] at hlg
        unfold Tm.val at hlg
        have HLG := Lib.hid hlg
        have r4 := HR4X.out.keep HY.out
        have a0 : Y.cell? ⟨n4, 0, none⟩ = some (.slice (some ⟨bm, offm, none⟩) T.ms.length cm) := r4.c 0 _ rfl
        have a1 : Y.cell? ⟨n4, 1, none⟩ = some (.slice oc T.cs.length cc) := r4.c 1 _ rfl
        have z0 : Y.cell? ⟨n11, 0, none⟩ = some (.int .i64 (bs.length : Nat)) := r11.c 0 _ rfl
        have z1 : Y.cell? ⟨n11, 1, none⟩ = some (.int .i64 (atOf ps bs.length : Nat)) := r11.c 1 _ rfl
        have z2 : Y.cell? ⟨n11, 2, none⟩ = some (.int .i64 (j : Nat)) := r11.c 2 _ rfl
        have l4 := r4.lt
        have l11 := r11.lt
        clear hlg hle r4
        go_wp2_with fail
        with_reducible refine HLG.out.mono ?_
        rintro e Z ⟨rfl, hb⟩
        have HZ := Lib.hid (below_call HY.out hb)
        have HR11 := Lib.hid (r11.keep hb)
        clear a0 a1 z0 z1 z2 l4 l11 r11 hb HLG
        generalize hL0 : legB T ⟨bs.length, atOf ps bs.length, j⟩ = L0
        have HL0 := Lib.hid hL0
        clear hL0
        go_wp2_with fail
        go_loopw [13, 12] (fun i y U => ∃ q : Nat, i = .int .i64 (q : Nat) ∧ q ≤ bs.length ∧ y = .bool (L0 && (List.range q).all fun i => !clashB T.cs ⟨bs.length, atOf ps bs.length, j⟩ ⟨i, atOf ps i, atOf bs i⟩) ∧ Below Z.heap.size Z U) (fun i _ _ => bs.length - (intOf i).toNat)
        case atStart => exact ⟨0, rfl, Nat.zero_le _, by simp, Below.refl _ _⟩
        case round =>
          obtain ⟨q, rfl, hq, rfl, hU⟩ := hrel
          obtain ⟨U, rfl⟩ : ∃ X, X = wr := ⟨_, rfl⟩
          have hXU := below_call HZ.out hU
          have HXU := Lib.hid hXU
          have HU := Lib.hid hU
          clear hU
          by_cases hgo : (L0 && (List.range q).all fun i => !clashB T.cs ⟨bs.length, atOf ps bs.length, j⟩ ⟨i, atOf ps i, atOf bs i⟩) = true ∧ q < bs.length
          · obtain ⟨hfl, hqk⟩ := hgo
            rw [hfl]
            have hstep : (L0 && (List.range (q + 1)).all fun i => !clashB T.cs ⟨bs.length, atOf ps bs.length, j⟩ ⟨i, atOf ps i, atOf bs i⟩) = !clashB T.cs ⟨bs.length, atOf ps bs.length, j⟩ ⟨q, atOf ps q, atOf bs q⟩ := by
              rw [List.range_succ, List.all_append, ← Bool.and_assoc, hfl]; simp
            have HST := Lib.hid hstep
            have hcla := clash_any (some ⟨bm, offm, none⟩) oc cm cc T ⟨bs.length, atOf ps bs.length, j⟩ ⟨q, atOf ps q, atOf bs q⟩ U.drew HO.out.cn (HT.out.keep (below_call HWX.out (below_call hXU (Below.refl _ _).drew)))
            unfold Tm.val at hcla
            have HCL := Lib.hid hcla
            obtain ⟨bb, offb, hob, hbr⟩ := (HSX.out.keep hXU) (nvals_ne hqk)
            have hAr := (HA.out.keep (below_call HWX.out hXU))
            obtain ⟨ba', offa', hoa', hAr'⟩ := hAr (nvals_ne (show q < ps.length by omega))
            injection hoa' with hoa'
            injection hoa' with h5 h6 _
            subst h5 h6
            have y0 : U.cell? ⟨ba, offa + q, none⟩ = some (.int .i64 (atOf ps q : Nat)) := by have := hAr'.c q _ (nvals_get (atOf_get (show q < ps.length by omega))) 0 _ rfl; simpa using this
            have ly := hAr'.lt
            have z0 : U.cell? ⟨bb, offb + q, none⟩ = some (.int .i64 (atOf bs q : Nat)) := by have := hbr.c q _ (nvals_get (atOf_get hqk)) 0 _ rfl; simpa using this
            have lz := hbr.lt
            have hqp : (q : Int) < (ps.length : Int) := by omega
            have hqb : (q : Int) < (bs.length : Int) := by omega
            have r4 := HR4X.out.keep hXU
            have r11 := HR11.out.keep HU.out
            have a0 : U.cell? ⟨n4, 0, none⟩ = some (.slice (some ⟨bm, offm, none⟩) T.ms.length cm) := r4.c 0 _ rfl
            have a1 : U.cell? ⟨n4, 1, none⟩ = some (.slice oc T.cs.length cc) := r4.c 1 _ rfl
            have m0 : U.cell? ⟨n11, 0, none⟩ = some (.int .i64 (bs.length : Nat)) := r11.c 0 _ rfl
            have m1 : U.cell? ⟨n11, 1, none⟩ = some (.int .i64 (atOf ps bs.length : Nat)) := r11.c 1 _ rfl
            have m2 : U.cell? ⟨n11, 2, none⟩ = some (.int .i64 (j : Nat)) := r11.c 2 _ rfl
            have l4 := r4.lt
            have l11 := r11.lt
            generalize clashB T.cs ⟨bs.length, atOf ps bs.length, j⟩ ⟨q, atOf ps q, atOf bs q⟩ = C at HST HCL
            subst hob
            have hS0 : U.cell? ⟨n4, 0, none⟩ = some (.slice (some ⟨bm, offm, none⟩) T.ms.length cm) ∧ U.cell? ⟨n4, 1, none⟩ = some (.slice oc T.cs.length cc) ∧ U.cell? ⟨n11, 0, none⟩ = some (.int .i64 (bs.length : Nat)) ∧ U.cell? ⟨n11, 1, none⟩ = some (.int .i64 (atOf ps bs.length : Nat)) ∧ U.cell? ⟨n11, 2, none⟩ = some (.int .i64 (j : Nat)) ∧ U.cell? ⟨ba, offa + q, none⟩ = some (.int .i64 (atOf ps q : Nat)) ∧ U.cell? ⟨bb, offb + q, none⟩ = some (.int .i64 (atOf bs q : Nat)) := ⟨a0, a1, m0, m1, m2, y0, z0⟩
            clear hstep hcla hXU hAr hAr' hbr r4 r11 hfl
            go_upto_region 12 with fail
            go_region_held3 (fun X => X.cell? ⟨n4, 0, none⟩ = some (.slice (some ⟨bm, offm, none⟩) T.ms.length cm) ∧ X.cell? ⟨n4, 1, none⟩ = some (.slice oc T.cs.length cc) ∧ X.cell? ⟨n11, 0, none⟩ = some (.int .i64 (bs.length : Nat)) ∧ X.cell? ⟨n11, 1, none⟩ = some (.int .i64 (atOf ps bs.length : Nat)) ∧ X.cell? ⟨n11, 2, none⟩ = some (.int .i64 (j : Nat)) ∧ X.cell? ⟨ba, offa + q, none⟩ = some (.int .i64 (atOf ps q : Nat)) ∧ X.cell? ⟨bb, offb + q, none⟩ = some (.int .i64 (atOf bs q : Nat)))
              (first
                | exact hS0
                | assumption)
              (first
                | (go_at_call 24
                   with_reducible refine HCL.out.mono ?_
                   rintro e Ua ⟨rfl, hba⟩
                   have hVa : Below U.heap.size U Ua := (Below.refl _ _).drew.trans hba
                   have HVa := Lib.hid hVa
                   have hSa : Ua.cell? ⟨n4, 0, none⟩ = some (.slice (some ⟨bm, offm, none⟩) T.ms.length cm) ∧ Ua.cell? ⟨n4, 1, none⟩ = some (.slice oc T.cs.length cc) ∧ Ua.cell? ⟨n11, 0, none⟩ = some (.int .i64 (bs.length : Nat)) ∧ Ua.cell? ⟨n11, 1, none⟩ = some (.int .i64 (atOf ps bs.length : Nat)) ∧ Ua.cell? ⟨n11, 2, none⟩ = some (.int .i64 (j : Nat)) ∧ Ua.cell? ⟨ba, offa + q, none⟩ = some (.int .i64 (atOf ps q : Nat)) ∧ Ua.cell? ⟨bb, offb + q, none⟩ = some (.int .i64 (atOf bs q : Nat)) :=
                     ⟨(hVa.cell (p := ⟨n4, 0, none⟩) l4).trans a0, (hVa.cell (p := ⟨n4, 1, none⟩) l4).trans a1, (hVa.cell (p := ⟨n11, 0, none⟩) l11).trans m0, (hVa.cell (p := ⟨n11, 1, none⟩) l11).trans m1, (hVa.cell (p := ⟨n11, 2, none⟩) l11).trans m2, (hVa.cell (p := ⟨ba, offa + q, none⟩) ly).trans y0, (hVa.cell (p := ⟨bb, offb + q, none⟩) lz).trans z0⟩
                   clear hba hVa))
            all_goals
              have HUU := Lib.hid (below_call HU.out HVa.out)
              clear hS0 hSa a0 a1 m0 m1 m2 y0 z0 l4 l11 ly lz hqp hqb
              go_wp2_with fail
              go_roundw
              case rel => exact ⟨q + 1, by simp, by omega, by rw [HST.out], HUU.out⟩
              case measure => simp [intOf]; omega
          · by_cases hfl : (L0 && (List.range q).all fun i => !clashB T.cs ⟨bs.length, atOf ps bs.length, j⟩ ⟨i, atOf ps i, atOf bs i⟩) = true
            · have hqk : q = bs.length := by
                by_cases e : q < bs.length
                · exact absurd ⟨hfl, e⟩ hgo
                · omega
              have hokN : okN' T ps bs j = true := by
                rw [hqk] at hfl
                unfold okN'
                rw [HL0.out]
                exact hfl
              rw [hfl, hqk]
              have hFj : F j = nextR T ps d (bs ++ [j]) := by rw [HF.out]; show (if okN' T ps bs j = true then _ else _) = _; rw [if_pos hokN]
              have hpart : rows ++ (List.range (j + 1)).flatMap F = rows ++ (List.range j).flatMap F ++ nextR T ps d (bs ++ [j]) := by rw [List.range_succ, List.flatMap_append]; simp [hFj]
              have HPT := Lib.hid hpart
              have HBN := Lib.hid (HBX.out.keep hXU)
              have HTN := Lib.hid (HTX.out.trans (Tch.of_below (Cb := fun b => vl.ownBlock = some b) hXU))
              have HRN := Lib.hid (HR4X.out.keep hXU)
              have hWU := below_call HWX.out hXU
              have HWU := Lib.hid hWU
              have HSU := Lib.hid (HSX.out.keep hXU)
              have hsz := hXU.size
              have r4 := HR4X.out.keep hXU
              have a0 : U.cell? ⟨n4, 0, none⟩ = some (.slice (some ⟨bm, offm, none⟩) T.ms.length cm) := r4.c 0 _ rfl
              have a1 : U.cell? ⟨n4, 1, none⟩ = some (.slice oc T.cs.length cc) := r4.c 1 _ rfl
              have l4 := r4.lt
              have hsl := slice22 ob bs.length cb HCB.out HNN.out
              have hS0 : U.cell? ⟨n4, 0, none⟩ = some (.slice (some ⟨bm, offm, none⟩) T.ms.length cm) ∧ U.cell? ⟨n4, 1, none⟩ = some (.slice oc T.cs.length cc) := ⟨a0, a1⟩
              have hnb : ob = none → bs.length = 0 ∧ bs.length = 0 := fun e => by
                have h1 := HNN.out e
                have h2 := HCB.out
                omega
              obtain ⟨i0, hi, hz0, hz1, hz2⟩ := info_parts info3
              have HCC := Lib.hid (new_cells U.drew [.int .i64 (j : Nat)] 3)
              have hal : Below U.heap.size U (U.drew.alloc (.cells #[.int .i64 (j : Nat)] 3)) := ((Below.refl U.heap.size U).drew).alloc (Nat.le_refl _) _
              have HAL := Lib.hid hal
              have holds : ∀ b, ob = some b → ∀ x u, (nflat bs)[x]? = some u → (U.drew.alloc (.cells #[.int .i64 (j : Nat)] 3)).cell? (b.add x) = some u := fun b hob x u hu => by
                simp only [nflat, List.getElem?_map, Option.map_eq_some_iff] at hu
                obtain ⟨y, hy, rfl⟩ := hu
                have hxl := (List.getElem?_eq_some_iff.1 hy).1
                obtain ⟨bb, offb, hob2, hbr⟩ := (HSU.out.keep HAL.out) (nvals_ne hxl)
                rw [hob] at hob2
                injection hob2 with hob2
                subst hob2
                have := hbr.c x _ (nvals_get hy) 0 _ rfl
                rw [← this]
                congr 1
                unfold Addr.add
                split <;> simp_all
              have HOLD := Lib.hid holds
              have HNB := Lib.hid hnb
              clear hfl hokN hFj hpart hXU hWU hgo r4 hal holds hnb
              go_upto_region 14 with fail
              go_region_held3 (fun X => X.cell? ⟨n4, 0, none⟩ = some (.slice (some ⟨bm, offm, none⟩) T.ms.length cm) ∧ X.cell? ⟨n4, 1, none⟩ = some (.slice oc T.cs.length cc))
                (first
                  | exact hS0
                  | assumption
                  | simp [a0, a1, l4, World.cell?_alloc_lt])
                (first
                  | (go_at_call 39
                     have hxx := HOWN; clear hxx
                     obtain ⟨o2, c2, rfl⟩ := own_slice HOWN.out
                     have hown2 : Ub.ownsRow (U.drew.alloc (.cells #[.int .i64 (j : Nat)] 3)).heap.size 3 1 (.slice o2 (bs ++ [j]).length c2) (bs ++ [j]).length (nflat (bs ++ [j])) := by
                       have e1 : (bs ++ [j]).length = bs.length + 1 := by simp
                       have e2 : nflat (bs ++ [j]) = nflat bs ++ [.int .i64 (j : Nat)] := by simp [nflat]
                       rw [e1, e2]; exact HOWN.out
                     have hub : Below U.heap.size U Ub := HAL.out.trans (HBU.out.mono HAL.out.size)
                     have hszA : (U.drew.alloc (.cells #[.int .i64 (j : Nat)] 3)).heap.size = U.heap.size + 1 := by simp
                     have hcap := own_cap hown2
                     have hih := HIH.out (bs ++ [j]) o2 c2 (rows ++ (List.range j).flatMap F) vs1 vl1 Ub (by have := HBL.out; simp; omega) (below_call HWU.out hub) (own_nvals hown2) hcap.1 hcap.2 (HBN.out.keep hub)
                       (fun b off s hb => by
                         have h1 := own_lt hown2 b (by rw [hb]; rfl)
                         refine ⟨fun e => ?_, h1.1⟩
                         have h2 := (own_lt HBN.out.own b e).1
                         omega)
                       (by
                         have h1 := HFS.out j
                         have h2 := HRB.out
                         have h3 : j * 1000 ^ d + 1000 ^ d ≤ 1000 * 1000 ^ d := by rw [← Nat.succ_mul]; exact Nat.mul_le_mul_right _ (by omega)
                         rw [List.length_append]; omega)
                     have e1 : (bs ++ [j]).length = bs.length + 1 := by simp
                     rw [e1] at hih
                     with_reducible refine hih.mono ?_
                     rintro e Uc ⟨vs2, vl2, rfl, hB2, hT2, hat2⟩
                     have hvn : ¬ (vl1.ownBlock = some n4) := fun e => by
                       have h5 := HN4L.out
                       rcases HAT.out n4 e with h | h
                       · exact hn4 n4 h rfl
                       · omega
                     have hRc := hT2.blk (HRN.out.keep hub) hvn
                     have hSc : Uc.cell? ⟨n4, 0, none⟩ = some (.slice (some ⟨bm, offm, none⟩) T.ms.length cm) ∧ Uc.cell? ⟨n4, 1, none⟩ = some (.slice oc T.cs.length cc) := ⟨hRc.c 0 _ rfl, hRc.c 1 _ rfl⟩
                     have HRC := Lib.hid hRc
                     have HB2 := Lib.hid hB2
                     have HT2 := Lib.hid (tch_own (HTN.out.trans (Tch.of_below (Cb := fun b => vl.ownBlock = some b) hub)) hT2 HAT.out (by have := HB.out.size; omega))
                     have HAT2 : Hid (∀ b, vl2.ownBlock = some b → vl.ownBlock = some b ∨ V.heap.size ≤ b) := Lib.hid fun b hb => by
                       rcases hat2 b hb with h | h
                       · exact HAT.out b h
                       · have := hub.size; exact .inr (by omega)
                     have HSZ : Hid (V.heap.size ≤ Uc.heap.size) := Lib.hid (by have := hT2.size; have := hub.size; omega)
                     clear hown2 hub hszA hcap hih e1 hvn hRc hB2 hT2 hat2)
                  | (refine step_append_grows rfl (.tmp 74) (.tmp 76) 22 rfl 3 i0 (.int .i64 0) 1 8 under22 hi hz0 hz1 hz2 rfl (by decide) ob bs.length bs.length (nflat bs) (by simp [Act.eval]) HNB.out (by rw [nflat_len]; omega) HOLD.out ⟨U.heap.size, 0, none⟩ 1 1 [.int .i64 (j : Nat)] (by simp [Act.eval]) rfl HCC.out (by simp [Value.oneCell']) (by omega) (by unfold maxLen; omega) (by omega) ?_
                     intro v2 Ub hown hgr
                     have hbU := below_none hgr
                     have hSb : Ub.cell? ⟨n4, 0, none⟩ = some (.slice (some ⟨bm, offm, none⟩) T.ms.length cm) ∧ Ub.cell? ⟨n4, 1, none⟩ = some (.slice oc T.cs.length cc) := by
                       have h9 := HAL.out.trans (hbU.mono HAL.out.size)
                       exact ⟨(h9.cell (p := ⟨n4, 0, none⟩) l4).trans a0, (h9.cell (p := ⟨n4, 1, none⟩) l4).trans a1⟩
                     have HOWN := Lib.hid hown
                     have HBU := Lib.hid hbU
                     clear hown hgr hbU))
              all_goals
                clear hS0 hSb hSc a0 a1 l4 hsl hi hz0 hz1 hz2
                go_wp2_with fail
                go_roundw
                case rel => exact ⟨j + 1, vs2, vl2, by simp, by omega, rfl, by rw [HPT.out]; exact HB2.out, HT2.out, HAT2.out, HSZ.out, HRC.out⟩
                case measure => simp [intOf]; omega
            · have hfl' : (L0 && (List.range q).all fun i => !clashB T.cs ⟨bs.length, atOf ps bs.length, j⟩ ⟨i, atOf ps i, atOf bs i⟩) = false := by simpa using hfl
              have hokN : okN' T ps bs j = false := by
                unfold okN'
                rw [HL0.out]
                cases hL : L0 with
                | false => rfl
                | true =>
                  rw [hL] at hfl'
                  simp only [Bool.true_and] at hfl' ⊢
                  rw [List.all_eq_false] at hfl' ⊢
                  obtain ⟨x, hx, hx2⟩ := hfl'
                  exact ⟨x, List.mem_range.2 (by have := List.mem_range.1 hx; omega), hx2⟩
              rw [hfl']
              have hFj : F j = [] := by rw [HF.out]; show (if okN' T ps bs j = true then _ else _) = _; rw [hokN]; rfl
              have hpart : (List.range (j + 1)).flatMap F = (List.range j).flatMap F := by rw [List.range_succ, List.flatMap_append]; simp [hFj]
              have HPT := Lib.hid hpart
              have HBN := Lib.hid (HBX.out.keep hXU)
              have HTN := Lib.hid (HTX.out.trans (Tch.of_below (Cb := fun b => vl.ownBlock = some b) hXU))
              have HRN := Lib.hid (HR4X.out.keep hXU)
              have hsz := hXU.size
              clear hfl hfl' hokN hFj hpart hXU hgo
              go_wp2_with fail
              go_roundw
              case rel => exact ⟨j + 1, vs1, _, by simp, by omega, rfl, by rw [HPT.out]; exact HBN.out, HTN.out, HAT.out, by omega, HRN.out⟩
              case measure => simp [intOf]; omega
      · have hjn : j = m.n := by omega
        subst hjn
        have HBN := HBX
        have hsz := HB.out.size
        go_wp2
        go_ret
        exact ⟨vs1, _, rfl, HBN.out, HTX.out, fun b hb => by
          rcases HAT.out b hb with h | h
          · exact .inl h
          · exact .inr (by omega)⟩
end Go.Proofs.Jn
end

section
/-
  Walks of the reference: Moves.
-/
namespace Go.Proofs.Jn
open Go.RowKit Go.Shelf

theorem OB.ll {W : World} {base : Nat} {ls : List (List Nat)} {vs : List Value} {vl : Value} (h : OB W base ls vs vl) : ∃ ol cl, vl = .slice ol ls.length cl ∧ LL W ol ls := by
  obtain ⟨ol, cl, hv⟩ := own_slice h.own
  rw [h.len] at hv
  refine ⟨ol, cl, hv, vs, ?_, h.len, fun i v l hv2 hl => ?_⟩
  · have ho := h.own
    have e1 : (vs.map fun v => [v]).length = vs.length := by simp
    have ho2 : W.ownsRow base 22 1 vl (vs.map fun v => [v]).length (vs.map fun v => [v]).flatten := by rw [ones_flat, e1]; exact ho
    intro hne
    obtain ⟨oa, cap, hv2, hs⟩ := own_rows (fun r hr => by obtain ⟨e, _, rfl⟩ := List.mem_map.1 hr; rfl) ho2
    rw [hv] at hv2
    injection hv2 with hv2 _ _
    rw [hv2]
    exact hs hne
  · have ho := h.row i v l hv2 hl
    obtain ⟨o, c, rfl⟩ := own_slice ho
    exact ⟨o, c, rfl, own_nvals ho⟩
set_option maxRecDepth 100000 in
set_option maxHeartbeats 4000000 in
theorem refMoves_any (om oc oa : Option Addr) (cm cc ca : Nat) (T : Tm) (ps : List Nat) (w : World) (hO : TeamOk T) (hp : InR T ps) (hT : TeamAt w om oc T) (hA : Sl w oa 1 (nvals ps)) :
    Calls Try.prog 15 #[.agg #[.slice om T.ms.length cm, .slice oc T.cs.length cc], .slice oa ps.length ca] w fun e W => ∃ ol cl, e = .returned (.slice ol (nextR T ps T.ms.length []).length cl) ∧ LL W ol (nextR T ps T.ms.length []) ∧ Below w.heap.size w W := by
  have hn2 := hO.n2
  have HO := Lib.hid hO
  have HP := Lib.hid hp
  clear hO hp
  go_enter Try.func15, Try.ntmps15
  go_upto_region 1 with fail
  have hbx_ := boxes1 w [.slice om T.ms.length cm, .slice oc T.cs.length cc] 26
  replace hT := hT.keep hbx_.2
  replace hA := hA.keep hbx_.2
  have HB := Lib.hid (hbx_.2)
  generalize w.alloc (.cells #[.slice om T.ms.length cm, .slice oc T.cs.length cc] 26) = W0 at hbx_ hT hA HB ⊢
  obtain ⟨r2, hbel_⟩ := hbx_
  obtain ⟨n2', hn_⟩ : ∃ n, n = w.heap.size := ⟨_, rfl⟩
  rw [← hn_] at r2 ⊢
  clear hn_ hbel_
  have HCK := Lib.hid (checkT_any om oc cm cc T W0 HO.out hT)
  have HT := Lib.hid hT
  have HA := Lib.hid hA
  have HR2 := Lib.hid r2
  have a0 : W0.cell? ⟨n2', 0, none⟩ = some (.slice om T.ms.length cm) := r2.c 0 _ rfl
  have a1 : W0.cell? ⟨n2', 1, none⟩ = some (.slice oc T.cs.length cc) := r2.c 1 _ rfl
  have l2 := r2.lt
  clear hT hA r2
  go_wp2_with fail
  with_reducible refine HCK.out.mono ?_
  rintro e X1 ⟨rfl, hb⟩
  clear a0 a1 l2 HCK
  have r2 := HR2.out.keep hb
  have HPL := Lib.hid (placed_any om oc oa cm cc ca T ps X1 HO.out HP.out (HT.out.keep hb) (HA.out.keep hb))
  have HB1 := Lib.hid hb
  have a0 : X1.cell? ⟨n2', 0, none⟩ = some (.slice om T.ms.length cm) := r2.c 0 _ rfl
  have a1 : X1.cell? ⟨n2', 1, none⟩ = some (.slice oc T.cs.length cc) := r2.c 1 _ rfl
  have l2 := r2.lt
  clear hb r2
  go_wp2_with fail
  with_reducible refine HPL.out.mono ?_
  rintro e X2 ⟨rfl, hb⟩
  clear a0 a1 l2 HPL
  have hb2 := below_call HB1.out hb
  have r2 := HR2.out.keep hb2
  have hnx := next_all om oc oa cm cc ca T ps X2 HO.out HP.out (HT.out.keep hb2) (HA.out.keep hb2) T.ms.length [] none 0 [] [] (.slice none 0 0) X2 (by simp) (Below.refl _ _) (fun h => absurd rfl h) (Nat.le_refl _) (fun _ => rfl) (OB.nil _ _) (fun _ _ _ h => by cases h) (by
    have : 1000 ^ T.ms.length ≤ 1000 ^ 4 := Nat.pow_le_pow_right (by omega) hn2
    simp; omega)
  rw [List.nil_append] at hnx
  have HNX := Lib.hid hnx
  have HB2 := Lib.hid (below_call HB.out hb2)
  have a0 : X2.cell? ⟨n2', 0, none⟩ = some (.slice om T.ms.length cm) := r2.c 0 _ rfl
  have a1 : X2.cell? ⟨n2', 1, none⟩ = some (.slice oc T.cs.length cc) := r2.c 1 _ rfl
  have l2 := r2.lt
  clear hb hb2 r2 hnx
  go_wp2_with fail
  refine HNX.out.mono ?_
  rintro e Y ⟨vs', vl', rfl, hOB, hT', -⟩
  obtain ⟨ol, cl, rfl, hLL⟩ := hOB.ll
  have HLL := Lib.hid hLL
  have HY := Lib.hid (below_call HB2.out (tch_fresh (Below.refl _ _) hT' (fun b hb => by cases hb)))
  clear a0 a1 l2 hLL hT' hOB HNX
  go_wp2
  go_ret
  exact ⟨ol, cl, rfl, HLL.out, HY.out⟩
end Go.Proofs.Jn
end

