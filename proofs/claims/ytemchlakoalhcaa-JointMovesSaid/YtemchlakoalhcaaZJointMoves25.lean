/-
  Texts put together: Kf Kg Gg Gh Gi.
-/
import Derived.Test.YtemchlakoalhcaaZJointMoves24
import Derived.Test.YtemchlakoalhcaaZJointMoves23
import Derived.Test.YtemchlakoalhcaaZJointMoves18
set_option linter.unusedVariables false
section
/-
  Arbitrary teams: CheckTeam.
-/
namespace Go.Proofs.Jn
open Go.RowKit Go.Shelf

set_option maxRecDepth 100000 in
set_option maxHeartbeats 4000000 in
theorem checkT_raw (om oc : Option Addr) (cm cc : Nat) (ms : List Rm) (cs : List Rc) (w : World) (hS : SmallR ms cs) (hT : RawAt w om oc ms cs) :
    Calls Try.prog 36 #[.agg #[.slice om ms.length cm, .slice oc cs.length cc]] w (VerP (ChkI ms cs) w) := by
  have hn2 := hS.n2
  have hcn := hS.cn
  have HS := Lib.hid hS
  clear hS
  go_enter Try.func36, Try.ntmps36
  go_upto_region 1 with fail
  have hbx_ := boxes1 w [.slice om ms.length cm, .slice oc cs.length cc] 26
  replace hT := hT.keep hbx_.2
  have HB := Lib.hid (hbx_.2)
  generalize w.alloc (.cells #[.slice om ms.length cm, .slice oc cs.length cc] 26) = W0 at hbx_ hT HB ⊢
  obtain ⟨r1, hbel_⟩ := hbx_
  obtain ⟨n1, hn_⟩ : ∃ n, n = w.heap.size := ⟨_, rfl⟩
  rw [← hn_] at r1 ⊢
  clear hn_ hbel_
  have HT := Lib.hid hT
  have HR1 := Lib.hid r1
  have a0 : W0.cell? ⟨n1, 0, none⟩ = some (.slice om ms.length cm) := r1.c 0 _ rfl
  have a1 : W0.cell? ⟨n1, 1, none⟩ = some (.slice oc cs.length cc) := r1.c 1 _ rfl
  have l1 := r1.lt
  clear hT r1
  by_cases hz : ms.length < 1
  · have d1 : decide ((ms.length : Int) < 1) = true := decide_eq_true (by omega)
    have HNO : Hid (¬ ChkI ms cs) := Lib.hid fun h => by have := h.n1; omega
    clear hz
    go_wp2_with fail
    go_ret
    exact verP_no HNO.out HB.out
  · have d1 : decide ((ms.length : Int) < 1) = false := decide_eq_false (by omega)
    have d2 : decide ((ms.length : Int) > 4) = false := decide_eq_false (by omega)
    have d3 : decide ((cs.length : Int) > 4096) = false := decide_eq_false (by omega)
    have HN1 : Hid (1 ≤ ms.length) := Lib.hid (by omega)
    clear hz
    go_wp2_with fail
    clear a0 a1 l1 d1 d2 d3
    go_loopw [3] (fun i W => ∃ k : Nat, k ≤ ms.length ∧ i = .int .i64 (k : Nat) ∧ Below W0.heap.size W0 W ∧ ∀ (j : Nat) (m : Rm), j < k → ms[j]? = some m → WF m) (fun i _ => ms.length - (intOf i).toNat)
    case atStart => exact ⟨0, Nat.zero_le _, rfl, Below.refl _ _, fun j m h => absurd h (Nat.not_lt_zero _)⟩
    case round =>
      obtain ⟨k, hk, rfl, hW, hto⟩ := hrel
      obtain ⟨Wa, rfl⟩ : ∃ X, X = wr := ⟨_, rfl⟩
      have HTO := Lib.hid hto
      have HW := Lib.hid hW
      have r1 := HR1.out.keep hW
      have a0 : Wa.cell? ⟨n1, 0, none⟩ = some (.slice om ms.length cm) := r1.c 0 _ rfl
      have a1 : Wa.cell? ⟨n1, 1, none⟩ = some (.slice oc cs.length cc) := r1.c 1 _ rfl
      have l1 := r1.lt
      clear hto hW r1
      by_cases hlt : k < ms.length
      · obtain ⟨m, hm⟩ : ∃ r, ms[k]? = some r := ⟨_, List.getElem?_eq_getElem hlt⟩
        have hmm := List.mem_of_getElem? hm
        obtain ⟨bm, offm, hom, hMr⟩ := (HT.out.keep HW.out).rm (map_ne hlt)
        rw [hom] at a0
        have x0 : Wa.cell? ⟨bm, offm + k * 2, none⟩ = some (.slice m.op m.n m.cp) := hMr.c k _ (map_get hm) 0 _ rfl
        have x1 : Wa.cell? ⟨bm, offm + k * 2 + 1, none⟩ = some (.slice m.oe m.es.length m.ce) := hMr.c k _ (map_get hm) 1 _ rfl
        have lbm := hMr.lt
        have HM := Lib.hid hm
        have HMM := Lib.hid hmm
        have hwf := formed_raw m Wa (HS.out.mn m HMM.out) (HS.out.me m HMM.out) ((HT.out.keep HW.out).es m HMM.out)
        have HWF := Lib.hid hwf
        clear hMr hm hmm hom hwf
        go_wp2_with fail
        with_reducible refine HWF.out.mono ?_
        rintro e X ⟨b, rfl, hbi, hb⟩
        have HX := Lib.hid (below_call HW.out hb)
        clear hb x0 x1 lbm a0 a1 l1 HWF
        cases b with
        | false =>
          have HNO : Hid (¬ ChkI ms cs) := Lib.hid fun h => by have := hbi.2 (h.wf m HMM.out); cases this
          clear hbi
          go_wp2_with fail
          go_ret
          exact verP_no HNO.out (below_call HB.out HX.out)
        | true =>
          have HTN : Hid (∀ (j : Nat) (m : Rm), j < k + 1 → ms[j]? = some m → WF m) := Lib.hid fun j m' hj hm' => by
            rcases Nat.lt_or_ge j k with h1 | h1
            · exact HTO.out j m' h1 hm'
            · have : j = k := by omega
              subst this
              rw [HM.out] at hm'; injection hm' with hm'; subst hm'
              exact hbi.1 rfl
          clear hbi
          go_wp2_with fail
          go_roundw
          case rel => exact ⟨k + 1, by omega, by simp, HX.out, HTN.out⟩
          case measure => simp [intOf]; omega
      · obtain rfl : k = ms.length := by omega
        have HWF := Lib.hid (wf_mem HTO.out)
        go_wp2_with fail
        clear a0 a1 l1
        go_loopw [4] (fun i W => ∃ k : Nat, k ≤ cs.length ∧ i = .int .i64 (k : Nat) ∧ Below W0.heap.size W0 W ∧ ∀ (j : Nat) (c : Rc), j < k → cs[j]? = some c → c.a.arm ≠ c.b.arm ∧ LegI (ms.map toM) c.a ∧ LegI (ms.map toM) c.b) (fun i _ => cs.length - (intOf i).toNat)
        case atStart => exact ⟨0, Nat.zero_le _, rfl, HW.out, fun j c h => absurd h (Nat.not_lt_zero _)⟩
        case round =>
          clear HTO HW
          obtain ⟨k, hk, rfl, hW, hto⟩ := hrel
          obtain ⟨Wb, rfl⟩ : ∃ X, X = wr := ⟨_, rfl⟩
          have HTO := Lib.hid hto
          have HW := Lib.hid hW
          have r1 := HR1.out.keep hW
          have a0 : Wb.cell? ⟨n1, 0, none⟩ = some (.slice om ms.length cm) := r1.c 0 _ rfl
          have a1 : Wb.cell? ⟨n1, 1, none⟩ = some (.slice oc cs.length cc) := r1.c 1 _ rfl
          have l1 := r1.lt
          clear hto hW r1
          by_cases hlt : k < cs.length
          · obtain ⟨c, hc⟩ : ∃ r, cs[k]? = some r := ⟨_, List.getElem?_eq_getElem hlt⟩
            obtain ⟨bc, offc, hoc, hCr⟩ := (HT.out.keep HW.out).rc (map_ne hlt)
            have x0 : Wb.cell? ⟨bc, offc + k * 6, none⟩ = some (.int .i64 c.a.arm) := hCr.c k _ (map_get hc) 0 _ rfl
            have x1 : Wb.cell? ⟨bc, offc + k * 6 + 1, none⟩ = some (.int .i64 c.a.x) := hCr.c k _ (map_get hc) 1 _ rfl
            have x2 : Wb.cell? ⟨bc, offc + k * 6 + 2, none⟩ = some (.int .i64 c.a.y) := hCr.c k _ (map_get hc) 2 _ rfl
            have x3 : Wb.cell? ⟨bc, offc + k * 6 + 3, none⟩ = some (.int .i64 c.b.arm) := hCr.c k _ (map_get hc) 3 _ rfl
            have x4 : Wb.cell? ⟨bc, offc + k * 6 + 4, none⟩ = some (.int .i64 c.b.x) := hCr.c k _ (map_get hc) 4 _ rfl
            have x5 : Wb.cell? ⟨bc, offc + k * 6 + 5, none⟩ = some (.int .i64 c.b.y) := hCr.c k _ (map_get hc) 5 _ rfl
            have lbc := hCr.lt
            have HC := Lib.hid hc
            have HOC := Lib.hid hoc
            rw [hoc] at a1
            clear hCr hc hoc
            go_upto_region 12 with fail
            clear x0 x1 x2 x3 x4 x5 lbc a0 a1 l1
            have hbx_ := boxes1 Wb [.int .i64 c.a.arm, .int .i64 c.a.x, .int .i64 c.a.y, .int .i64 c.b.arm, .int .i64 c.b.x, .int .i64 c.b.y] 74
            have HV := Lib.hid (below_call HW.out (hbx_.2))
            generalize Wb.alloc (.cells #[.int .i64 c.a.arm, .int .i64 c.a.x, .int .i64 c.a.y, .int .i64 c.b.arm, .int .i64 c.b.x, .int .i64 c.b.y] 74) = V at hbx_ HV ⊢
            obtain ⟨rV, hbel_⟩ := hbx_
            obtain ⟨nV, hn_⟩ : ∃ n, n = Wb.heap.size := ⟨_, rfl⟩
            rw [← hn_] at rV ⊢
            clear hn_ hbel_
            have HRV := Lib.hid rV
            have r1 := HR1.out.keep HV.out
            have y0 : V.cell? ⟨nV, 0, none⟩ = some (.int .i64 c.a.arm) := rV.c 0 _ rfl
            have y1 : V.cell? ⟨nV, 1, none⟩ = some (.int .i64 c.a.x) := rV.c 1 _ rfl
            have y2 : V.cell? ⟨nV, 2, none⟩ = some (.int .i64 c.a.y) := rV.c 2 _ rfl
            have y3 : V.cell? ⟨nV, 3, none⟩ = some (.int .i64 c.b.arm) := rV.c 3 _ rfl
            have y4 : V.cell? ⟨nV, 4, none⟩ = some (.int .i64 c.b.x) := rV.c 4 _ rfl
            have y5 : V.cell? ⟨nV, 5, none⟩ = some (.int .i64 c.b.y) := rV.c 5 _ rfl
            have a0 : V.cell? ⟨n1, 0, none⟩ = some (.slice om ms.length cm) := r1.c 0 _ rfl
            have a1 : V.cell? ⟨n1, 1, none⟩ = some (.slice (some ⟨bc, offc, none⟩) cs.length cc) := by rw [← HOC.out]; exact r1.c 1 _ rfl
            have lV := rV.lt
            have l1 := r1.lt
            clear rV r1
            have hla := fun X (hX : Below W0.heap.size W0 X) => refLegal_raw om (some ⟨bc, offc, none⟩) cm cc cs.length (ms.map toM) c.a X (by simp; omega) (toM_all fun m hm => HS.out.mn m hm) (toM_all fun m hm => by simpa [toM] using HS.out.me m hm) (by rw [toM_rows]; exact (HT.out.keep hX).rm) (toM_all fun m hm => by rw [toM_edges (HWF.out m hm)]; exact (HT.out.keep hX).es m hm)
            have hlb := fun X (hX : Below W0.heap.size W0 X) => refLegal_raw om (some ⟨bc, offc, none⟩) cm cc cs.length (ms.map toM) c.b X (by simp; omega) (toM_all fun m hm => HS.out.mn m hm) (toM_all fun m hm => by simpa [toM] using HS.out.me m hm) (by rw [toM_rows]; exact (HT.out.keep hX).rm) (toM_all fun m hm => by rw [toM_edges (HWF.out m hm)]; exact (HT.out.keep hX).es m hm)
            rw [List.length_map] at hla hlb
            have HLA := Lib.hid hla
            have HLB := Lib.hid hlb
            clear hla hlb
            go_wp2_with fail
            with_reducible refine (HLA.out _ HV.out).mono ?_
            rintro e X ⟨b, rfl, hbi, hb⟩
            have HX := Lib.hid (below_call HV.out hb)
            have HRX := Lib.hid (HRV.out.keep hb)
            have r1 := HR1.out.keep HX.out
            clear y0 y1 y2 y3 y4 y5 a0 a1 lV l1 hb HLA HRV
            have y0 : X.cell? ⟨nV, 0, none⟩ = some (.int .i64 c.a.arm) := HRX.out.c 0 _ rfl
            have y3 : X.cell? ⟨nV, 3, none⟩ = some (.int .i64 c.b.arm) := HRX.out.c 3 _ rfl
            have y4 : X.cell? ⟨nV, 4, none⟩ = some (.int .i64 c.b.x) := HRX.out.c 4 _ rfl
            have y5 : X.cell? ⟨nV, 5, none⟩ = some (.int .i64 c.b.y) := HRX.out.c 5 _ rfl
            have a0 : X.cell? ⟨n1, 0, none⟩ = some (.slice om ms.length cm) := r1.c 0 _ rfl
            have a1 : X.cell? ⟨n1, 1, none⟩ = some (.slice (some ⟨bc, offc, none⟩) cs.length cc) := by rw [← HOC.out]; exact r1.c 1 _ rfl
            have lV := HRX.out.lt
            have l1 := r1.lt
            clear r1
            cases b with
            | false =>
              have HNO : Hid (¬ ChkI ms cs) := Lib.hid fun h => by have := hbi.2 (h.cf c (List.mem_of_getElem? HC.out)).2.1; cases this
              clear hbi
              go_wp2_with fail
              go_ret
              exact verP_no HNO.out (below_call HB.out HX.out)
            | true =>
              have HGA := Lib.hid (hbi.1 rfl)
              clear hbi
              go_wp2_with fail
              with_reducible refine (HLB.out _ HX.out).mono ?_
              rintro e Y ⟨b, rfl, hbi, hb⟩
              have HY := Lib.hid (below_call HX.out hb)
              have rY := HRX.out.keep hb
              clear y0 y3 y4 y5 a0 a1 lV l1 hb HLB HRX
              have y0 : Y.cell? ⟨nV, 0, none⟩ = some (.int .i64 c.a.arm) := rY.c 0 _ rfl
              have y3 : Y.cell? ⟨nV, 3, none⟩ = some (.int .i64 c.b.arm) := rY.c 3 _ rfl
              have lV := rY.lt
              clear rY
              cases b with
              | false =>
                have HNO : Hid (¬ ChkI ms cs) := Lib.hid fun h => by have := hbi.2 (h.cf c (List.mem_of_getElem? HC.out)).2.2; cases this
                clear hbi
                go_wp2_with fail
                go_ret
                exact verP_no HNO.out (below_call HB.out HY.out)
              | true =>
                have HGB := Lib.hid (hbi.1 rfl)
                clear hbi
                by_cases hne : c.a.arm = c.b.arm
                · have d0 := int_beq c.a.arm c.b.arm
                  rw [decide_eq_true hne] at d0
                  have HNO : Hid (¬ ChkI ms cs) := Lib.hid fun h => (h.cf c (List.mem_of_getElem? HC.out)).1 hne
                  clear hne
                  go_wp2_with fail
                  go_ret
                  exact verP_no HNO.out (below_call HB.out HY.out)
                · have d0 := int_beq c.a.arm c.b.arm
                  rw [decide_eq_false hne] at d0
                  have HTN : Hid (∀ (j : Nat) (c : Rc), j < k + 1 → cs[j]? = some c → c.a.arm ≠ c.b.arm ∧ LegI (ms.map toM) c.a ∧ LegI (ms.map toM) c.b) := Lib.hid fun j c' hj hc' => by
                    rcases Nat.lt_or_ge j k with h1 | h1
                    · exact HTO.out j c' h1 hc'
                    · have : j = k := by omega
                      subst this
                      rw [HC.out] at hc'; injection hc' with hc'; subst hc'
                      exact ⟨hne, HGA.out, HGB.out⟩
                  clear hne
                  go_wp2_with fail
                  go_roundw
                  case rel => exact ⟨k + 1, by omega, by simp, HY.out, HTN.out⟩
                  case measure => simp [intOf]; omega
          · have HOK : Hid (ChkI ms cs) := Lib.hid ⟨HN1.out, HWF.out, fun c hc => by
              obtain ⟨j, hj⟩ := List.mem_iff_getElem?.1 hc
              exact HTO.out j c (by have := (List.getElem?_eq_some_iff.1 hj).1; omega) hj⟩
            have HEND := Lib.hid (below_call HB.out HW.out)
            go_wp2_with fail
            go_ret
            exact verP_yes HOK.out HEND.out
end Go.Proofs.Jn
end

section
/-
  Plain law: the two lists of moves are one.
-/
namespace Go.Proofs.Jn
open Go.RowKit Go.Shelf

theorem asc_lex {m : Mp} (hm : MapOk m) {i : Nat} {f : Ed} (hf : m.es[i]? = some f) : ∀ (k : Nat) (e : Ed), i < k → m.es[k]? = some e → f.u < e.u ∨ (f.u = e.u ∧ f.v < e.v)
  | 0, e, h, _ => absurd h (Nat.not_lt_zero _)
  | k + 1, e, h, he => by
    obtain ⟨g, hg⟩ : ∃ g, m.es[k]? = some g := ⟨_, List.getElem?_eq_getElem (by have := (List.getElem?_eq_some_iff.1 he).1; omega)⟩
    have h1 := hm.asc k g e hg he
    rcases Nat.lt_or_ge i k with h2 | h2
    · have := asc_lex hm hf k g h2 hg
      omega
    · have : i = k := by omega
      subst this
      rw [hf] at hg; injection hg with hg; subst hg
      exact h1
theorem addAt_at {ls : List (List Nat)} {i x j : Nat} (hi : i < ls.length) : ((addAt ls i x)[j]?).getD [] = if j = i then (ls[j]?).getD [] ++ [x] else (ls[j]?).getD [] := by
  unfold addAt
  rw [List.getElem?_set]
  by_cases h : i = j
  · subst h
    rw [if_pos rfl, if_pos hi, if_pos rfl]
    rfl
  · rw [if_neg h, if_neg (fun e => h e.symm)]
theorem nodup_snoc {l : List Nat} {x : Nat} (h : l.Nodup) (hx : x ∉ l) : (l ++ [x]).Nodup := by
  rw [List.nodup_append]
  refine ⟨h, by simp, fun a ha b hb => ?_⟩
  simp at hb
  subst hb
  exact fun e => hx (e ▸ ha)
theorem laid_nodup {m : Mp} (hm : MapOk m) : ∀ (k : Nat), k ≤ m.es.length → ∀ x : Nat, (((laid m k)[x]?).getD []).Nodup
  | 0, _, x => by
    rw [laid_zero]
    unfold selfL
    by_cases h : x < m.n
    · simp [h]
    · simp [h]
  | k + 1, hk, x => by
    obtain ⟨e, he⟩ : ∃ e, m.es[k]? = some e := ⟨_, List.getElem?_eq_getElem (by omega)⟩
    have hed := hm.ed e (List.mem_of_getElem? he)
    have ih := laid_nodup hm k (by omega)
    have hno : ∀ f ∈ m.es.take k, ¬ (f.u = e.u ∧ f.v = e.v) ∧ f.u < f.v := fun f hf => by
      obtain ⟨i, hi⟩ := List.mem_iff_getElem?.1 hf
      rw [List.getElem?_take] at hi
      split at hi
      · next hik =>
        have h1 := asc_lex hm hi k e hik he
        have h2 := hm.ed f (List.mem_of_getElem? hi)
        omega
      · cases hi
    rw [laid_succ he]
    unfold addE
    split
    · rw [addAt_at (by rw [addAt_len, laid_len]; omega)]
      by_cases h1 : x = e.v
      · rw [if_pos h1, addAt_at (by rw [laid_len]; omega), if_neg (by omega)]
        refine nodup_snoc (ih x) fun h2 => ?_
        rw [mem_laid hm k (by omega)] at h2
        rcases h2 with h2 | ⟨f, hf, -, h3⟩
        · omega
        · have := hno f hf; omega
      · rw [if_neg h1, addAt_at (by rw [laid_len]; omega)]
        by_cases h2 : x = e.u
        · rw [if_pos h2]
          refine nodup_snoc (ih x) fun h3 => ?_
          rw [mem_laid hm k (by omega)] at h3
          rcases h3 with h3 | ⟨f, hf, -, h4⟩
          · omega
          · have := hno f hf; omega
        · rw [if_neg h2]; exact ih x
    · exact ih x
theorem sorted_eq : ∀ {l l' : List Nat}, l.Pairwise (· < ·) → l'.Pairwise (· < ·) → (∀ x, x ∈ l ↔ x ∈ l') → l = l'
  | [], [], _, _, _ => rfl
  | [], b :: l', _, _, h => absurd ((h b).2 (by simp)) (by simp)
  | a :: l, [], _, _, h => absurd ((h a).1 (by simp)) (by simp)
  | a :: l, b :: l', h1, h2, h => by
    obtain ⟨p1, q1⟩ := List.pairwise_cons.1 h1
    obtain ⟨p2, q2⟩ := List.pairwise_cons.1 h2
    have hab : a = b := by
      rcases List.mem_cons.1 ((h a).1 (by simp)) with e | e
      · exact e
      · rcases List.mem_cons.1 ((h b).2 (by simp)) with e' | e'
        · exact e'.symm
        · have := p1 b e'; have := p2 a e; omega
    subst hab
    congr 1
    refine sorted_eq q1 q2 fun x => ⟨fun hx => ?_, fun hx => ?_⟩
    · rcases List.mem_cons.1 ((h x).1 (by simp [hx])) with e | e
      · subst e; exact absurd (p1 x hx) (Nat.lt_irrefl _)
      · exact e
    · rcases List.mem_cons.1 ((h x).2 (by simp [hx])) with e | e
      · subst e; exact absurd (p2 x hx) (Nat.lt_irrefl _)
      · exact e
theorem srt_lt {l : List Nat} (h : l.Nodup) : (srt l).Pairwise (· < ·) := by
  have h1 : (srt l).Pairwise (fun a b => decide (a ≤ b) = true) := List.pairwise_mergeSort (fun a b c h1 h2 => by simp at *; omega) (fun a b => by simp; omega) l
  have h2 : (srt l).Nodup := ((List.mergeSort_perm l _).nodup_iff).2 h
  have h3 := h1.and h2
  exact h3.imp fun {a b} h => by
    have h4 : a ≤ b := by simpa using h.1
    have h5 : a ≠ b := h.2
    omega
theorem next_filter {T : Tm} {j : Nat} {m : Mp} (hm : MapOk m) (hj : T.ms[j]? = some m) {x : Nat} (hx : x < m.n) : nextAt (T.ms.map nextOf) j x = (List.range m.n).filter fun y => legB T ⟨j, x, y⟩ := by
  have h1 : nextAt (T.ms.map nextOf) j x = srt (((laid m m.es.length)[x]?).getD []) := by
    have h1 : nextAt (T.ms.map nextOf) j x = (((nextOf m))[x]?).getD [] := by simp [nextAt, hj]
    rw [h1]
    unfold nextOf
    have : x < (laid m m.es.length).length := by rw [laid_len]; exact hx
    simp [this]
  refine sorted_eq (by rw [h1]; exact srt_lt (laid_nodup hm _ (Nat.le_refl _) x)) (List.pairwise_lt_range.filter _) fun y => ?_
  rw [List.mem_filter, List.mem_range]
  constructor
  · intro hy
    have hyn : y < m.n := by
      rw [h1, srt_mem, mem_laid hm _ (Nat.le_refl _), List.take_length] at hy
      rcases hy with h | ⟨e, he, -, h⟩
      · omega
      · have := hm.ed e he; omega
    exact ⟨hyn, (mem_next hm hj hx hyn).1 hy⟩
  · rintro ⟨hyn, hy⟩
    exact (mem_next hm hj hx hyn).2 hy
theorem flat_filter (l : List Nat) (p : Nat → Bool) (f : Nat → List (List Nat)) : (l.filter p).flatMap f = l.flatMap fun v => if p v = true then f v else [] := by
  induction l with
  | nil => rfl
  | cons a l ih =>
    rw [List.flatMap_cons, ← ih, List.filter_cons]
    split <;> simp
theorem enL_next {T : Tm} (hO : TeamOk T) {ps : List Nat} (hp : InR T ps) : ∀ (d k : Nat) (t : S4) (bs : List Nat), k + d = T.ms.length → bs.length = k → (∀ i, i < k → (t.get i).toNat = atOf bs i) →
    enL (T.ms.map nextOf) (clOf T.cs) (atOf ps) T.ms.length d k t = nextR T ps d bs
  | 0, k, t, bs, hk, hb, ht => by
    show [rowOf T.ms.length t] = [bs]
    rw [(rowOf_eq _ t bs).2 ⟨by omega, fun i hi => (ht i (by omega)).symm⟩]
  | d + 1, k, t, bs, hk, hb, ht => by
    have hk4 : k < 4 := by have := hO.n2; omega
    obtain ⟨m, hm⟩ : ∃ m, T.ms[k]? = some m := ⟨_, List.getElem?_eq_getElem (by omega)⟩
    have hmo := hO.mo m (List.mem_of_getElem? hm)
    show (nextAt (T.ms.map nextOf) k (atOf ps k)).flatMap _ = (List.range (((T.ms[bs.length]?).map Mp.n).getD 0)).flatMap _
    rw [next_filter hmo hm (atOf_lt hp hm), flat_filter, hb, hm]
    show (List.range m.n).flatMap _ = (List.range m.n).flatMap _
    congr 1
    funext v
    have hg : ∀ i, i < k + 1 → ((t.set k (v : Nat)).get i).toNat = atOf (bs ++ [v]) i := fun i hi => by
      rw [S4.get_set t k i _ hk4 (by omega)]
      by_cases e : i = k
      · subst e; simp [atOf, hb]
      · rw [if_neg e, ht i (by omega)]
        simp only [atOf]
        rw [List.getElem?_append_left (by omega)]
    have hfr : frB (clOf T.cs) (atOf ps) (t.set k (v : Nat)) k = (List.range bs.length).all fun i => !clashB T.cs ⟨bs.length, atOf ps bs.length, v⟩ ⟨i, atOf ps i, atOf bs i⟩ := by
      unfold frB
      rw [free_clash, hb, Bool.eq_iff_iff, List.all_eq_true, List.all_eq_true]
      have key : ∀ i ∈ List.range k, (!clashB T.cs ⟨k, atOf ps k, ((t.set k (v : Nat)).get k).toNat⟩ ⟨i, atOf ps i, ((t.set k (v : Nat)).get i).toNat⟩) = !clashB T.cs ⟨k, atOf ps k, v⟩ ⟨i, atOf ps i, atOf bs i⟩ := fun i hi => by
        have hik := List.mem_range.1 hi
        have e1 : ((t.set k (v : Nat)).get k).toNat = v := by rw [hg k (by omega)]; simp [atOf, hb]
        have e2 : ((t.set k (v : Nat)).get i).toNat = atOf bs i := by
          rw [hg i (by omega)]
          simp only [atOf]
          rw [List.getElem?_append_left (by omega)]
        rw [e1, e2]
      exact ⟨fun h i hi => by rw [← key i hi]; exact h i hi, fun h i hi => by rw [key i hi]; exact h i hi⟩
    rw [hfr]
    have hen := enL_next hO hp d (k + 1) (t.set k (v : Nat)) (bs ++ [v]) (by omega) (by simp [hb]) hg
    rw [hen]
    unfold okN'
    rw [hb]
    by_cases h1 : legB T ⟨k, atOf ps k, v⟩ = true
    · rw [if_pos h1, h1, Bool.true_and]
    · rw [if_neg h1, if_neg (by simp [h1])]
/-- The two lists of moves are one. -/
theorem moves_next {T : Tm} (hO : TeamOk T) {ps : List Nat} (hp : InR T ps) : (movesE T ps).2 = nextR T ps T.ms.length [] := by
  unfold movesE
  rw [exp_en, hp.1]
  simp only [List.nil_append]
  exact enL_next hO hp T.ms.length 0 s4n [] (by omega) rfl fun i h => absurd h (Nat.not_lt_zero _)
end Go.Proofs.Jn
end

section
/-
  Walks of the reference: next.
-/
namespace Go.Proofs.Jn
open Go.RowKit Go.Shelf

theorem below_none {W W' : World} (h : W.grownBy W' none) : Below W.heap.size W W' := ⟨h.os, h.tape, h.output, h.size, fun b hb => h.block b hb (by simp)⟩
theorem tch_fresh {W0 W W' : World} {vl : Value} (h : Below W0.heap.size W0 W) (k : Tch (fun b => vl.ownBlock = some b) W W') (hv : ∀ b, vl.ownBlock = some b → W0.heap.size ≤ b) : Below W0.heap.size W0 W' :=
  h.trans ⟨k.os, k.tape, k.output, k.size, fun b hb => k.block b (Nat.lt_of_lt_of_le hb h.size) (fun e => by have := hv b e; omega)⟩
theorem nextR_len {T : Tm} (hO : TeamOk T) {ps : List Nat} : ∀ (d : Nat) (bs : List Nat), (nextR T ps d bs).length ≤ 1000 ^ d
  | 0, bs => by simp [nextR]
  | d + 1, bs => by
    simp only [nextR, List.length_flatMap]
    have h1 : ((List.range (((T.ms[bs.length]?).map Mp.n).getD 0)).map fun v => (if okN' T ps bs v = true then nextR T ps d (bs ++ [v]) else []).length).sum ≤ (List.range (((T.ms[bs.length]?).map Mp.n).getD 0)).length * 1000 ^ d := by
      generalize List.range (((T.ms[bs.length]?).map Mp.n).getD 0) = l
      induction l with
      | nil => simp
      | cons v r ih =>
        simp only [List.map_cons, List.sum_cons, List.length_cons, Nat.succ_mul]
        have : (if okN' T ps bs v = true then nextR T ps d (bs ++ [v]) else []).length ≤ 1000 ^ d := by
          split
          · exact nextR_len hO d _
          · simp
        omega
    refine Nat.le_trans h1 ?_
    rw [List.length_range, Nat.pow_succ, Nat.mul_comm]
    apply Nat.mul_le_mul_left
    cases hm : T.ms[bs.length]? with
    | none => simp
    | some m => simpa using (hO.mo m (List.mem_of_getElem? hm)).n2
/-- What next answers. -/
def NextE (W0 W : World) (rows : List (List Nat)) (vl : Value) (e : Ending) (W' : World) : Prop := ∃ vs' vl', e = .returned vl' ∧ OB W' W0.heap.size rows vs' vl' ∧ Tch (fun b => vl.ownBlock = some b) W W' ∧ ∀ b, vl'.ownBlock = some b → vl.ownBlock = some b ∨ W.heap.size ≤ b
set_option maxRecDepth 100000 in
set_option maxHeartbeats 4000000 in
theorem next_zero (om oc oa : Option Addr) (cm cc ca : Nat) (T : Tm) (ps : List Nat) (W0 : World) (hpn : ps.length = T.ms.length) (hn1 : 1 ≤ T.ms.length) (bs : List Nat) (ob : Option Addr) (cb : Nat) (rows : List (List Nat)) (vs : List Value) (vl : Value) (W : World) (hbl : bs.length = T.ms.length) (hn4 : T.ms.length ≤ 4) (hW : Below W0.heap.size W0 W)
    (hS : Sl W ob 1 (nvals bs)) (hB : OB W W0.heap.size rows vs vl) (hr : rows.length < 1000000000000) :
    Calls Try.prog 39 #[.agg #[.slice om T.ms.length cm, .slice oc T.cs.length cc], .slice oa ps.length ca, .slice ob bs.length cb, vl] W (NextE W0 W (rows ++ [bs]) vl) := by
  obtain ⟨b, off, rfl, hR⟩ := hS (nvals_ne (k := 0) (by omega))
  have heq := int_beq (bs.length : Int) (ps.length : Int)
  rw [decide_eq_true (by omega)] at heq
  have hvr : vs.length = rows.length := hB.len
  have hsz0 := hW.size
  have hpos : 0 < bs.length := by omega
  have hb4 : bs.length ≤ 4 := by omega
  have HX := Lib.hid (And.intro hpn (And.intro hbl hvr))
  have hvs : vs.length < 1000000000000 := by omega
  clear hpn hbl hvr hr
  go_enter Try.func39, Try.ntmps39
  go_upto_region 1 with fail
  have hbx_ := boxes1 W [.slice om T.ms.length cm, .slice oc T.cs.length cc] 26
  replace hR := hR.keep hbx_.2
  replace hB := hB.keep hbx_.2
  have HB := Lib.hid (hbx_.2)
  generalize W.alloc (.cells #[.slice om T.ms.length cm, .slice oc T.cs.length cc] 26) = V at hbx_ hR hB HB ⊢
  obtain ⟨r4, hbel_⟩ := hbx_
  obtain ⟨n4, hn_⟩ : ∃ n, n = W.heap.size := ⟨_, rfl⟩
  rw [← hn_] at r4 ⊢
  clear hn_ hbel_
  go_upto_region 3 with fail
  clear r4 heq
  obtain ⟨i0, hi, hz0, hz1, hz2⟩ := info_parts info3
  have hO0 : V.ownsRow W0.heap.size 3 1 (.slice none 0 0) 0 [] := World.ownsRow_nil _ _ _ _
  have hszV := HB.out.size
  have HRV := Lib.hid hR
  have HBV := Lib.hid hB
  clear hR hB
  go_wp2_with (at_builtin; go_loud (refine wpList_append_lies _ rfl _ _ 22 rfl W0.heap.size 3 i0 (.int .i64 0) 1 8 under22 hi hz0 hz1 hz2 rfl (by decide) _ _ _ rfl hO0 ⟨b, off, none⟩ bs.length cb (nflat bs) rfl ?c1 ?c2 ?c3 ?c4 ?c5 ?c6 ?c7 _ rfl ?_))
  case c1 => rw [nflat_len]; omega
  case c2 =>
    intro j u hu
    simp only [nflat, List.getElem?_map, Option.map_eq_some_iff] at hu
    obtain ⟨x, hx, rfl⟩ := hu
    have := HRV.out.c j _ (nvals_get hx) 0 _ rfl
    rw [← this]
    congr 1
    unfold Addr.add
    split <;> simp_all
  case c3 => intro u hu; simp only [nflat, List.mem_map] at hu; obtain ⟨x, _, rfl⟩ := hu; rfl
  case c4 => exact hpos
  case c5 => unfold maxLen; omega
  case c6 => omega
  case c7 => omega
  intro g cap w9 hown hgr hat hlt
  have hown' : w9.ownsRow W0.heap.size 3 1 (.slice (some ⟨g, 0, none⟩) bs.length cap) bs.length (nflat bs) := by
    first
      | exact hown
      | simpa using hown
  have hb9 := below_none hgr
  have hg9 : V.heap.size ≤ g := by
    rcases hat with h | h
    · cases h
    · omega
  have hal : Below w9.heap.size w9 (w9.alloc (.cells #[.slice (some ⟨g, 0, none⟩) bs.length cap] 22)) := (Below.refl _ _).alloc (Nat.le_refl _) _
  have HB2 := Lib.hid ((HBV.out.keep hb9).keep hal)
  have HROW := Lib.hid (own_keep hown' hal)
  have HBL := Lib.hid (below_call HB.out (below_call hb9 hal))
  have HG9 : Hid (∀ c, vl.ownBlock = some c → c < V.heap.size) := Lib.hid fun c hc => (own_lt HBV.out.own c hc).1
  have HGG := Lib.hid hg9
  have HCC := Lib.hid (new_cells w9 [.slice (some ⟨g, 0, none⟩) bs.length cap] 22)
  have hsz9 := hb9.size
  clear hi hz0 hz1 hz2 hown hown' hgr hat hlt hb9 hal hO0 hg9
  obtain ⟨i0, hi, hz0, hz1, hz2⟩ := info_parts info22
  go_wp2_with (at_builtin; go_loud (refine wpList_append_lies _ rfl _ _ 30 rfl W0.heap.size 22 i0 (.slice none 0 0) 1 24 under30 hi hz0 hz1 hz2 rfl (by decide) _ _ _ rfl HB2.out.own ⟨w9.heap.size, 0, none⟩ 1 1 [.slice (some ⟨g, 0, none⟩) bs.length cap] rfl rfl ?d1 ?d2 (by decide) ?d3 ?d4 ?d5 _ rfl ?_))
  case d1 => simpa using HCC.out
  case d2 => intro u hu; simp at hu; subst hu; rfl
  case d3 => unfold maxLen; omega
  case d4 => omega
  case d5 => simp; omega
  intro g' c' w8 hown hgr hat hlt
  have happ := HB2.out.app _ bs g' c' hown hgr (by
    rcases hat with h | h
    · exact .inl h
    · exact .inr (by simp at h ⊢; omega)) HROW.out (fun c hc e => by
    simp [Value.ownBlock] at hc
    subst hc
    have h1 := HG9.out _ e
    have h2 := HGG.out
    omega)
  have HT := Lib.hid ((Tch.of_below (Cb := fun c => vl.ownBlock = some c) HBL.out).trans (Tch.of_grown hgr fun c hc => hc))
  have HAPP := Lib.hid happ
  have HAT : Hid (vl.ownBlock = some g' ∨ W.heap.size ≤ g') := Lib.hid (by
    rcases hat with h | h
    · exact .inl h
    · have := HBL.out.size; exact .inr (by simp at h this; omega))
  clear hi hz0 hz1 hz2 hown hgr hat hlt happ
  go_wp2
  go_ret
  refine ⟨_, _, rfl, HAPP.out, HT.out, fun c hc => ?_⟩
  simp [Value.ownBlock] at hc
  subst hc
  exact HAT.out
end Go.Proofs.Jn
end

section
/-
  Walks of the reference: next, the whole.
-/
namespace Go.Proofs.Jn
open Go.RowKit Go.Shelf

theorem slice22 (ob : Option Addr) (k cb : Nat) (hk : k ≤ cb) (hn : ob = none → cb = 0) (w : World) : (Instr.sliceAt 22 (.slice ob k cb) none (some (.int .i64 (k : Nat))) (some (.int .i64 (k : Nat)))).run Try.prog w = .ok (.slice ob k k) w := by
  cases ob with
  | none =>
    have := hn rfl
    subst this
    have : k = 0 := by omega
    subst this
    simp [Instr.sliceAt, go_sem, run_underlying under22]
  | some a =>
    have h2 : (k : Int) ≤ (cb : Int) := by omega
    simp [Instr.sliceAt, go_sem, run_underlying under22, h2]
theorem tch_own {vl vl1 : Value} {W U U' : World} {K : Nat} (h : Tch (fun b => vl.ownBlock = some b) W U) (k : Tch (fun b => vl1.ownBlock = some b) U U') (ha : ∀ b, vl1.ownBlock = some b → vl.ownBlock = some b ∨ K ≤ b) (hK : W.heap.size ≤ K) : Tch (fun b => vl.ownBlock = some b) W U' :=
  ⟨k.os.trans h.os, k.tape.trans h.tape, k.output.trans h.output, Nat.le_trans h.size k.size, fun b hb hn => by
    rw [k.block b (Nat.lt_of_lt_of_le hb h.size) (fun e => by
      rcases ha b e with h1 | h1
      · exact hn h1
      · omega), h.block b hb hn]⟩
theorem own_nvals {W : World} {base : Nat} {o : Option Addr} {c : Nat} {l : List Nat} (ho : W.ownsRow base 3 1 (.slice o l.length c) l.length (nflat l)) : Sl W o 1 (nvals l) := by
  rw [← nvals_flat, ← nvals_len] at ho
  intro hne
  obtain ⟨oa, cap, hv2, hS⟩ := own_rows (nvals_one l) ho
  injection hv2 with h1 _ _
  rw [h1]
  exact hS hne
set_option maxRecDepth 100000 in
set_option maxHeartbeats 4000000 in
theorem next_all (om oc oa : Option Addr) (cm cc ca : Nat) (T : Tm) (ps : List Nat) (W0 : World) (hO : TeamOk T) (hp : InR T ps) (hT : TeamAt W0 om oc T) (hA : Sl W0 oa 1 (nvals ps)) :
    ∀ (d : Nat) (bs : List Nat) (ob : Option Addr) (cb : Nat) (rows : List (List Nat)) (vs : List Value) (vl : Value) (W : World), bs.length + d = T.ms.length → Below W0.heap.size W0 W → Sl W ob 1 (nvals bs) → bs.length ≤ cb → (ob = none → cb = 0) → OB W W0.heap.size rows vs vl → (∀ b off s, ob = some ⟨b, off, s⟩ → vl.ownBlock ≠ some b ∧ b < W.heap.size) → rows.length + 1000 ^ d ≤ 1000000000000 →
    Calls Try.prog 39 #[.agg #[.slice om T.ms.length cm, .slice oc T.cs.length cc], .slice oa ps.length ca, .slice ob bs.length cb, vl] W (NextE W0 W (rows ++ nextR T ps d bs) vl) := by
  intro d
  induction d with
  | zero =>
    intro bs ob cb rows vs vl W hbl hW hS _ _ hB _ hr
    exact next_zero om oc oa cm cc ca T ps W0 hp.1 hO.n1 bs ob cb rows vs vl W (by omega) hO.n2 hW hS hB (by simp at hr; omega)
  | succ d ih =>
    intro bs ob cb rows vs vl W hbl hW hS hcb hnn hB hapb hrb
    have hkN : bs.length < T.ms.length := by omega
    have hn2 := hO.n2
    obtain ⟨m, hm⟩ : ∃ m, T.ms[bs.length]? = some m := ⟨_, List.getElem?_eq_getElem hkN⟩
    have hmo := hO.mo m (List.mem_of_getElem? hm)
    have hmn := hmo.n2
    have hpm := atOf_lt hp hm
    have hplen := hp.1
    have hkp : bs.length < ps.length := by omega
    have heq := int_beq (bs.length : Int) (ps.length : Int)
    rw [decide_eq_false (by omega)] at heq
    obtain ⟨F, hF⟩ : ∃ F : Nat → List (List Nat), F = fun v => if okN' T ps bs v = true then nextR T ps d (bs ++ [v]) else [] := ⟨_, rfl⟩
    have hnext : nextR T ps (d + 1) bs = (List.range m.n).flatMap F := by rw [hF]; simp only [nextR, hm, Option.map_some, Option.getD_some]
    rw [hnext]
    have hFl : ∀ v, (F v).length ≤ 1000 ^ d := fun v => by
      rw [hF]
      show (if okN' T ps bs v = true then nextR T ps d (bs ++ [v]) else []).length ≤ 1000 ^ d
      split
      · exact nextR_len hO d _
      · simp
    have hFs : ∀ j, ((List.range j).flatMap F).length ≤ j * 1000 ^ d := fun j => by
      induction j with
      | zero => simp
      | succ j ihj => rw [List.range_succ, List.flatMap_append, List.length_append]; simp only [List.flatMap_cons, List.flatMap_nil, List.append_nil, Nat.succ_mul]; have := hFl j; omega
    have hpw : 1000 ^ (d + 1) = 1000 * 1000 ^ d := by rw [Nat.pow_succ, Nat.mul_comm]
    rw [hpw] at hrb
    have HIH := Lib.hid ih
    have HO := Lib.hid hO
    have HP := Lib.hid hp
    have HT := Lib.hid hT
    have HA := Lib.hid hA
    have HF := Lib.hid hF
    have HFS := Lib.hid hFs
    have HM := Lib.hid hm
    have HMO := Lib.hid hmo
    have HBL := Lib.hid hbl
    have HRB := Lib.hid hrb
    have HW := Lib.hid hW
    have HS := Lib.hid hS
    have HAPB := Lib.hid hapb
    have HPL := Lib.hid hplen
    have HCB := Lib.hid hcb
    have HNN := Lib.hid hnn
    have hvlow : ∀ b, vl.ownBlock = some b → W0.heap.size ≤ b := fun b hb => (own_lt hB.own b hb).2
    have HVLOW := Lib.hid hvlow
    have HVLT : Hid (∀ b, vl.ownBlock = some b → b < W.heap.size) := Lib.hid fun b hb => (own_lt hB.own b hb).1
    clear ih hO hp hT hA hF hFs hFl hm hmo hbl hrb hW hS hapb hnext hpw hplen hvlow hcb hnn
    go_enter Try.func39, Try.ntmps39
    go_upto_region 1 with fail
    have hbx_ := blks1 W [.slice om T.ms.length cm, .slice oc T.cs.length cc] 26
    replace hB := hB.keep hbx_.2
    have HB := Lib.hid (hbx_.2)
    have hoe : W.heap.size ≤ W.heap.size := by omega
    generalize W.alloc (.cells #[.slice om T.ms.length cm, .slice oc T.cs.length cc] 26) = V at hbx_ hB HB ⊢
    obtain ⟨r4, hbel_⟩ := hbx_
    obtain ⟨n4, hn_⟩ : ∃ n, n = W.heap.size := ⟨_, rfl⟩
    rw [← hn_] at r4 ⊢
    replace hoe := Nat.le_of_eq hn_.symm
    clear hn_ hbel_
    have HR4 := Lib.hid r4
    have hV0 : Tch (fun b => vl.ownBlock = some b) W V := Tch.of_below HB.out
    have hn4 : ∀ b, vl.ownBlock = some b → b ≠ n4 := fun b hb e => by
      have := HVLT.out b hb; omega
    have HN4L := Lib.hid r4.lt
    clear r4
    go_wp2_with fail
    go_loopw [10, 3] (fun i y X => ∃ (j : Nat) (vs1 : List Value) (vl1 : Value), i = .int .i64 (j : Nat) ∧ j ≤ m.n ∧ y = vl1 ∧ OB X W0.heap.size (rows ++ (List.range j).flatMap F) vs1 vl1 ∧ Tch (fun b => vl.ownBlock = some b) W X ∧ (∀ b, vl1.ownBlock = some b → vl.ownBlock = some b ∨ V.heap.size ≤ b) ∧ V.heap.size ≤ X.heap.size ∧ Blk X n4 [.slice om T.ms.length cm, .slice oc T.cs.length cc]) (fun i _ _ => m.n - (intOf i).toNat)
    case atStart => exact ⟨0, vs, vl, rfl, Nat.zero_le _, rfl, by simpa using hB, hV0, fun b hb => .inl hb, Nat.le_refl _, HR4.out⟩
    case round =>
      clear hB hV0
      obtain ⟨j, vs1, vl1, rfl, hj, hy, hB, hT, hat, hVs, r4⟩ := hrel
      have hy2 := hy.symm
      subst hy2
      clear hy
      obtain ⟨X, rfl⟩ : ∃ X, X = wr := ⟨_, rfl⟩
      have hWX := tch_fresh HW.out hT HVLOW.out
      have hSX := HS.out.tch hT (fun b off s hb => (HAPB.out b off s hb).1)
      obtain ⟨bm, offm, rfl, hMr⟩ := (HT.out.keep hWX).ms (map_ne hkN)
      obtain ⟨ba, offa, rfl, hAr⟩ := (HA.out.keep hWX) (nvals_ne hkp)
      have x0 : X.cell? ⟨bm, offm + bs.length * 2, none⟩ = some (.slice m.op m.n m.cp) := hMr.c bs.length _ (map_get HM.out) 0 _ rfl
      have lm := hMr.lt
      have y0 : X.cell? ⟨ba, offa + bs.length, none⟩ = some (.int .i64 (atOf ps bs.length : Nat)) := by have := hAr.c bs.length _ (nvals_get (atOf_get hkp)) 0 _ rfl; simpa using this
      have ly := hAr.lt
      have hki : (bs.length : Int) < (T.ms.length : Int) := by omega
      have hkpi : (bs.length : Int) < (ps.length : Int) := by omega
      have a0 : X.cell? ⟨n4, 0, none⟩ = some (.slice (some ⟨bm, offm, none⟩) T.ms.length cm) := r4.c 0 _ rfl
      have a1 : X.cell? ⟨n4, 1, none⟩ = some (.slice oc T.cs.length cc) := r4.c 1 _ rfl
      have l4 := r4.lt
      have HWX := Lib.hid hWX
      have HSX := Lib.hid hSX
      have HBX := Lib.hid hB
      have HTX := Lib.hid hT
      have HAT := Lib.hid hat
      have HR4X := Lib.hid r4
      clear hWX hSX hB hT hat hMr hAr r4
      by_cases hlt : j < m.n
      · go_upto_region 8 with fail
        clear x0 lm y0 ly hki hkpi a0 a1 l4
        have hbx_ := boxes1 X [.int .i64 (bs.length : Nat), .int .i64 (atOf ps bs.length : Nat), .int .i64 (j : Nat)] 65
        have HY := Lib.hid (hbx_.2)
        generalize X.alloc (.cells #[.int .i64 (bs.length : Nat), .int .i64 (atOf ps bs.length : Nat), .int .i64 (j : Nat)] 65) = Y at hbx_ HY ⊢
        obtain ⟨r11, hbel_⟩ := hbx_
        obtain ⟨n11, hn_⟩ : ∃ n, n = X.heap.size := ⟨_, rfl⟩
        rw [← hn_] at r11 ⊢
        clear hn_ hbel_
        have hle : legB T ⟨bs.length, atOf ps bs.length, j⟩ = (edgeB m.es (atOf ps bs.length) j || decide (atOf ps bs.length = j)) := by
          simp [legB, HM.out, hpm, hlt, Bool.or_comm]
        have hlg := refLegal_any (some ⟨bm, offm, none⟩) oc cm cc T m ⟨bs.length, atOf ps bs.length, j⟩ Y (by omega) HM.out hpm hlt hmn HMO.out.len (HT.out.keep (below_call HWX.out HY.out))
        rw [← hle] at hlg
        unfold Tm.val at hlg
        have HLG := Lib.hid hlg
        have r4 := HR4X.out.keep HY.out
        have a0 : Y.cell? ⟨n4, 0, none⟩ = some (.slice (some ⟨bm, offm, none⟩) T.ms.length cm) := r4.c 0 _ rfl
        have a1 : Y.cell? ⟨n4, 1, none⟩ = some (.slice oc T.cs.length cc) := r4.c 1 _ rfl
        have z0 : Y.cell? ⟨n11, 0, none⟩ = some (.int .i64 (bs.length : Nat)) := r11.c 0 _ rfl
        have z1 : Y.cell? ⟨n11, 1, none⟩ = some (.int .i64 (atOf ps bs.length : Nat)) := r11.c 1 _ rfl
        have z2 : Y.cell? ⟨n11, 2, none⟩ = some (.int .i64 (j : Nat)) := r11.c 2 _ rfl
        have l4 := r4.lt
        have l11 := r11.lt
        clear hlg hle r4
        go_wp2_with fail
        with_reducible refine HLG.out.mono ?_
        rintro e Z ⟨rfl, hb⟩
        have HZ := Lib.hid (below_call HY.out hb)
        have HR11 := Lib.hid (r11.keep hb)
        clear a0 a1 z0 z1 z2 l4 l11 r11 hb HLG
        generalize hL0 : legB T ⟨bs.length, atOf ps bs.length, j⟩ = L0
        have HL0 := Lib.hid hL0
        clear hL0
        go_wp2_with fail
        go_loopw [13, 12] (fun i y U => ∃ q : Nat, i = .int .i64 (q : Nat) ∧ q ≤ bs.length ∧ y = .bool (L0 && (List.range q).all fun i => !clashB T.cs ⟨bs.length, atOf ps bs.length, j⟩ ⟨i, atOf ps i, atOf bs i⟩) ∧ Below Z.heap.size Z U) (fun i _ _ => bs.length - (intOf i).toNat)
        case atStart => exact ⟨0, rfl, Nat.zero_le _, by simp, Below.refl _ _⟩
        case round =>
          obtain ⟨q, rfl, hq, rfl, hU⟩ := hrel
          obtain ⟨U, rfl⟩ : ∃ X, X = wr := ⟨_, rfl⟩
          have hXU := below_call HZ.out hU
          have HXU := Lib.hid hXU
          have HU := Lib.hid hU
          clear hU
          by_cases hgo : (L0 && (List.range q).all fun i => !clashB T.cs ⟨bs.length, atOf ps bs.length, j⟩ ⟨i, atOf ps i, atOf bs i⟩) = true ∧ q < bs.length
          · obtain ⟨hfl, hqk⟩ := hgo
            rw [hfl]
            have hstep : (L0 && (List.range (q + 1)).all fun i => !clashB T.cs ⟨bs.length, atOf ps bs.length, j⟩ ⟨i, atOf ps i, atOf bs i⟩) = !clashB T.cs ⟨bs.length, atOf ps bs.length, j⟩ ⟨q, atOf ps q, atOf bs q⟩ := by
              rw [List.range_succ, List.all_append, ← Bool.and_assoc, hfl]; simp
            have HST := Lib.hid hstep
            have hcla := clash_any (some ⟨bm, offm, none⟩) oc cm cc T ⟨bs.length, atOf ps bs.length, j⟩ ⟨q, atOf ps q, atOf bs q⟩ U.drew HO.out.cn (HT.out.keep (below_call HWX.out (below_call hXU (Below.refl _ _).drew)))
            unfold Tm.val at hcla
            have HCL := Lib.hid hcla
            obtain ⟨bb, offb, hob, hbr⟩ := (HSX.out.keep hXU) (nvals_ne hqk)
            have hAr := (HA.out.keep (below_call HWX.out hXU))
            obtain ⟨ba', offa', hoa', hAr'⟩ := hAr (nvals_ne (show q < ps.length by omega))
            injection hoa' with hoa'
            injection hoa' with h5 h6 _
            subst h5 h6
            have y0 : U.cell? ⟨ba, offa + q, none⟩ = some (.int .i64 (atOf ps q : Nat)) := by have := hAr'.c q _ (nvals_get (atOf_get (show q < ps.length by omega))) 0 _ rfl; simpa using this
            have ly := hAr'.lt
            have z0 : U.cell? ⟨bb, offb + q, none⟩ = some (.int .i64 (atOf bs q : Nat)) := by have := hbr.c q _ (nvals_get (atOf_get hqk)) 0 _ rfl; simpa using this
            have lz := hbr.lt
            have hqp : (q : Int) < (ps.length : Int) := by omega
            have hqb : (q : Int) < (bs.length : Int) := by omega
            have r4 := HR4X.out.keep hXU
            have r11 := HR11.out.keep HU.out
            have a0 : U.cell? ⟨n4, 0, none⟩ = some (.slice (some ⟨bm, offm, none⟩) T.ms.length cm) := r4.c 0 _ rfl
            have a1 : U.cell? ⟨n4, 1, none⟩ = some (.slice oc T.cs.length cc) := r4.c 1 _ rfl
            have m0 : U.cell? ⟨n11, 0, none⟩ = some (.int .i64 (bs.length : Nat)) := r11.c 0 _ rfl
            have m1 : U.cell? ⟨n11, 1, none⟩ = some (.int .i64 (atOf ps bs.length : Nat)) := r11.c 1 _ rfl
            have m2 : U.cell? ⟨n11, 2, none⟩ = some (.int .i64 (j : Nat)) := r11.c 2 _ rfl
            have l4 := r4.lt
            have l11 := r11.lt
            generalize clashB T.cs ⟨bs.length, atOf ps bs.length, j⟩ ⟨q, atOf ps q, atOf bs q⟩ = C at HST HCL
            subst hob
            have hS0 : U.cell? ⟨n4, 0, none⟩ = some (.slice (some ⟨bm, offm, none⟩) T.ms.length cm) ∧ U.cell? ⟨n4, 1, none⟩ = some (.slice oc T.cs.length cc) ∧ U.cell? ⟨n11, 0, none⟩ = some (.int .i64 (bs.length : Nat)) ∧ U.cell? ⟨n11, 1, none⟩ = some (.int .i64 (atOf ps bs.length : Nat)) ∧ U.cell? ⟨n11, 2, none⟩ = some (.int .i64 (j : Nat)) ∧ U.cell? ⟨ba, offa + q, none⟩ = some (.int .i64 (atOf ps q : Nat)) ∧ U.cell? ⟨bb, offb + q, none⟩ = some (.int .i64 (atOf bs q : Nat)) := ⟨a0, a1, m0, m1, m2, y0, z0⟩
            clear hstep hcla hXU hAr hAr' hbr r4 r11 hfl
            go_upto_region 12 with fail
            go_region_held3 (fun X => X.cell? ⟨n4, 0, none⟩ = some (.slice (some ⟨bm, offm, none⟩) T.ms.length cm) ∧ X.cell? ⟨n4, 1, none⟩ = some (.slice oc T.cs.length cc) ∧ X.cell? ⟨n11, 0, none⟩ = some (.int .i64 (bs.length : Nat)) ∧ X.cell? ⟨n11, 1, none⟩ = some (.int .i64 (atOf ps bs.length : Nat)) ∧ X.cell? ⟨n11, 2, none⟩ = some (.int .i64 (j : Nat)) ∧ X.cell? ⟨ba, offa + q, none⟩ = some (.int .i64 (atOf ps q : Nat)) ∧ X.cell? ⟨bb, offb + q, none⟩ = some (.int .i64 (atOf bs q : Nat)))
              (first
                | exact hS0
                | assumption)
              (first
                | (go_at_call 24
                   with_reducible refine HCL.out.mono ?_
                   rintro e Ua ⟨rfl, hba⟩
                   have hVa : Below U.heap.size U Ua := (Below.refl _ _).drew.trans hba
                   have HVa := Lib.hid hVa
                   have hSa : Ua.cell? ⟨n4, 0, none⟩ = some (.slice (some ⟨bm, offm, none⟩) T.ms.length cm) ∧ Ua.cell? ⟨n4, 1, none⟩ = some (.slice oc T.cs.length cc) ∧ Ua.cell? ⟨n11, 0, none⟩ = some (.int .i64 (bs.length : Nat)) ∧ Ua.cell? ⟨n11, 1, none⟩ = some (.int .i64 (atOf ps bs.length : Nat)) ∧ Ua.cell? ⟨n11, 2, none⟩ = some (.int .i64 (j : Nat)) ∧ Ua.cell? ⟨ba, offa + q, none⟩ = some (.int .i64 (atOf ps q : Nat)) ∧ Ua.cell? ⟨bb, offb + q, none⟩ = some (.int .i64 (atOf bs q : Nat)) :=
                     ⟨(hVa.cell (p := ⟨n4, 0, none⟩) l4).trans a0, (hVa.cell (p := ⟨n4, 1, none⟩) l4).trans a1, (hVa.cell (p := ⟨n11, 0, none⟩) l11).trans m0, (hVa.cell (p := ⟨n11, 1, none⟩) l11).trans m1, (hVa.cell (p := ⟨n11, 2, none⟩) l11).trans m2, (hVa.cell (p := ⟨ba, offa + q, none⟩) ly).trans y0, (hVa.cell (p := ⟨bb, offb + q, none⟩) lz).trans z0⟩
                   clear hba hVa))
            all_goals
              have HUU := Lib.hid (below_call HU.out HVa.out)
              clear hS0 hSa a0 a1 m0 m1 m2 y0 z0 l4 l11 ly lz hqp hqb
              go_wp2_with fail
              go_roundw
              case rel => exact ⟨q + 1, by simp, by omega, by rw [HST.out], HUU.out⟩
              case measure => simp [intOf]; omega
          · by_cases hfl : (L0 && (List.range q).all fun i => !clashB T.cs ⟨bs.length, atOf ps bs.length, j⟩ ⟨i, atOf ps i, atOf bs i⟩) = true
            · have hqk : q = bs.length := by
                by_cases e : q < bs.length
                · exact absurd ⟨hfl, e⟩ hgo
                · omega
              have hokN : okN' T ps bs j = true := by
                rw [hqk] at hfl
                unfold okN'
                rw [HL0.out]
                exact hfl
              rw [hfl, hqk]
              have hFj : F j = nextR T ps d (bs ++ [j]) := by rw [HF.out]; show (if okN' T ps bs j = true then _ else _) = _; rw [if_pos hokN]
              have hpart : rows ++ (List.range (j + 1)).flatMap F = rows ++ (List.range j).flatMap F ++ nextR T ps d (bs ++ [j]) := by rw [List.range_succ, List.flatMap_append]; simp [hFj]
              have HPT := Lib.hid hpart
              have HBN := Lib.hid (HBX.out.keep hXU)
              have HTN := Lib.hid (HTX.out.trans (Tch.of_below (Cb := fun b => vl.ownBlock = some b) hXU))
              have HRN := Lib.hid (HR4X.out.keep hXU)
              have hWU := below_call HWX.out hXU
              have HWU := Lib.hid hWU
              have HSU := Lib.hid (HSX.out.keep hXU)
              have hsz := hXU.size
              have r4 := HR4X.out.keep hXU
              have a0 : U.cell? ⟨n4, 0, none⟩ = some (.slice (some ⟨bm, offm, none⟩) T.ms.length cm) := r4.c 0 _ rfl
              have a1 : U.cell? ⟨n4, 1, none⟩ = some (.slice oc T.cs.length cc) := r4.c 1 _ rfl
              have l4 := r4.lt
              have hsl := slice22 ob bs.length cb HCB.out HNN.out
              have hS0 : U.cell? ⟨n4, 0, none⟩ = some (.slice (some ⟨bm, offm, none⟩) T.ms.length cm) ∧ U.cell? ⟨n4, 1, none⟩ = some (.slice oc T.cs.length cc) := ⟨a0, a1⟩
              have hnb : ob = none → bs.length = 0 ∧ bs.length = 0 := fun e => by
                have h1 := HNN.out e
                have h2 := HCB.out
                omega
              obtain ⟨i0, hi, hz0, hz1, hz2⟩ := info_parts info3
              have HCC := Lib.hid (new_cells U.drew [.int .i64 (j : Nat)] 3)
              have hal : Below U.heap.size U (U.drew.alloc (.cells #[.int .i64 (j : Nat)] 3)) := ((Below.refl U.heap.size U).drew).alloc (Nat.le_refl _) _
              have HAL := Lib.hid hal
              have holds : ∀ b, ob = some b → ∀ x u, (nflat bs)[x]? = some u → (U.drew.alloc (.cells #[.int .i64 (j : Nat)] 3)).cell? (b.add x) = some u := fun b hob x u hu => by
                simp only [nflat, List.getElem?_map, Option.map_eq_some_iff] at hu
                obtain ⟨y, hy, rfl⟩ := hu
                have hxl := (List.getElem?_eq_some_iff.1 hy).1
                obtain ⟨bb, offb, hob2, hbr⟩ := (HSU.out.keep HAL.out) (nvals_ne hxl)
                rw [hob] at hob2
                injection hob2 with hob2
                subst hob2
                have := hbr.c x _ (nvals_get hy) 0 _ rfl
                rw [← this]
                congr 1
                unfold Addr.add
                split <;> simp_all
              have HOLD := Lib.hid holds
              have HNB := Lib.hid hnb
              clear hfl hokN hFj hpart hXU hWU hgo r4 hal holds hnb
              go_upto_region 14 with fail
              go_region_held3 (fun X => X.cell? ⟨n4, 0, none⟩ = some (.slice (some ⟨bm, offm, none⟩) T.ms.length cm) ∧ X.cell? ⟨n4, 1, none⟩ = some (.slice oc T.cs.length cc))
                (first
                  | exact hS0
                  | assumption
                  | simp [a0, a1, l4, World.cell?_alloc_lt])
                (first
                  | (go_at_call 39
                     have hxx := HOWN; clear hxx
                     obtain ⟨o2, c2, rfl⟩ := own_slice HOWN.out
                     have hown2 : Ub.ownsRow (U.drew.alloc (.cells #[.int .i64 (j : Nat)] 3)).heap.size 3 1 (.slice o2 (bs ++ [j]).length c2) (bs ++ [j]).length (nflat (bs ++ [j])) := by
                       have e1 : (bs ++ [j]).length = bs.length + 1 := by simp
                       have e2 : nflat (bs ++ [j]) = nflat bs ++ [.int .i64 (j : Nat)] := by simp [nflat]
                       rw [e1, e2]; exact HOWN.out
                     have hub : Below U.heap.size U Ub := HAL.out.trans (HBU.out.mono HAL.out.size)
                     have hszA : (U.drew.alloc (.cells #[.int .i64 (j : Nat)] 3)).heap.size = U.heap.size + 1 := by simp
                     have hcap := own_cap hown2
                     have hih := HIH.out (bs ++ [j]) o2 c2 (rows ++ (List.range j).flatMap F) vs1 vl1 Ub (by have := HBL.out; simp; omega) (below_call HWU.out hub) (own_nvals hown2) hcap.1 hcap.2 (HBN.out.keep hub)
                       (fun b off s hb => by
                         have h1 := own_lt hown2 b (by rw [hb]; rfl)
                         refine ⟨fun e => ?_, h1.1⟩
                         have h2 := (own_lt HBN.out.own b e).1
                         omega)
                       (by
                         have h1 := HFS.out j
                         have h2 := HRB.out
                         have h3 : j * 1000 ^ d + 1000 ^ d ≤ 1000 * 1000 ^ d := by rw [← Nat.succ_mul]; exact Nat.mul_le_mul_right _ (by omega)
                         rw [List.length_append]; omega)
                     have e1 : (bs ++ [j]).length = bs.length + 1 := by simp
                     rw [e1] at hih
                     with_reducible refine hih.mono ?_
                     rintro e Uc ⟨vs2, vl2, rfl, hB2, hT2, hat2⟩
                     have hvn : ¬ (vl1.ownBlock = some n4) := fun e => by
                       have h5 := HN4L.out
                       rcases HAT.out n4 e with h | h
                       · exact hn4 n4 h rfl
                       · omega
                     have hRc := hT2.blk (HRN.out.keep hub) hvn
                     have hSc : Uc.cell? ⟨n4, 0, none⟩ = some (.slice (some ⟨bm, offm, none⟩) T.ms.length cm) ∧ Uc.cell? ⟨n4, 1, none⟩ = some (.slice oc T.cs.length cc) := ⟨hRc.c 0 _ rfl, hRc.c 1 _ rfl⟩
                     have HRC := Lib.hid hRc
                     have HB2 := Lib.hid hB2
                     have HT2 := Lib.hid (tch_own (HTN.out.trans (Tch.of_below (Cb := fun b => vl.ownBlock = some b) hub)) hT2 HAT.out (by have := HB.out.size; omega))
                     have HAT2 : Hid (∀ b, vl2.ownBlock = some b → vl.ownBlock = some b ∨ V.heap.size ≤ b) := Lib.hid fun b hb => by
                       rcases hat2 b hb with h | h
                       · exact HAT.out b h
                       · have := hub.size; exact .inr (by omega)
                     have HSZ : Hid (V.heap.size ≤ Uc.heap.size) := Lib.hid (by have := hT2.size; have := hub.size; omega)
                     clear hown2 hub hszA hcap hih e1 hvn hRc hB2 hT2 hat2)
                  | (refine step_append_grows rfl (.tmp 74) (.tmp 76) 22 rfl 3 i0 (.int .i64 0) 1 8 under22 hi hz0 hz1 hz2 rfl (by decide) ob bs.length bs.length (nflat bs) (by simp [Act.eval]) HNB.out (by rw [nflat_len]; omega) HOLD.out ⟨U.heap.size, 0, none⟩ 1 1 [.int .i64 (j : Nat)] (by simp [Act.eval]) rfl HCC.out (by simp [Value.oneCell']) (by omega) (by unfold maxLen; omega) (by omega) ?_
                     intro v2 Ub hown hgr
                     have hbU := below_none hgr
                     have hSb : Ub.cell? ⟨n4, 0, none⟩ = some (.slice (some ⟨bm, offm, none⟩) T.ms.length cm) ∧ Ub.cell? ⟨n4, 1, none⟩ = some (.slice oc T.cs.length cc) := by
                       have h9 := HAL.out.trans (hbU.mono HAL.out.size)
                       exact ⟨(h9.cell (p := ⟨n4, 0, none⟩) l4).trans a0, (h9.cell (p := ⟨n4, 1, none⟩) l4).trans a1⟩
                     have HOWN := Lib.hid hown
                     have HBU := Lib.hid hbU
                     clear hown hgr hbU))
              all_goals
                clear hS0 hSb hSc a0 a1 l4 hsl hi hz0 hz1 hz2
                go_wp2_with fail
                go_roundw
                case rel => exact ⟨j + 1, vs2, vl2, by simp, by omega, rfl, by rw [HPT.out]; exact HB2.out, HT2.out, HAT2.out, HSZ.out, HRC.out⟩
                case measure => simp [intOf]; omega
            · have hfl' : (L0 && (List.range q).all fun i => !clashB T.cs ⟨bs.length, atOf ps bs.length, j⟩ ⟨i, atOf ps i, atOf bs i⟩) = false := by simpa using hfl
              have hokN : okN' T ps bs j = false := by
                unfold okN'
                rw [HL0.out]
                cases hL : L0 with
                | false => rfl
                | true =>
                  rw [hL] at hfl'
                  simp only [Bool.true_and] at hfl' ⊢
                  rw [List.all_eq_false] at hfl' ⊢
                  obtain ⟨x, hx, hx2⟩ := hfl'
                  exact ⟨x, List.mem_range.2 (by have := List.mem_range.1 hx; omega), hx2⟩
              rw [hfl']
              have hFj : F j = [] := by rw [HF.out]; show (if okN' T ps bs j = true then _ else _) = _; rw [hokN]; rfl
              have hpart : (List.range (j + 1)).flatMap F = (List.range j).flatMap F := by rw [List.range_succ, List.flatMap_append]; simp [hFj]
              have HPT := Lib.hid hpart
              have HBN := Lib.hid (HBX.out.keep hXU)
              have HTN := Lib.hid (HTX.out.trans (Tch.of_below (Cb := fun b => vl.ownBlock = some b) hXU))
              have HRN := Lib.hid (HR4X.out.keep hXU)
              have hsz := hXU.size
              clear hfl hfl' hokN hFj hpart hXU hgo
              go_wp2_with fail
              go_roundw
              case rel => exact ⟨j + 1, vs1, _, by simp, by omega, rfl, by rw [HPT.out]; exact HBN.out, HTN.out, HAT.out, by omega, HRN.out⟩
              case measure => simp [intOf]; omega
      · have hjn : j = m.n := by omega
        subst hjn
        have HBN := HBX
        have hsz := HB.out.size
        go_wp2
        go_ret
        exact ⟨vs1, _, rfl, HBN.out, HTX.out, fun b hb => by
          rcases HAT.out b hb with h | h
          · exact .inl h
          · exact .inr (by omega)⟩
end Go.Proofs.Jn
end

section
/-
  Walks of the reference: Moves.
-/
namespace Go.Proofs.Jn
open Go.RowKit Go.Shelf

theorem OB.ll {W : World} {base : Nat} {ls : List (List Nat)} {vs : List Value} {vl : Value} (h : OB W base ls vs vl) : ∃ ol cl, vl = .slice ol ls.length cl ∧ LL W ol ls := by
  obtain ⟨ol, cl, hv⟩ := own_slice h.own
  rw [h.len] at hv
  refine ⟨ol, cl, hv, vs, ?_, h.len, fun i v l hv2 hl => ?_⟩
  · have ho := h.own
    have e1 : (vs.map fun v => [v]).length = vs.length := by simp
    have ho2 : W.ownsRow base 22 1 vl (vs.map fun v => [v]).length (vs.map fun v => [v]).flatten := by rw [ones_flat, e1]; exact ho
    intro hne
    obtain ⟨oa, cap, hv2, hs⟩ := own_rows (fun r hr => by obtain ⟨e, _, rfl⟩ := List.mem_map.1 hr; rfl) ho2
    rw [hv] at hv2
    injection hv2 with hv2 _ _
    rw [hv2]
    exact hs hne
  · have ho := h.row i v l hv2 hl
    obtain ⟨o, c, rfl⟩ := own_slice ho
    exact ⟨o, c, rfl, own_nvals ho⟩
set_option maxRecDepth 100000 in
set_option maxHeartbeats 4000000 in
theorem refMoves_any (om oc oa : Option Addr) (cm cc ca : Nat) (T : Tm) (ps : List Nat) (w : World) (hO : TeamOk T) (hp : InR T ps) (hT : TeamAt w om oc T) (hA : Sl w oa 1 (nvals ps)) :
    Calls Try.prog 15 #[.agg #[.slice om T.ms.length cm, .slice oc T.cs.length cc], .slice oa ps.length ca] w fun e W => ∃ ol cl, e = .returned (.slice ol (nextR T ps T.ms.length []).length cl) ∧ LL W ol (nextR T ps T.ms.length []) ∧ Below w.heap.size w W := by
  have hn2 := hO.n2
  have HO := Lib.hid hO
  have HP := Lib.hid hp
  clear hO hp
  go_enter Try.func15, Try.ntmps15
  go_upto_region 1 with fail
  have hbx_ := boxes1 w [.slice om T.ms.length cm, .slice oc T.cs.length cc] 26
  replace hT := hT.keep hbx_.2
  replace hA := hA.keep hbx_.2
  have HB := Lib.hid (hbx_.2)
  generalize w.alloc (.cells #[.slice om T.ms.length cm, .slice oc T.cs.length cc] 26) = W0 at hbx_ hT hA HB ⊢
  obtain ⟨r2, hbel_⟩ := hbx_
  obtain ⟨n2', hn_⟩ : ∃ n, n = w.heap.size := ⟨_, rfl⟩
  rw [← hn_] at r2 ⊢
  clear hn_ hbel_
  have HCK := Lib.hid (checkT_any om oc cm cc T W0 HO.out hT)
  have HT := Lib.hid hT
  have HA := Lib.hid hA
  have HR2 := Lib.hid r2
  have a0 : W0.cell? ⟨n2', 0, none⟩ = some (.slice om T.ms.length cm) := r2.c 0 _ rfl
  have a1 : W0.cell? ⟨n2', 1, none⟩ = some (.slice oc T.cs.length cc) := r2.c 1 _ rfl
  have l2 := r2.lt
  clear hT hA r2
  go_wp2_with fail
  with_reducible refine HCK.out.mono ?_
  rintro e X1 ⟨rfl, hb⟩
  clear a0 a1 l2 HCK
  have r2 := HR2.out.keep hb
  have HPL := Lib.hid (placed_any om oc oa cm cc ca T ps X1 HO.out HP.out (HT.out.keep hb) (HA.out.keep hb))
  have HB1 := Lib.hid hb
  have a0 : X1.cell? ⟨n2', 0, none⟩ = some (.slice om T.ms.length cm) := r2.c 0 _ rfl
  have a1 : X1.cell? ⟨n2', 1, none⟩ = some (.slice oc T.cs.length cc) := r2.c 1 _ rfl
  have l2 := r2.lt
  clear hb r2
  go_wp2_with fail
  with_reducible refine HPL.out.mono ?_
  rintro e X2 ⟨rfl, hb⟩
  clear a0 a1 l2 HPL
  have hb2 := below_call HB1.out hb
  have r2 := HR2.out.keep hb2
  have hnx := next_all om oc oa cm cc ca T ps X2 HO.out HP.out (HT.out.keep hb2) (HA.out.keep hb2) T.ms.length [] none 0 [] [] (.slice none 0 0) X2 (by simp) (Below.refl _ _) (fun h => absurd rfl h) (Nat.le_refl _) (fun _ => rfl) (OB.nil _ _) (fun _ _ _ h => by cases h) (by
    have : 1000 ^ T.ms.length ≤ 1000 ^ 4 := Nat.pow_le_pow_right (by omega) hn2
    simp; omega)
  rw [List.nil_append] at hnx
  have HNX := Lib.hid hnx
  have HB2 := Lib.hid (below_call HB.out hb2)
  have a0 : X2.cell? ⟨n2', 0, none⟩ = some (.slice om T.ms.length cm) := r2.c 0 _ rfl
  have a1 : X2.cell? ⟨n2', 1, none⟩ = some (.slice oc T.cs.length cc) := r2.c 1 _ rfl
  have l2 := r2.lt
  clear hb hb2 r2 hnx
  go_wp2_with fail
  refine HNX.out.mono ?_
  rintro e Y ⟨vs', vl', rfl, hOB, hT', -⟩
  obtain ⟨ol, cl, rfl, hLL⟩ := hOB.ll
  have HLL := Lib.hid hLL
  have HY := Lib.hid (below_call HB2.out (tch_fresh (Below.refl _ _) hT' (fun b hb => by cases hb)))
  clear a0 a1 l2 hLL hT' hOB HNX
  go_wp2
  go_ret
  exact ⟨ol, cl, rfl, HLL.out, HY.out⟩
end Go.Proofs.Jn
end

