/-
  Texts put together: Hi Hj Do.
-/
import Derived.Test.YtemchlakoalhcaaZJointBetter26
import Derived.Test.YtemchlakoalhcaaZJointBetter28
import Derived.Test.YtemchlakoalhcaaZJointBetter25
import Derived.Test.YtemchlakoalhcaaZJointBetter11
import Derived.Deep.Slices
import Derived.OpenShut
import Derived.ChangeArms
import Derived.ProofKit
import Derived.ChangeSame
import Derived.Carry
import Derived.Below
import Derived.Lib.SmallJoins
set_option linter.unusedVariables false
section
/-
  Walks of the reference: PlanTeam.
-/
namespace Go.Proofs.Jn
open Go.RowKit

/-- What PlanTeam answers. -/
def PlanTP (T : Tm) (ps qs : List Nat) (K : Nat) (w : World) (e : Ending) (W : World) : Prop := Below w.heap.size w W ∧
  (e = .returned (.tuple #[.slice none 0 0, .bool false]) ∨ ∃ (g last : Nat) (o : Option Addr) (c : Nat), e = .returned (.tuple #[.slice (some ⟨g, 0, none⟩) T.ms.length T.ms.length, .bool true]) ∧ 1 ≤ last ∧ last ≤ K ∧ LReach T ps last qs ∧ W.cell? ⟨g, 0, none⟩ = some (.slice o (last + 1) c) ∧ g < W.heap.size)

theorem AloneP.one {T : Tm} {rows : List (List Nat)} {arm start goal K : Nat} {w W : World} {e : Ending} (h : AloneP T rows arm start goal K w e W) : ∃ (oa : Option Addr) (n ca : Nat) (ok : Bool), e = .returned (.tuple #[.slice oa n ca, .bool ok]) ∧ Below w.heap.size w W ∧ (ok = true → ∃ l : List Nat, n = l.length ∧ l.length = K + 1 ∧ Sl W oa 1 (nvals l) ∧ atOf l 0 = start ∧ atOf l K = goal ∧
    (∀ i, i < K → legB T ⟨arm, atOf l i, atOf l (i + 1)⟩ = true ∧ AptM T rows ⟨arm, atOf l i, atOf l (i + 1)⟩ i) ∧ K + 1 ≤ ca ∧ ∀ a, oa = some a → w.heap.size ≤ a.block) := by
  obtain ⟨hb, h | ⟨l, oa, ca, h1, h2, h3, h4, h5, h6, h7, h8⟩⟩ := h
  · exact ⟨none, 0, 0, false, h, hb, fun h => by cases h⟩
  · exact ⟨oa, l.length, ca, true, h1, hb, fun _ => ⟨l, rfl, h2, h3, h4, h5, h6, h7, h8⟩⟩
set_option maxRecDepth 100000 in
set_option maxHeartbeats 4000000 in
theorem planTeam_any (om oc oa ob oo : Option Addr) (cm cc ca cb co : Nat) (T : Tm) (ps qs od : List Nat) (K : Nat) (w : World) (hO : TeamOk T) (hp : InR T ps) (hq : InR T qs) (ho : Perm T.ms.length od) (hT : TeamAt w om oc T) (hA : Sl w oa 1 (nvals ps)) (hB : Sl w ob 1 (nvals qs)) (hD : Sl w oo 1 (nvals od)) (hK1 : 1 ≤ K) (hK : K ≤ 64) :
    Calls Try.prog 16 #[.agg #[.slice om T.ms.length cm, .slice oc T.cs.length cc], .slice oa ps.length ca, .slice ob qs.length cb, .slice oo od.length co, .int .i64 (K : Nat)] w (PlanTP T ps qs K w) := by
  have hn1 := hO.n1
  have hn2 := hO.n2
  have HO := Lib.hid hO
  have HP := Lib.hid hp
  have HQ := Lib.hid hq
  have HOD := Lib.hid ho
  have hol := ho.len
  have HOL := Lib.hid hol
  have hmk := run_make30 T.ms.length (by omega)
  have d1 : decide ((K : Int) < 1) = false := decide_eq_false (by omega)
  have d2 : decide ((K : Int) > 64) = false := decide_eq_false (by omega)
  clear hO hp hq ho
  go_enter Try.func16, Try.ntmps16
  go_upto_region 1 with fail
  rw [hol]
  clear hol
  have hbx_ := boxes1 w [.slice om T.ms.length cm, .slice oc T.cs.length cc] 26
  replace hT := hT.keep hbx_.2
  replace hA := hA.keep hbx_.2
  replace hB := hB.keep hbx_.2
  replace hD := hD.keep hbx_.2
  have HB := Lib.hid (hbx_.2)
  generalize w.alloc (.cells #[.slice om T.ms.length cm, .slice oc T.cs.length cc] 26) = W0 at hbx_ hT hA hB hD HB ⊢
  obtain ⟨r5, hbel_⟩ := hbx_
  obtain ⟨n5, hn_⟩ : ∃ n, n = w.heap.size := ⟨_, rfl⟩
  rw [← hn_] at r5 ⊢
  clear hn_ hbel_
  have HT := Lib.hid hT
  have HA := Lib.hid hA
  have HBB := Lib.hid hB
  have HD := Lib.hid hD
  have HR5 := Lib.hid r5
  have hck := checkT_any om oc cm cc T W0 HO.out hT
  have HCK := Lib.hid hck
  have a0 : W0.cell? ⟨n5, 0, none⟩ = some (.slice om T.ms.length cm) := r5.c 0 _ rfl
  have a1 : W0.cell? ⟨n5, 1, none⟩ = some (.slice oc T.cs.length cc) := r5.c 1 _ rfl
  have l5 := r5.lt
  clear hT hA hB hD r5 hck
  go_wp2_with fail
  with_reducible refine HCK.out.mono ?_
  rintro e W1 ⟨rfl, hb⟩
  have HB1 := Lib.hid hb
  have r5 := HR5.out.keep HB1.out
  have hpl := placed_any om oc oa cm cc ca T ps W1 HO.out HP.out (HT.out.keep HB1.out) (HA.out.keep HB1.out)
  have HPL := Lib.hid hpl
  clear a0 a1 l5 HCK hb hpl
  have a0 : W1.cell? ⟨n5, 0, none⟩ = some (.slice om T.ms.length cm) := r5.c 0 _ rfl
  have a1 : W1.cell? ⟨n5, 1, none⟩ = some (.slice oc T.cs.length cc) := r5.c 1 _ rfl
  have l5 := r5.lt
  clear r5
  go_wp2_with fail
  with_reducible refine HPL.out.mono ?_
  rintro e W2 ⟨rfl, hb⟩
  have HB2 := Lib.hid (below_call HB1.out hb)
  have r5 := HR5.out.keep HB2.out
  have hpl := placed_any om oc ob cm cc cb T qs W2 HO.out HQ.out (HT.out.keep HB2.out) (HBB.out.keep HB2.out)
  have HPL := Lib.hid hpl
  clear a0 a1 l5 hb hpl
  have a0 : W2.cell? ⟨n5, 0, none⟩ = some (.slice om T.ms.length cm) := r5.c 0 _ rfl
  have a1 : W2.cell? ⟨n5, 1, none⟩ = some (.slice oc T.cs.length cc) := r5.c 1 _ rfl
  have l5 := r5.lt
  clear r5
  go_wp2_with fail
  with_reducible refine HPL.out.mono ?_
  rintro e W3 ⟨rfl, hb⟩
  have HB3 := Lib.hid (below_call HB2.out hb)
  have r5 := HR5.out.keep HB3.out
  have hpm := permuted_any oo co T.ms.length od W3 (by omega) HOD.out (HD.out.keep HB3.out)
  rw [HOL.out] at hpm
  have HPM := Lib.hid hpm
  clear a0 a1 l5 hb hpm
  have a0 : W3.cell? ⟨n5, 0, none⟩ = some (.slice om T.ms.length cm) := r5.c 0 _ rfl
  have a1 : W3.cell? ⟨n5, 1, none⟩ = some (.slice oc T.cs.length cc) := r5.c 1 _ rfl
  have l5 := r5.lt
  clear r5
  go_wp2_with fail
  with_reducible refine HPM.out.mono ?_
  rintro e W4 ⟨rfl, hb⟩
  have HB4 := Lib.hid (below_call HB3.out hb)
  clear a0 a1 l5 hb HPM HPL
  go_wp2_with fail
  have hPB := PBox.new W4 T.ms.length
  have hbA : Below W0.heap.size W0 (W4.alloc (.cells (Array.replicate T.ms.length (Value.slice none 0 0)) 22)) := below_call HB4.out ((Below.refl _ _).alloc (Nat.le_refl _) _)
  generalize W4.alloc (.cells (Array.replicate T.ms.length (Value.slice none 0 0)) 22) = W5 at hPB hbA ⊢
  have hg0 : W0.heap.size ≤ W4.heap.size := HB4.out.size
  generalize W4.heap.size = gO at hPB hg0 ⊢
  have HG0 := Lib.hid hg0
  clear hg0
  clear hmk d1 d2
  go_loopw [13] (fun i W => ∃ (j : Nat) (rows : List (List Nat)) (vs : List Value), i = .int .i64 (j : Nat) ∧ j ≤ T.ms.length ∧ PlanP T ps qs K rows ∧ PBox W gO rows vs ∧ Below W0.heap.size W0 W ∧ ∀ i, i < j → ∃ (k : Nat) (l : List Nat), od[i]? = some k ∧ rows[k]? = some l ∧ l ≠ []) (fun i _ => T.ms.length - (intOf i).toNat)
  case atStart => exact ⟨0, _, _, rfl, Nat.zero_le _, PlanP.nil T ps qs K, hPB, hbA, fun i h => absurd h (Nat.not_lt_zero _)⟩
  case round =>
    clear hPB hbA
    obtain ⟨j, rows, vs, rfl, hj, hPP, hPB, hW, hdone⟩ := hrel
    obtain ⟨Wa, rfl⟩ : ∃ X, X = wr := ⟨_, rfl⟩
    have HPP := Lib.hid hPP
    have HPB := Lib.hid hPB
    have HW := Lib.hid hW
    have HDN := Lib.hid hdone
    clear hdone
    by_cases hlt : j < T.ms.length
    · obtain ⟨k, hk⟩ : ∃ k, od[j]? = some k := ⟨_, List.getElem?_eq_getElem (by rw [HOL.out]; exact hlt)⟩
      have hkn := HOD.out.lt j k hk
      obtain ⟨m, hm⟩ : ∃ m, T.ms[k]? = some m := ⟨_, List.getElem?_eq_getElem hkn⟩
      obtain ⟨bo, offo, rfl, hor⟩ := (HD.out.keep hW) (nvals_ne (k := j) (by rw [HOL.out]; exact hlt))
      have x0 : Wa.cell? ⟨bo, offo + j, none⟩ = some (.int .i64 (k : Nat)) := by have := hor.c j _ (nvals_get hk) 0 _ rfl; simpa using this
      have lx := hor.lt
      have i1 : (j : Int) < (T.ms.length : Int) := by omega
      have HK := Lib.hid hk
      have HM := Lib.hid hm
      clear hor hk hm hPP hPB hW
      go_upto_region 8 with fail
      clear x0 lx i1
      obtain ⟨ba, offa, rfl, hAr⟩ := (HA.out.keep HW.out) (nvals_ne (k := k) (by rw [HP.out.1]; exact hkn))
      obtain ⟨bb, offb, rfl, hBr⟩ := (HBB.out.keep HW.out) (nvals_ne (k := k) (by rw [HQ.out.1]; exact hkn))
      have p0 : Wa.cell? ⟨ba, offa + k, none⟩ = some (.int .i64 (atOf ps k : Nat)) := by have := hAr.c k _ (nvals_get (atOf_get (by rw [HP.out.1]; exact hkn))) 0 _ rfl; simpa using this
      have q0 : Wa.cell? ⟨bb, offb + k, none⟩ = some (.int .i64 (atOf qs k : Nat)) := by have := hBr.c k _ (nvals_get (atOf_get (by rw [HQ.out.1]; exact hkn))) 0 _ rfl; simpa using this
      have la := hAr.lt
      have lb := hBr.lt
      have i2 : (k : Int) < (ps.length : Int) := by rw [HP.out.1]; omega
      have i3 : (k : Int) < (qs.length : Int) := by rw [HQ.out.1]; omega
      have R5 := HR5.out.keep HW.out
      have a0 : Wa.cell? ⟨n5, 0, none⟩ = some (.slice om T.ms.length cm) := R5.c 0 _ rfl
      have a1 : Wa.cell? ⟨n5, 1, none⟩ = some (.slice oc T.cs.length cc) := R5.c 1 _ rfl
      have l5 := R5.lt
      have hrl := HPP.out.len
      have hal := alone_any om oc (some ⟨gO, 0, none⟩) cm cc T.ms.length T rows K k (atOf ps k) (atOf qs k) m Wa.drew HO.out HM.out (atOf_lt HP.out HM.out) (atOf_lt HQ.out HM.out) ((HT.out.keep HW.out).keep (Below.refl _ _).drew) HPP.out.kk (by omega) hK1 hK (HPB.out.ll.keep (Below.refl _ _).drew)
      rw [hrl] at hal
      have HAL := Lib.hid hal
      have hS0 : Wa.cell? ⟨n5, 0, none⟩ = some (.slice om T.ms.length cm) ∧ Wa.cell? ⟨n5, 1, none⟩ = some (.slice oc T.cs.length cc) ∧ Wa.cell? ⟨ba, offa + k, none⟩ = some (.int .i64 (atOf ps k : Nat)) ∧ Wa.cell? ⟨bb, offb + k, none⟩ = some (.int .i64 (atOf qs k : Nat)) := ⟨a0, a1, p0, q0⟩
      clear hAr hBr R5 hal hrl
      go_region_held3 (fun X => X.cell? ⟨n5, 0, none⟩ = some (.slice om T.ms.length cm) ∧ X.cell? ⟨n5, 1, none⟩ = some (.slice oc T.cs.length cc) ∧ X.cell? ⟨ba, offa + k, none⟩ = some (.int .i64 (atOf ps k : Nat)) ∧ X.cell? ⟨bb, offb + k, none⟩ = some (.int .i64 (atOf qs k : Nat)))
        (first
          | exact hS0
          | assumption)
        (first
          | (go_at_call 41
             with_reducible refine HAL.out.mono ?_
             rintro e Xa hans0
             obtain ⟨ol, nl, cl, ok, rfl, hba, hans⟩ := AloneP.one hans0
             have hVa : Below Wa.heap.size Wa Xa := (Below.refl _ _).drew.trans hba
             have HVa := Lib.hid hVa
             have hSa : Xa.cell? ⟨n5, 0, none⟩ = some (.slice om T.ms.length cm) ∧ Xa.cell? ⟨n5, 1, none⟩ = some (.slice oc T.cs.length cc) ∧ Xa.cell? ⟨ba, offa + k, none⟩ = some (.int .i64 (atOf ps k : Nat)) ∧ Xa.cell? ⟨bb, offb + k, none⟩ = some (.int .i64 (atOf qs k : Nat)) :=
               ⟨(hVa.cell (p := ⟨n5, 0, none⟩) l5).trans a0, (hVa.cell (p := ⟨n5, 1, none⟩) l5).trans a1, (hVa.cell (p := ⟨ba, offa + k, none⟩) la).trans p0, (hVa.cell (p := ⟨bb, offb + k, none⟩) lb).trans q0⟩
             have HANS := Lib.hid hans
             clear hans0 hans hba hVa))
      all_goals
        have HWX := Lib.hid (below_call HW.out HVa.out)
        have HPX := Lib.hid (HPB.out.keep HVa.out)
        have hgl := HPB.out.box.lt
        have HGL := Lib.hid hgl
        clear hS0 hSa a0 a1 p0 q0 la lb i2 i3 l5 HAL hgl
        cases ok with
        | false =>
          go_wp2_with fail
          refine bodyPost_ret (v := .tuple #[.slice none 0 0, .bool false]) (by simp [results, Try.results16, go_sem]) rfl ?_
          exact ⟨below_call HB.out HWX.out, .inl rfl⟩
        | true =>
          obtain ⟨l, rfl, hll, hsl, hl0, hlK, hls, hlc, hfr⟩ := HANS.out rfl
          have hkv : k < vs.length := by rw [HPX.out.len, HPP.out.len]; exact hkn
          have c0 := HPX.out.box.c k _ (List.getElem?_eq_getElem hkv)
          have f0 := HPX.out.box.f k
          have lg := HPX.out.box.lt
          have i4 : (k : Int) < (T.ms.length : Int) := by omega
          have hset := HPX.out.set k (l := l) (o := ol) (c := cl) (by omega) hsl (fun a ha => by have h1 := hfr a ha; have h2 : Wa.drew.heap.size = Wa.heap.size := rfl; have := HGL.out; omega)
          have hadd := HPP.out.add hkn hll hl0 hlK hls
          have HN : Hid (∃ (j1 : Nat) (rows1 : List (List Nat)) (vs1 : List Value), Value.int .i64 ((j : Int) + 1) = .int .i64 (j1 : Nat) ∧ j1 ≤ T.ms.length ∧ PlanP T ps qs K rows1 ∧ PBox (Xa.setCell ⟨gO, k, none⟩ (.slice ol l.length cl)) gO rows1 vs1 ∧ Below W0.heap.size W0 (Xa.setCell ⟨gO, k, none⟩ (.slice ol l.length cl)) ∧ ∀ i, i < j1 → ∃ (k : Nat) (l : List Nat), od[i]? = some k ∧ rows1[k]? = some l ∧ l ≠ []) := Lib.hid
            ⟨j + 1, _, _, by simp, by omega, hadd, hset, HWX.out.setCell (p := ⟨gO, k, none⟩) HG0.out _, fun i hi => by
              have hkr : k < rows.length := by rw [HPP.out.len]; exact hkn
              have hne : l ≠ [] := fun h => by rw [h] at hll; simp at hll
              by_cases e : i = j
              · subst e
                exact ⟨k, l, HK.out, by simp [hkr], hne⟩
              · obtain ⟨k', l', h1, h2, h3⟩ := HDN.out i (by omega)
                refine ⟨k', l', h1, ?_, h3⟩
                have hkk : k ≠ k' := fun e2 => e (by subst e2; exact HOD.out.inj i j k h1 HK.out)
                rw [List.getElem?_set, if_neg hkk]
                exact h2⟩
          clear hset hadd hll hsl hl0 hlK hls hlc hfr
          go_wp2_with fail
          refine ⟨HN.out, by simp [intOf]; omega⟩
    · have hjn : j = T.ms.length := by omega
      have hall : ∀ (k : Nat) (l : List Nat), rows[k]? = some l → l ≠ [] := fun k l hl => by
        obtain ⟨i, hi⟩ := HOD.out.on k (by have := (List.getElem?_eq_some_iff.1 hl).1; rw [HPP.out.len] at this; exact this)
        obtain ⟨k', l', h1, h2, h3⟩ := HDN.out i (by have := (List.getElem?_eq_some_iff.1 hi).1; rw [HOL.out] at this; omega)
        rw [hi] at h1
        injection h1 with h1
        subst h1
        rw [hl] at h2
        injection h2 with h2
        subst h2
        exact h3
      have HALL := Lib.hid hall
      clear hall hPP hPB hW
      go_wp2_with fail
      have hN : T.ms.length = rows.length := HPP.out.len.symm
      have HNN := Lib.hid hN
      clear hN
      have rowL : ∀ (q : Nat) (l : List Nat), rows[q]? = some l → l.length = K + 1 := fun q l hl => by
        rcases HPP.out.kk l (List.mem_of_getElem? hl) with h | h
        · exact absurd h (HALL.out q l hl)
        · exact h
      have HRL := Lib.hid rowL
      clear rowL hjn hlt hj
      go_loopw [17, 18] (fun vl vq W => ∃ la q : Nat, vl = .int .i64 (la : Nat) ∧ vq = .int .i64 (q : Nat) ∧ q ≤ T.ms.length ∧ 1 ≤ la ∧ la ≤ K ∧ Below Wa.heap.size Wa W ∧ ∀ (k : Nat) (l : List Nat), k < q → rows[k]? = some l → ∀ t, la ≤ t → t ≤ K → atOf l t = atOf l K) (fun _ vq _ => T.ms.length - (intOf vq).toNat)
      case atStart => exact ⟨1, 0, rfl, rfl, Nat.zero_le _, Nat.le_refl _, hK1, Below.refl _ _, fun k l h => absurd h (Nat.not_lt_zero _)⟩
      case round =>
        obtain ⟨la, q, rfl, rfl, hq, h1, h2, hWb, hrow⟩ := hrel
        obtain ⟨Wb, rfl⟩ : ∃ X, X = wr := ⟨_, rfl⟩
        have HWB := Lib.hid hWb
        have HRW := Lib.hid hrow
        clear hrow
        by_cases hqn : q < T.ms.length
        · obtain ⟨l, hl⟩ : ∃ l, rows[q]? = some l := ⟨_, List.getElem?_eq_getElem (by rw [← HNN.out]; exact hqn)⟩
          obtain ⟨v, hv⟩ : ∃ v, vs[q]? = some v := ⟨_, List.getElem?_eq_getElem (by rw [HPB.out.len, ← HNN.out]; exact hqn)⟩
          obtain ⟨o, c, rfl, hlc, hs, -⟩ := (HPB.out.keep hWb).row q v l hv hl
          have hll := HRL.out q l hl
          have c0 := (HPB.out.keep hWb).box.c q _ hv
          rw [hll] at c0
          have lg := (HPB.out.keep hWb).box.lt
          have har := arrival_any o c l Wb (by omega) (by omega) hs
          rw [hll] at har
          have HAR := Lib.hid har
          have HL := Lib.hid hl
          have i1 : (q : Int) < (T.ms.length : Int) := by omega
          clear hl hv hs har hWb hll hlc
          go_wp2_with fail
          with_reducible refine HAR.out.mono ?_
          rintro e Wc ⟨a, rfl, ha, hcon, hb⟩
          obtain ⟨mx, hmx, hm1, hm2, hm3⟩ : ∃ mx : Nat, max (la : Int) (a : Int) = (mx : Int) ∧ la ≤ mx ∧ a ≤ mx ∧ mx ≤ K := ⟨max la a, by omega, by omega, by omega, by omega⟩
          have HN : Hid (∃ la1 q1 : Nat, Value.int .i64 (mx : Nat) = .int .i64 (la1 : Nat) ∧ Value.int .i64 ((q : Int) + 1) = .int .i64 (q1 : Nat) ∧ q1 ≤ T.ms.length ∧ 1 ≤ la1 ∧ la1 ≤ K ∧ Below Wa.heap.size Wa Wc ∧ ∀ (k : Nat) (l : List Nat), k < q1 → rows[k]? = some l → ∀ t, la1 ≤ t → t ≤ K → atOf l t = atOf l K) := Lib.hid
            ⟨mx, q + 1, rfl, by simp, by omega, by omega, hm3, below_call HWB.out hb, fun k l' hk hl' t ht1 ht2 => by
              by_cases e : k = q
              · subst e
                have := HL.out.symm.trans hl'
                injection this with this
                subst this
                have := hcon t (by omega) (by omega)
                simpa using this
              · exact HRW.out k l' (by omega) hl' t (by omega) ht2⟩
          clear hb hcon c0 lg i1 HAR
          go_wp2_with fail
          refine ⟨HN.out, by simp [intOf]; omega⟩
        · have hqq : q = T.ms.length := by omega
          subst hqq
          have hlr := prio_reach HO.out HP.out HQ.out HPP.out HALL.out h2 (fun k l hl => HRW.out k l (by have := (List.getElem?_eq_some_iff.1 hl).1; rw [← HNN.out] at this; exact this) hl la (Nat.le_refl _) h2)
          have HLR := Lib.hid hlr
          have hPB := HPB.out.keep hWb
          have HPB2 := Lib.hid hPB
          have HWW := Lib.hid (below_call HW.out hWb)
          clear hlr hPB hWb hq hqn
          go_wp2_with fail
          go_loopw [19] (fun i W => ∃ (q : Nat) (us : List Value), i = .int .i64 (q : Nat) ∧ q ≤ T.ms.length ∧ Blk W gO us ∧ us.length = T.ms.length ∧ Below W0.heap.size W0 W ∧ (∀ i, i < q → ∃ o c, us[i]? = some (.slice o (la + 1) c)) ∧ ∀ i, q ≤ i → us[i]? = vs[i]?) (fun i _ => T.ms.length - (intOf i).toNat)
          case atStart => exact ⟨0, vs, rfl, Nat.zero_le _, HPB2.out.box, by rw [HPB2.out.len, ← HNN.out], HWW.out, fun i h => absurd h (Nat.not_lt_zero _), fun _ _ => rfl⟩
          case round =>
            obtain ⟨q, us, rfl, hq, hB3, hul, hWc, hdo, hto⟩ := hrel
            obtain ⟨Wc, rfl⟩ : ∃ X, X = wr := ⟨_, rfl⟩
            have HB3 := Lib.hid hB3
            have HWC := Lib.hid hWc
            have HDO := Lib.hid hdo
            have HTO := Lib.hid hto
            clear hdo hto
            by_cases hqn : q < T.ms.length
            · obtain ⟨l, hl⟩ : ∃ l, rows[q]? = some l := ⟨_, List.getElem?_eq_getElem (by rw [← HNN.out]; exact hqn)⟩
              obtain ⟨v, hv⟩ : ∃ v, vs[q]? = some v := ⟨_, List.getElem?_eq_getElem (by rw [HPB2.out.len, ← HNN.out]; exact hqn)⟩
              obtain ⟨o, c, rfl, hlc, hs, -⟩ := HPB2.out.row q v l hv hl
              have hll := HRL.out q l hl
              obtain ⟨b, off, rfl, -⟩ := hs (nvals_ne (k := 0) (by omega))
              have c0 := hB3.c q _ ((HTO.out q (Nat.le_refl _)).trans hv)
              rw [hll] at c0
              have f0 := hB3.f q
              have lg := hB3.lt
              have i1 : (q : Int) < (T.ms.length : Int) := by omega
              have hw1 : IntKind.i64.wrap ((la : Int) + 1) = (la : Int) + 1 := IntWalk.i64_in _ (by omega)
              have i2 : (la : Int) + 1 ≤ (c : Int) := by omega
              have i3 : (0 : Int) ≤ (la : Int) + 1 := by omega
              have i4 : ((la : Int) + 1).toNat = la + 1 := by omega
              have hrl : ∃ (q1 : Nat) (us1 : List Value), Value.int .i64 ((q : Int) + 1) = .int .i64 (q1 : Nat) ∧ q1 ≤ T.ms.length ∧ Blk (Wc.setCell ⟨gO, q, none⟩ (.slice (some ⟨b, off, none⟩) (la + 1) c)) gO us1 ∧ us1.length = T.ms.length ∧ Below W0.heap.size W0 (Wc.setCell ⟨gO, q, none⟩ (.slice (some ⟨b, off, none⟩) (la + 1) c)) ∧ (∀ i, i < q1 → ∃ o c, us1[i]? = some (.slice o (la + 1) c)) ∧ ∀ i, q1 ≤ i → us1[i]? = vs[i]? :=
                ⟨q + 1, us.set q (.slice (some ⟨b, off, none⟩) (la + 1) c), by simp, by omega, hB3.put q _, by simp [hul], HWC.out.setCell (p := ⟨gO, q, none⟩) HG0.out _, fun i hi => by
                  by_cases e : i = q
                  · subst e
                    exact ⟨_, _, by rw [List.getElem?_set, if_pos rfl, if_pos (by omega)]⟩
                  · rw [List.getElem?_set, if_neg (fun e2 => e e2.symm)]
                    exact HDO.out i (by omega), fun i hi => by
                  rw [List.getElem?_set, if_neg (by omega)]
                  exact HTO.out i (by omega)⟩
              have HRR := Lib.hid hrl
              clear hl hv hs hB3 hWc hlc hll hrl
              go_wp2_with fail
              refine ⟨HRR.out, by simp [intOf]; omega⟩
            · obtain ⟨o, c, h0⟩ := HDO.out 0 (by omega)
              have hcell := hB3.c 0 _ h0
              have hend : PlanTP T ps qs K w (.returned (.tuple #[.slice (some ⟨gO, 0, none⟩) T.ms.length T.ms.length, .bool true])) Wc :=
                ⟨below_call HB.out HWC.out, .inr ⟨gO, la, o, c, rfl, h1, h2, HLR.out, hcell, hB3.lt⟩⟩
              have HEND := Lib.hid hend
              clear hend hcell h0 hB3 hWc hul
              go_wp2_with fail
              refine bodyPost_ret (v := .tuple #[.slice (some ⟨gO, 0, none⟩) T.ms.length T.ms.length, .bool true]) (by simp [results, Try.results16, go_sem]) rfl HEND.out
end Go.Proofs.Jn
end

section
/-
  Walks: JointBetter.
-/
namespace Go.Proofs.Jn
open Go.RowKit Go.Shelf

theorem PlanTP.one {T : Tm} {ps qs : List Nat} {K : Nat} {w W : World} {e : Ending} (h : PlanTP T ps qs K w e W) : ∃ (og : Option Addr) (n c : Nat) (ok : Bool), e = .returned (.tuple #[.slice og n c, .bool ok]) ∧ Below w.heap.size w W ∧ (ok = true → n = T.ms.length ∧ ∃ (g last : Nat) (o : Option Addr) (c : Nat), og = some ⟨g, 0, none⟩ ∧ 1 ≤ last ∧ last ≤ K ∧ LReach T ps last qs ∧ W.cell? ⟨g, 0, none⟩ = some (.slice o (last + 1) c) ∧ g < W.heap.size) := by
  obtain ⟨hb, h | ⟨g, last, o, c, h1, h2, h3, h4, h5, h6⟩⟩ := h
  · exact ⟨none, 0, 0, false, h, hb, fun h => by cases h⟩
  · exact ⟨_, _, _, true, h1, hb, fun _ => ⟨rfl, g, last, o, c, rfl, h2, h3, h4, h5, h6⟩⟩
set_option maxRecDepth 100000 in
set_option maxHeartbeats 4000000 in
theorem better_any (o1 o2 o3 o4 : Option Addr) (c1 c2 c3 c4 : Nat) (xs ys zs us : List Int) (tk : Int) (w : World) (h1 : Sl w o1 1 (pvals xs)) (h2 : Sl w o2 1 (pvals ys)) (h3 : Sl w o3 1 (pvals zs)) (h4 : Sl w o4 1 (pvals us)) (lx : xs.length ≤ 9223372036854775807) (ly : ys.length ≤ 9223372036854775807) (lz : zs.length ≤ 9223372036854775807) (lu : us.length ≤ 9223372036854775807) :
    Calls Try.prog 5 #[.slice o1 xs.length c1, .slice o2 ys.length c2, .slice o3 zs.length c3, .slice o4 us.length c4, .int .i64 tk] w fun e w' => e = .returned (.bool true) ∧ Below w.heap.size w w' := by
  have HTM := Lib.hid (team_any o1 c1 xs w h1 lx)
  obtain ⟨r, hr, hr8⟩ := round_nat tk 8 (by omega) (by omega)
  have hrd : ∀ X, Calls Try.prog 11 #[.int .i64 tk, .int .i64 8] X fun e X' => e = .returned (.int .i64 (r : Nat)) ∧ X' = X := fun X => (round_any tk 8 X (by omega) (by omega)).mono fun _ _ ⟨h, h'⟩ => ⟨by rw [h, show (8 : Int) = ((8 : Nat) : Int) from rfl, hr], h'.symm⟩
  have HRD := Lib.hid hrd
  clear hr hrd
  have hw1 : IntKind.i64.wrap (1 + (r : Int)) = 1 + (r : Int) := IntWalk.i64_in _ (by omega)
  go_enter Try.func5, Try.ntmps5
  go_wp2_with fail
  refine HTM.out.mono ?_
  rintro e W1 ⟨T, om, oc, cm, cc, base, rfl, hO, hmk, hT, -, -, hb⟩
  unfold Tm.val
  replace h2 := h2.keep hb
  replace h3 := h3.keep hb
  replace h4 := h4.keep hb
  have HB1 := Lib.hid hb
  have HO := Lib.hid hO
  have HMK := Lib.hid hmk
  clear hb h1 hO hmk HTM
  go_upto_region 2 with fail
  have hbx_ := boxes1 W1 [.slice om T.ms.length cm, .slice oc T.cs.length cc] 26
  replace hT := hT.keep hbx_.2
  replace h2 := h2.keep hbx_.2
  replace h3 := h3.keep hbx_.2
  replace h4 := h4.keep hbx_.2
  have HB := Lib.hid (below_call HB1.out (hbx_.2))
  generalize W1.alloc (.cells #[.slice om T.ms.length cm, .slice oc T.cs.length cc] 26) = W2 at hbx_ hT h2 h3 h4 HB ⊢
  obtain ⟨r11, hbel_⟩ := hbx_
  obtain ⟨n11, hn_⟩ : ∃ n, n = W1.heap.size := ⟨_, rfl⟩
  rw [← hn_] at r11 ⊢
  clear hn_ hbel_
  have hS0 : W2.cell? ⟨n11, 0, none⟩ = some (.slice om T.ms.length cm) ∧ W2.cell? ⟨n11, 1, none⟩ = some (.slice oc T.cs.length cc) ∧ Below W2.heap.size W2 W2 := ⟨r11.c 0 _ rfl, r11.c 1 _ rfl, Below.refl _ _⟩
  have l11 := r11.lt
  have HT := Lib.hid hT
  have H2 := Lib.hid h2
  have H3 := Lib.hid h3
  have H4 := Lib.hid h4
  have HR11 := Lib.hid r11
  clear hT h2 h3 h4 r11
  have hva : ∀ X, Below W2.heap.size W2 X → Calls Try.prog 10 #[.agg #[.slice om T.ms.length cm, .slice oc T.cs.length cc], .slice o2 ys.length c2] X (VertP T X) := fun X hX => verts_any om oc o2 cm cc c2 T ys X HO.out (HT.out.keep hX) (H2.out.keep hX) ly
  have hvb : ∀ X, Below W2.heap.size W2 X → Calls Try.prog 10 #[.agg #[.slice om T.ms.length cm, .slice oc T.cs.length cc], .slice o3 zs.length c3] X (VertP T X) := fun X hX => verts_any om oc o3 cm cc c3 T zs X HO.out (HT.out.keep hX) (H3.out.keep hX) lz
  have HVA := Lib.hid hva
  have HVB := Lib.hid hvb
  clear hva hvb
  go_cut [12, 13, 14] (fun v12 v13 v14 X => ∃ ps oa ca qs ob cb, v12 = .slice oa (List.length ps) ca ∧ v13 = .slice ob (List.length qs) cb ∧ v14 = .int .i64 ((r + 1 : Nat) : Int) ∧ InR T ps ∧ InR T qs ∧ Sl X oa 1 (nvals ps) ∧ Sl X ob 1 (nvals qs) ∧ Below W2.heap.size W2 X)
  case first =>
    go_region_held3 (fun X => X.cell? ⟨n11, 0, none⟩ = some (.slice om T.ms.length cm) ∧ X.cell? ⟨n11, 1, none⟩ = some (.slice oc T.cs.length cc) ∧ Below W2.heap.size W2 X)
      (first
        | assumption
        | exact hS0
        | exact keepT9 l11 (by assumption) (by assumption)
        | exact keepT9 l11 (by assumption) (Below.refl _ _).drew)
      (first
        | (go_at_call 11
           with_reducible refine (HRD.out _).mono ?_
           rintro e Xc ⟨rfl, rfl⟩)
        | (go_at_call 10
           with_reducible refine (HVA.out _ (by assumption : _ ∧ _ ∧ Below W2.heap.size W2 _).2.2).mono ?_
           rintro e Xa ⟨ps, oa, ca, rfl, hla, hra, hsa, hba, -⟩
           have HLA := Lib.hid hla
           clear hla)
        | (go_at_call 10
           with_reducible refine (HVB.out _ (by assumption : _ ∧ _ ∧ Below W2.heap.size W2 _).2.2).mono ?_
           rintro e Xb ⟨qs, ob, cb, rfl, hlb, hrb, hsb, hbb, -⟩
           have HLB := Lib.hid hlb
           clear hlb))
    all_goals
      have hfin := (by assumption : _ ∧ _ ∧ Below W2.heap.size W2 _).2.2
      have HRA := Lib.hid hra
      have HRB := Lib.hid hrb
      have HSA := Lib.hid hsa
      have HSB := Lib.hid hsb
      have HBA := Lib.hid hba
      have HBB := Lib.hid hbb
      have hci : 1 + (r : Int) = ((r + 1 : Nat) : Int) := by omega
      clear hra hrb hsa hsb hba hbb hS0
      go_wp2_with fail
      go_meet
      first
        | exact ⟨ps, oa, ca, qs, ob, cb, rfl, rfl, by rw [hci], ⟨HLA.out, HRA.out⟩, ⟨HLB.out, HRB.out⟩, HSA.out.keep HBB.out, HSB.out, by assumption⟩
        | exact ⟨ps, oa, ca, qs, ob, cb, rfl, rfl, by rw [hci], ⟨HLA.out, HRA.out⟩, ⟨HLB.out, HRB.out⟩, HSA.out, HSB.out.keep HBA.out, by assumption⟩
  case rest =>
    clear hS0
    obtain ⟨ps, oa, ca, qs, ob, cb, rfl, rfl, rfl, hp, hq, hsa, hsb, hb⟩ := hcut
    obtain ⟨W3, rfl⟩ : ∃ X, X = wc := ⟨_, rfl⟩
    have hord := order_any o4 c4 T.ms.length us W3.drew (by have := HO.out.n2; omega) ((H4.out.keep hb).keep (Below.refl _ _).drew) lu
    have HORD := Lib.hid hord
    have HP := Lib.hid hp
    have HQ := Lib.hid hq
    have HSA := Lib.hid hsa
    have HSB := Lib.hid hsb
    have HB3 := Lib.hid hb
    have r11 := HR11.out.keep hb
    have a0 : W3.cell? ⟨n11, 0, none⟩ = some (.slice om T.ms.length cm) := r11.c 0 _ rfl
    have a1 : W3.cell? ⟨n11, 1, none⟩ = some (.slice oc T.cs.length cc) := r11.c 1 _ rfl
    have l11b := r11.lt
    clear hord hp hq hsa hsb hb r11 hw1
    go_upto_region 3 with fail
    have hpt : ∀ (X : World) (od : List Nat) (oo : Option Addr) (co : Nat), Below W3.heap.size W3 X → Perm T.ms.length od → Sl X oo 1 (nvals od) → Calls Try.prog 16 #[.agg #[.slice om T.ms.length cm, .slice oc T.cs.length cc], .slice oa ps.length ca, .slice ob qs.length cb, .slice oo od.length co, .int .i64 ((r : Int) + 1)] X (PlanTP T ps qs (r + 1) X) := fun X od oo co hX hpm hsd =>
      planTeam_any om oc oa ob oo cm cc ca cb co T ps qs od (r + 1) X HO.out HP.out HQ.out hpm (HT.out.keep (below_call HB3.out hX)) (HSA.out.keep hX) (HSB.out.keep hX) hsd (by omega) (by omega)
    have HPT := Lib.hid hpt
    have hS1 : W3.cell? ⟨n11, 0, none⟩ = some (.slice om T.ms.length cm) ∧ W3.cell? ⟨n11, 1, none⟩ = some (.slice oc T.cs.length cc) ∧ Below W3.heap.size W3 W3 := ⟨a0, a1, Below.refl _ _⟩
    clear hpt a0 a1
    go_region_held3 (fun X => X.cell? ⟨n11, 0, none⟩ = some (.slice om T.ms.length cm) ∧ X.cell? ⟨n11, 1, none⟩ = some (.slice oc T.cs.length cc) ∧ Below W3.heap.size W3 X)
      (first
        | assumption
        | exact hS1
        | exact keepT9 l11b (by assumption) (by assumption)
        | exact keepT9 l11b (by assumption) (Below.refl _ _).drew)
      (first
        | (go_at_call 17
           with_reducible refine HORD.out.mono ?_
           rintro e Xa ⟨od, oo, co, rfl, hpm, hsd, hba, -⟩
           have HPM := Lib.hid hpm
           have HSD := Lib.hid hsd
           have hVa : Below W3.heap.size W3 Xa := (Below.refl _ _).drew.trans hba
           have HVa := Lib.hid hVa
           clear hpm hsd)
        | (go_at_call 16
           have hxx := HVa; clear hxx
           with_reducible refine (HPT.out Xa od oo co HVa.out HPM.out HSD.out).mono ?_
           rintro e Xb hans0
           obtain ⟨og, ng, cg, ok, rfl, hbb, hans⟩ := PlanTP.one hans0
           have HANS := Lib.hid hans
           have HVb := Lib.hid (below_call HVa.out hbb)
           clear hans0 hans))
    all_goals
      have HXB := Lib.hid (below_call HB3.out HVb.out)
      have HVB := HVb
      clear hS1 l11b
      cases ok with
      | false =>
        have HBW := Lib.hid (below_call HB.out HXB.out)
        clear HORD HPT HANS
        go_wp2_with (go_at_call 13; refine (Try.awake _).mono ?_; rintro e X ⟨rfl, hb⟩)
        go_ret
        exact ⟨rfl, below_call HBW.out hb⟩
      | true =>
        obtain ⟨rfl, g, last, oq, cq, rfl, hl1, hl2, hlr, hgc, hgl⟩ := HANS.out rfl
        have hsol := solve_any om oc oa ob cm cc ca cb T ps qs (r + 1) Xb HO.out HP.out HQ.out (fun m hm => ⟨(HMK.out m hm).n4.2, (HMK.out m hm).n6⟩) (HT.out.keep HXB.out) (HSA.out.keep HVb.out) (HSB.out.keep HVb.out) (by omega) (by omega)
        unfold Tm.val at hsol
        have hsol2 : Calls Try.prog 12 #[.agg #[.slice om T.ms.length cm, .slice oc T.cs.length cc], .slice oa ps.length ca, .slice ob qs.length cb, .int .i64 ((r : Int) + 1)] Xb _ := hsol
        have HSOL := Lib.hid hsol2
        have r11 := HR11.out.keep HXB.out
        have a0 : Xb.cell? ⟨n11, 0, none⟩ = some (.slice om T.ms.length cm) := r11.c 0 _ rfl
        have a1 : Xb.cell? ⟨n11, 1, none⟩ = some (.slice oc T.cs.length cc) := r11.c 1 _ rfl
        have l11 := r11.lt
        have HLR := Lib.hid hlr
        have HGC := Lib.hid hgc
        have HGL := Lib.hid hgl
        clear hsol hsol2 r11 hlr hgc hgl HANS HORD HPT
        go_wp2_with fail
        refine HSOL.out.mono ?_
        rintro e W4 ⟨hb, ⟨rfl, hno⟩ | ⟨gp, rows, rfl, hrl, hLL, hS⟩⟩
        · exact absurd HLR.out (hno last hl1 hl2)
        · obtain ⟨n', P, hn1', hn2', rfl, hP, hmin⟩ := hS
          have hle : n' ≤ last := by
            rcases Nat.lt_or_ge last n' with h | h
            · exact absurd HLR.out (hmin last hl1 h)
            · exact h
          have hb2 : Below W4.heap.size W4 W4 := Below.refl _ _
          obtain ⟨row, hrow0⟩ : ∃ row, (rowsP T.ms.length n' P)[0]? = some row := ⟨_, List.getElem?_eq_getElem (by rw [hrl]; exact HO.out.n1)⟩
          have hrl1 := rowsP_len row (List.mem_of_getElem? hrow0)
          obtain ⟨vs, hSl, hvl, hvr⟩ := hLL
          obtain ⟨v0, hv0⟩ : ∃ v, vs[0]? = some v := ⟨_, List.getElem?_eq_getElem (by rw [hvl, hrl]; exact HO.out.n1)⟩
          obtain ⟨o0, c0, rfl, -⟩ := hvr 0 v0 row hv0 hrow0
          obtain ⟨bg, offg, hgp, hGr⟩ := hSl (map_ne (k := 0) (by rw [hvl, hrl]; exact HO.out.n1))
          injection hgp with hgp
          injection hgp with hg1 hg2 _
          subst hg1 hg2
          have x0 : W4.cell? ⟨gp, 0, none⟩ = some (.slice o0 (n' + 1) c0) := by
            have := hGr.c 0 _ (map_get hv0) 0 _ rfl
            rw [hrl1] at this
            simpa using this
          have lx := hGr.lt
          have y0 : W4.cell? ⟨g, 0, none⟩ = some (.slice oq (last + 1) cq) := (hb.cell (p := ⟨g, 0, none⟩) HGL.out).trans HGC.out
          have ly : g < W4.heap.size := Nat.lt_of_lt_of_le HGL.out hb.size
          have HB4 := Lib.hid (below_call HB.out (below_call HXB.out hb))
          have hN0 : (0 : Int) < (T.ms.length : Int) := by have := HO.out.n1; omega
          have d1 : decide ((n' : Int) + 1 ≥ 2) = true := decide_eq_true (by omega)
          have d2 : decide ((n' : Int) + 1 ≤ (last : Int) + 1) = true := decide_eq_true (by omega)
          have e0 := int_beq (T.ms.length : Int) (T.ms.length : Int)
          rw [decide_eq_true rfl] at e0
          have hS2 : W4.cell? ⟨gp, 0, none⟩ = some (.slice o0 (n' + 1) c0) ∧ W4.cell? ⟨g, 0, none⟩ = some (.slice oq (last + 1) cq) := ⟨x0, y0⟩
          have HLE := Lib.hid hle
          have hN1 : 0 < T.ms.length := HO.out.n1
          have hN2 : ¬ T.ms.length = 0 := by omega
          clear hb hb2 hrow0 hrl1 hSl hvl hvr hv0 hGr hrl hP hmin a0 a1 l11 HSOL hle
          go_wp2_with fail
          go_region_held3 (fun X => X.cell? ⟨gp, 0, none⟩ = some (.slice o0 (n' + 1) c0) ∧ X.cell? ⟨g, 0, none⟩ = some (.slice oq (last + 1) cq))
            (first
              | exact hS2
              | assumption)
            (first
              | (go_at_call 13
                 with_reducible refine (Try.awake _).mono ?_
                 rintro e Xc ⟨rfl, hba⟩
                 have hVc : Below W4.heap.size W4 Xc := (Below.refl _ _).drew.trans hba
                 have HVc := Lib.hid hVc
                 have hSc : Xc.cell? ⟨gp, 0, none⟩ = some (.slice o0 (n' + 1) c0) ∧ Xc.cell? ⟨g, 0, none⟩ = some (.slice oq (last + 1) cq) := ⟨(hVc.cell (p := ⟨gp, 0, none⟩) lx).trans x0, (hVc.cell (p := ⟨g, 0, none⟩) ly).trans y0⟩
                 clear hba hVc))
          all_goals
            have HEND := Lib.hid (below_call HB4.out HVc.out)
            clear hS2 hSc x0 y0
            go_wp2
            go_ret
            exact ⟨by simp [HLE.out], HEND.out⟩
end Go.Proofs.Jn
end

section
/-
  What the readings of the arguments say of memory.
-/
namespace Go.Proofs.Jn
open Go.RowKit
theorem list_of {A : Type} (P : Nat → A → Prop) : ∀ n : Nat, (∀ i, i < n → ∃ r, P i r) → ∃ rs : List A, rs.length = n ∧ ∀ (i : Nat) (r : A), rs[i]? = some r → P i r
  | 0, _ => ⟨[], rfl, fun i r h => by simp at h⟩
  | n + 1, h => by
    obtain ⟨rs, hl, hr⟩ := list_of P n fun i hi => h i (by omega)
    obtain ⟨r, hp⟩ := h n (by omega)
    refine ⟨rs ++ [r], by simp [hl], fun i r' hi => ?_⟩
    rcases Nat.lt_or_ge i rs.length with hlt | hge
    · rw [List.getElem?_append_left hlt] at hi
      exact hr i r' hi
    · rw [List.getElem?_append_right hge] at hi
      have : i = n := by
        rcases Nat.eq_or_lt_of_le hge with h | h
        · omega
        · rw [List.getElem?_eq_none (by simp; omega)] at hi; cases hi
      subst this
      have e : i - rs.length = 0 := by omega
      rw [e] at hi
      simp at hi
      subst hi
      exact hp

/-- A slice that is read lies in memory, row for row. -/
theorem open_rows {H : Type} {enc : TypeId × Value → H} {P : Program} {w : World} {base : Nat} {spare : Nat → Bool} {held : Bool} {A : Type} (f : A → List Value) {t e : TypeId} {n fuel : Nat} {v : Value} {x : DataW H × List MemPlace} (ht : P.underlying t = some (.slice e)) (hc : P.cellsOf e = n) (hn : 0 < n)
    (hrow : ∀ (m : Nat) (cs : List Value) (y : DataW H × List MemPlace), DataW.trod enc P w base spare held m e cs = some y → ∃ r : A, cs = f r)
    (h : DataW.trod enc P w base spare held fuel t [v] = some x) : ∃ (oa : Option Addr) (cap : Nat) (rs : List A), v = .slice oa rs.length cap ∧ rs.length ≤ 9223372036854775807 ∧ Sl w oa n (rs.map f) := by
  rcases Go.Deep.open_slice ht h with ⟨h0, _⟩ | ⟨a, len, cap, m, k, D, Pl, h1, hb, hl, hm, hmm, _, hx⟩
  · injection h0 with h0 _
    subst h0
    exact ⟨none, 0, [], rfl, by simp, fun h => absurd rfl h⟩
  · injection h1 with h1 _
    subst h1
    have hlm : len ≤ m := by rw [hmm]; split <;> omega
    obtain ⟨rs, hrl, hr⟩ := list_of (fun i r => w.cells? base (a.add (i * n)) n = some (f r)) len (fun i hi => by
      obtain ⟨cs, c1, c2⟩ := hx i (by omega)
      rw [hc] at c1
      obtain ⟨r, rfl⟩ := hrow _ _ _ c2
      exact ⟨r, c1⟩)
    subst hrl
    refine ⟨some a, cap, rs, rfl, by unfold maxLen at hm; omega, fun hne => ?_⟩
    have hne' : rs ≠ [] := fun h => hne (by simp [h])
    have cell : ∀ (i : Nat) (r : A), rs[i]? = some r → ∀ q u, (f r)[q]? = some u → w.cell? ((a.add (i * n)).add q) = some u := by
      intro i r hi q u hq
      obtain ⟨_, c2, c3⟩ := World.cells?_some (hr i r hi)
      have hqn : q < n := by
        rcases Nat.lt_or_ge q (f r).length with h' | h'
        · omega
        · rw [List.getElem?_eq_none h'] at hq; cases hq
      rw [c3 q hqn, hq]
    -- the slice's address has no spot
    have sp : a.spot = none := by
      cases rs with
      | nil => exact absurd rfl hne'
      | cons r0 rt =>
        obtain ⟨_, c2, c3⟩ := World.cells?_some (hr 0 r0 rfl)
        have c4 := c3 0 hn
        have : (f r0)[0]? = some ((f r0)[0]'(by omega)) := List.getElem?_eq_getElem _
        rw [this] at c4
        cases hs : a.spot with
        | none => rfl
        | some s =>
          exfalso
          have e0 : ((a.add (0 * n)).add 0) = a := by simp [Addr.add]
          rw [e0] at c4
          unfold World.cell? at c4
          rw [hs] at c4
          revert c4
          cases w.heap[a.block]? with
          | none => simp
          | some o => cases o <;> simp
    obtain ⟨b, off, sp'⟩ := a
    simp at sp
    subst sp
    refine ⟨b, off, rfl, ?_, fun i r hi q u hq => ?_⟩
    · cases rs with
      | nil => exact absurd rfl hne'
      | cons r0 rt =>
        obtain ⟨_, c2, c3⟩ := World.cells?_some (hr 0 r0 rfl)
        have c4 := c3 0 hn
        have : (f r0)[0]? = some ((f r0)[0]'(by omega)) := List.getElem?_eq_getElem _
        rw [this] at c4
        rcases Nat.lt_or_ge b w.heap.size with h' | h'
        · exact h'
        · exfalso
          have e0 : (((⟨b, off, none⟩ : Addr).add (0 * n)).add 0) = ⟨b, off, none⟩ := by simp [Addr.add]
          rw [e0] at c4
          simp [World.cell?, Array.getElem?_eq_none h'] at c4
    · rw [List.getElem?_map] at hi
      cases hri : rs[i]? with
      | none => rw [hri] at hi; cases hi
      | some r' =>
        rw [hri] at hi
        simp at hi
        subst hi
        rw [← cell i r' hri q u hq]
        congr 1
        simp only [Addr.add]
        split <;> split <;> simp_all <;> omega

theorem row_int {H : Type} {enc : TypeId × Value → H} {w : World} {base : Nat} {spare : Nat → Bool} {held : Bool} (e : TypeId) (hu : Try.prog.underlying e = some (.int .i64)) (m : Nat) (cs : List Value) (y : DataW H × List MemPlace) (h : DataW.trod enc Try.prog w base spare held m e cs = some y) : ∃ r : Int, cs = [.int .i64 r] := by
  obtain ⟨n, rfl, _⟩ := DataW.trod_int hu h
  exact ⟨n, rfl⟩
theorem clo3 : Try.prog.cellsOf 3 = 1 := by kernel_rfl
theorem open_nums {H : Type} {enc : TypeId × Value → H} {w : World} {base : Nat} {spare : Nat → Bool} {held : Bool} {t e : TypeId} {fuel : Nat} {v : Value} {x : DataW H × List MemPlace} (ht : Try.prog.underlying t = some (.slice e)) (hu : Try.prog.underlying e = some (.int .i64)) (hc : Try.prog.cellsOf e = 1)
    (h : DataW.trod enc Try.prog w base spare held fuel t [v] = some x) : ∃ (oa : Option Addr) (cap : Nat) (rs : List Int), v = .slice oa rs.length cap ∧ rs.length ≤ 9223372036854775807 ∧ Sl w oa 1 (pvals rs) :=
  open_rows (fun p : Int => [.int .i64 p]) ht hc (by omega) (row_int e hu) h
theorem laidOut : laidOutB Try.prog = true := by kernel_rfl
open Go.ChangeShapes Go.WideShapes Go.ChangeAt
set_option linter.unusedVariables false
/-- The post, of a world of which it is known that nothing that stood before has changed. -/
theorem post_below {H : Type} {enc : TypeId × Value → H} {P : Program} {f : Func} {s : ChangeSpec} {apart fresh handsOn again : Bool} {W W' : World} {args : Array Value} {v : Value} {ds gs : List (DataW H)} {before pa pv : List MemPlace}
    (hW : DataW.Whole enc P f.params.toList s.vars apart W args.toList ds gs before)
    (hres : ∀ (b : Nat) (sp : Nat → Bool) (hd : Bool), DataW.TrodAll enc P W' b sp hd f.resultTypes.toList (v.resultList f.resultTypes.size) (s.fn H (ds ++ gs)).results [])
    (hargs : ∀ sp : Nat → Bool, (∀ p ∈ before, sp p.block = true) → DataW.TrodAll enc P W' 0 sp true f.params.toList args.toList (s.fn H (ds ++ gs)).args pa)
    (hvars : ∀ sp : Nat → Bool, (∀ p ∈ before, sp p.block = true) → DataW.TrodVars enc P W' sp s.vars (s.fn H (ds ++ gs)).vars pv)
    (hps : before = pa ++ pv) (hb : Below W.heap.size W W')
    (hok : ∀ (j : Nat) (t : TypeId) (r : Value), f.resultTypes[j]? = some t → (v.resultList f.resultTypes.size)[j]? = some r → Value.okWide P W' .any 0 t r) :
    s.post enc P f apart fresh handsOn again W args v W' := by
  have hlt : ∀ p ∈ before, p.block < W.heap.size := fun p hp => hW.lt p hp
  have hold : ∀ p ∈ before, (fun b => decide (b < W.heap.size)) p.block = true := fun p hp => by simpa using hlt p hp
  refine ⟨ds, gs, before, [], pa, pv, hW, hres _ _ _, hargs _ hold, hvars _ hold, World.keptBut_mono (fun p hp => ⟨hp, ?_⟩) (hb.frame (· ∈ before)), fun _ => ?_⟩
  · rw [hps, List.mem_append] at hp
    exact Or.inr hp
  · obtain ⟨_, _, _, _, _, hz, hn⟩ := hW
    refine ⟨hok, _, _, ([] ++ pa) ++ pv, ⟨[] ++ pa, pv, trodAll_append (hargs _ (fun _ _ => rfl)) (hres _ _ _), hvars _ (fun _ _ => rfl), rfl, ?_, ?_⟩, ?_⟩
    · intro b off hp
      have hin : MemPlace.cell b off ∈ before := by rw [hps]; simpa using hp
      rw [hb.frozen (hlt _ hin)]
      exact hz b off hin
    · intro ha
      have := hn ha
      rw [hps] at this
      simpa using this
    · intro p hp _
      rw [hps]
      simpa using hp


/-- What was read reads as it did. -/
theorem stays {H : Type} {enc : TypeId × Value → H} {P : Program} (hl : laidOutB P = true) {W W' : World} {sp' : Nat → Bool} : ∀ (ts : List TypeId) (vs : List Value) (ds : List (DataW H)) (ps : List MemPlace), (∀ t ∈ ts, P.readableRec t = true ∧ t < P.types.size) →
    DataW.TrodAll enc P W 0 (fun _ => true) true ts vs ds ps → (∀ p ∈ ps, W.sameAt W' p) → (∀ p ∈ ps, sp' p.block = true) → DataW.TrodAll enc P W' 0 sp' true ts vs ds ps
  | [], [], [], ps, _, h, _, _ => h
  | t :: ts, v :: vs, d :: ds, ps, ht, h, h1, h2 => by
    obtain ⟨p, q, a, b, rfl⟩ := h
    exact ⟨p, q, WideElems.Trod_stays hl (ht t (by simp)).1 (ht t (by simp)).2 a (fun x hx => h1 x (by simp [hx])) (fun x hx => h2 x (by simp [hx])), stays hl ts vs ds q (fun t h => ht t (by simp [h])) b (fun x hx => h1 x (by simp [hx])) (fun x hx => h2 x (by simp [hx])), rfl⟩
  | [], _ :: _, _, _, _, h, _, _ => by simp [DataW.TrodAll] at h
  | [], [], _ :: _, _, _, h, _, _ => by simp [DataW.TrodAll] at h
  | _ :: _, [], _, _, _, h, _, _ => by simp [DataW.TrodAll] at h
  | _ :: _, _ :: _, [], _, _, h, _, _ => by simp [DataW.TrodAll] at h

theorem own37 : ownKnob Try.prog.godebug = none := by kernel_rfl
theorem read22 : Try.prog.readableRec 22 = true ∧ 22 < Try.prog.types.size := ⟨by kernel_rfl, of_decide_eq_true (by kernel_rfl)⟩
theorem read3 : Try.prog.readableRec 3 = true ∧ 3 < Try.prog.types.size := ⟨by kernel_rfl, of_decide_eq_true (by kernel_rfl)⟩
end Go.Proofs.Jn
end

