/-
  Texts put together: Em Ga Gb.
-/
import Derived.Test.YtemchlakoalhcaaZJointMoves21
import Derived.StillTailTactics
set_option linter.unusedVariables false
section
/-
  Walks: Solve.
-/
namespace Go.Proofs.Jn
open Go.RowKit Go.Shelf

/-- What Solve answers. -/
def SolR (T : Tm) (ps qs : List Nat) (tk : Nat) (w : World) (e : Ending) (W : World) : Prop := Below w.heap.size w W ∧
  ((e = .returned (.tuple #[.slice none 0 0, .bool false]) ∧ SolveS T ps qs tk none) ∨
   (∃ gp rows, e = .returned (.tuple #[.slice (some ⟨gp, 0, none⟩) T.ms.length T.ms.length, .bool true]) ∧ rows.length = T.ms.length ∧ LL W (some ⟨gp, 0, none⟩) rows ∧ SolveS T ps qs tk (some rows)))
/-- What stands while layers are made. -/
structure SlW (T : Tm) (W1 W : World) (gs gb : Nat) (ol : Option Addr) (layer : List S4) (s : Ex) : Prop where
  tch : Tch (fun b => b = gs ∨ b = gb) W1 W
  ms : MapIs W gs S4.v (cvals s.seen)
  mb : MapIs W gb S4.v (bvals s.bef)
  sl : Sl W ol 4 (layer.map S4.l)
  ap : ∀ b off t, ol = some ⟨b, off, t⟩ → b ≠ gs ∧ b ≠ gb
  len : layer.length ≤ 256
theorem SlW.keep {T : Tm} {W1 W W' : World} {gs gb : Nat} {ol : Option Addr} {layer : List S4} {s : Ex} (h : SlW T W1 W gs gb ol layer s) (hb : Below W.heap.size W W') : SlW T W1 W' gs gb ol layer s :=
  ⟨h.tch.trans (Tch.of_below hb), h.ms.keep hb, h.mb.keep hb, h.sl.keep hb, h.ap, h.len⟩
theorem tch_below {W0 W1 W : World} {gs gb : Nat} (h : Tch (fun b => b = gs ∨ b = gb) W1 W) (hb : Below W0.heap.size W0 W1) (h1 : W0.heap.size ≤ gs) (h2 : W0.heap.size ≤ gb) : Below W0.heap.size W0 W :=
  hb.trans ⟨h.os, h.tape, h.output, h.size, fun b hbl => h.block b (Nat.lt_of_lt_of_le hbl hb.size) (by
    rintro (e | e) <;> omega)⟩
set_option maxRecDepth 100000 in
set_option maxHeartbeats 4000000 in
theorem solve_any (om oc oa ob : Option Addr) (cm cc ca cb : Nat) (T : Tm) (ps qs : List Nat) (tk : Nat) (w : World) (hO : TeamOk T) (hps : InR T ps) (hqs : InR T qs) (hmk : ∀ m ∈ T.ms, m.n ≤ 4 ∧ m.es.length ≤ 16) (hT : TeamAt w om oc T) (hA : Sl w oa 1 (nvals ps)) (hB : Sl w ob 1 (nvals qs)) (h1 : 1 ≤ tk) (h64 : tk ≤ 64) :
    Calls Try.prog 12 #[T.val om oc cm cc, .slice oa ps.length ca, .slice ob qs.length cb, .int .i64 (tk : Nat)] w (SolR T ps qs tk w) := by
  have hn1 := hO.n1
  have hn2 := hO.n2
  have HO := Lib.hid hO
  have HMK := Lib.hid hmk
  have HPS := Lib.hid hps
  have HQS := Lib.hid hqs
  clear hO hmk hps hqs
  unfold Tm.val
  have ht1 : decide ((tk : Int) < 1) = false := decide_eq_false (by omega)
  have ht2 : decide ((tk : Int) > 64) = false := decide_eq_false (by omega)
  go_enter Try.func12, Try.ntmps12
  go_upto_region 1 with fail
  have hbx_ := boxes1 w [.slice om T.ms.length cm, .slice oc T.cs.length cc] 26
  replace hT := hT.keep hbx_.2
  replace hA := hA.keep hbx_.2
  replace hB := hB.keep hbx_.2
  have HB := Lib.hid (hbx_.2)
  generalize w.alloc (.cells #[.slice om T.ms.length cm, .slice oc T.cs.length cc] 26) = W0 at hbx_ hT hA hB HB ⊢
  obtain ⟨r4, hbel_⟩ := hbx_
  obtain ⟨n4, hn_⟩ : ∃ n, n = w.heap.size := ⟨_, rfl⟩
  rw [← hn_] at r4 ⊢
  clear hn_ hbel_
  have hck := check_any om oc cm cc T W0 HO.out hT
  unfold Tm.val at hck
  have HCK := Lib.hid hck
  have HT := Lib.hid hT
  have HA := Lib.hid hA
  have HBB := Lib.hid hB
  clear hck hT hA hB
  have a0 : W0.cell? ⟨n4, 0, none⟩ = some (.slice om T.ms.length cm) := r4.c 0 _ rfl
  have a1 : W0.cell? ⟨n4, 1, none⟩ = some (.slice oc T.cs.length cc) := r4.c 1 _ rfl
  have l4 := r4.lt
  go_wp2_with fail
  refine HCK.out.mono ?_
  rintro e X1 ⟨rfl, hb⟩
  replace r4 := r4.keep hb
  replace HT := Lib.hid (HT.out.keep hb)
  replace HA := Lib.hid (HA.out.keep hb)
  replace HBB := Lib.hid (HBB.out.keep hb)
  have HB1 := Lib.hid (below_call HB.out hb)
  clear hb a0 a1 l4 HCK HB
  have hlo := located_any om oc oa cm cc ca T ps X1 (by omega) HPS.out.1 HPS.out.2 (fun m hm => (HO.out.mo m hm).n2) HT.out HA.out
  unfold Tm.val at hlo
  have HLO := Lib.hid hlo
  clear hlo
  have a0 : X1.cell? ⟨n4, 0, none⟩ = some (.slice om T.ms.length cm) := r4.c 0 _ rfl
  have a1 : X1.cell? ⟨n4, 1, none⟩ = some (.slice oc T.cs.length cc) := r4.c 1 _ rfl
  have l4 := r4.lt
  go_wp2_with fail
  refine HLO.out.mono ?_
  rintro e X2 ⟨rfl, hb⟩
  replace r4 := r4.keep hb
  replace HT := Lib.hid (HT.out.keep hb)
  replace HA := Lib.hid (HA.out.keep hb)
  replace HBB := Lib.hid (HBB.out.keep hb)
  have HB2 := Lib.hid (below_call HB1.out hb)
  clear hb a0 a1 l4 HLO HB1
  have hlo := located_any om oc ob cm cc cb T qs X2 (by omega) HQS.out.1 HQS.out.2 (fun m hm => (HO.out.mo m hm).n2) HT.out HBB.out
  unfold Tm.val at hlo
  have HLO := Lib.hid hlo
  clear hlo
  have a0 : X2.cell? ⟨n4, 0, none⟩ = some (.slice om T.ms.length cm) := r4.c 0 _ rfl
  have a1 : X2.cell? ⟨n4, 1, none⟩ = some (.slice oc T.cs.length cc) := r4.c 1 _ rfl
  have l4 := r4.lt
  go_wp2_with fail
  refine HLO.out.mono ?_
  rintro e X3 ⟨rfl, hb⟩
  replace r4 := r4.keep hb
  replace HT := Lib.hid (HT.out.keep hb)
  replace HA := Lib.hid (HA.out.keep hb)
  replace HBB := Lib.hid (HBB.out.keep hb)
  have HB3 := Lib.hid (below_call HB2.out hb)
  clear hb a0 a1 l4 HLO HB2
  have a0 : X3.cell? ⟨n4, 0, none⟩ = some (.slice om T.ms.length cm) := r4.c 0 _ rfl
  have l4 := r4.lt
  have HR4 := Lib.hid r4
  clear r4
  go_wp2_with fail
  clear a0 l4
  go_loopw [44, 10] (fun i s W => ∃ k v : Nat, i = .int .i64 (k : Nat) ∧ k ≤ T.ms.length ∧ s = .int .i64 (v : Nat) ∧ v ≤ 4 ^ k ∧ Below X3.heap.size X3 W) (fun i _ _ => T.ms.length - (intOf i).toNat)
  case atStart => exact ⟨0, 1, rfl, Nat.zero_le _, rfl, by simp, Below.refl _ _⟩
  case round =>
    obtain ⟨k, v, rfl, hk, rfl, hv, hW⟩ := hrel
    by_cases hlt : k < T.ms.length
    · obtain ⟨m, hm⟩ : ∃ m, T.ms[k]? = some m := ⟨_, List.getElem?_eq_getElem hlt⟩
      obtain ⟨bm, offm, rfl, hMr⟩ := (HT.out.keep hW).ms (map_ne hlt)
      have x0 : wr.cell? ⟨bm, offm + k * 2, none⟩ = some (.slice m.op m.n m.cp) := hMr.c k _ (map_get hm) 0 _ rfl
      have x1 : wr.cell? ⟨bm, offm + k * 2 + 1, none⟩ = some (.slice m.oe m.es.length m.ce) := hMr.c k _ (map_get hm) 1 _ rfl
      have lm := hMr.lt
      have hmn := (HMK.out m (List.mem_of_getElem? hm)).1
      have hp4 : 4 ^ k ≤ 256 := by have : 4 ^ k ≤ 4 ^ 4 := Nat.pow_le_pow_right (by omega) (by omega); omega
      have hvm : v * m.n ≤ 4 ^ (k + 1) := by rw [Nat.pow_succ]; exact Nat.mul_le_mul hv hmn
      have hvm2 : v * m.n ≤ 1024 := Nat.le_trans (Nat.mul_le_mul (Nat.le_trans hv hp4) hmn) (by omega)
      have hcast : ((v * m.n : Nat) : Int) = (v : Int) * (m.n : Int) := by simp
      have hw2 : IntKind.i64.wrap ((v : Int) * (m.n : Int)) = (v : Int) * (m.n : Int) := IntWalk.i64_in _ (by rw [← hcast]; omega)
      have HVM := Lib.hid hvm
      have HW := Lib.hid hW
      clear hMr hm hvm hvm2 hv hW hp4
      go_upto_region 7 with fail
      clear x0 x1 lm
      have hbx_ := boxes1 wr [.slice m.op m.n m.cp, .slice m.oe m.es.length m.ce] 43
      have HV := Lib.hid (below_call HW.out (hbx_.2))
      generalize wr.alloc (.cells #[.slice m.op m.n m.cp, .slice m.oe m.es.length m.ce] 43) = V at hbx_ HV ⊢
      obtain ⟨r12, hbel_⟩ := hbx_
      obtain ⟨n12, hn_⟩ : ∃ n, n = wr.heap.size := ⟨_, rfl⟩
      rw [← hn_] at r12 ⊢
      clear hn_ hbel_
      have y0 : V.cell? ⟨n12, 0, none⟩ = some (.slice m.op m.n m.cp) := r12.c 0 _ rfl
      have l12 := r12.lt
      clear r12
      go_wp2_with fail
      go_roundw
      case rel => exact ⟨k + 1, v * m.n, by simp, by omega, by rw [hcast], HVM.out, HV.out⟩
      case measure => simp [intOf]; omega
    · have hp4 : 4 ^ k ≤ 256 := by have : 4 ^ k ≤ 4 ^ 4 := Nat.pow_le_pow_right (by omega) (by omega); omega
      have hd : decide ((v : Int) > 65536) = false := decide_eq_false (by omega)
      have HX4 := Lib.hid (below_call HB3.out hW)
      have R4 := HR4.out.keep hW
      have HT4 := Lib.hid (HT.out.keep hW)
      have hex := explore_any om oc oa ob cm cc ca cb T ps qs wr HO.out HPS.out HQS.out (fun m hm => by have := (HMK.out m hm).1; omega) HT4.out (HA.out.keep hW) (HBB.out.keep hW)
      unfold Tm.val at hex
      have HEX := Lib.hid hex
      have a0 : wr.cell? ⟨n4, 0, none⟩ = some (.slice om T.ms.length cm) := R4.c 0 _ rfl
      have a1 : wr.cell? ⟨n4, 1, none⟩ = some (.slice oc T.cs.length cc) := R4.c 1 _ rfl
      have l4 := R4.lt
      clear hex R4 hW HA HBB
      go_wp2_with fail
      refine HEX.out.mono ?_
      rintro e W1 ⟨hb, ⟨rfl, k, m, hm, hne⟩ | ⟨on, es, cn, gm, gb, gs, gc, ne, rfl, hC, hes, hX, hMb, hMs, hCn, hsb, hap, hgs, hgb, hsame⟩⟩
      · clear a0 a1 l4 HEX
        have HB4 := Lib.hid (below_call HX4.out hb)
        clear hb
        go_wp2
        refine bodyPost_ret (v := .tuple #[.slice none 0 0, .bool false]) (by simp [results, Try.results12, go_sem]) rfl ?_
        exact ⟨HB4.out, .inl ⟨rfl, fun n _ _ => no_comp HO.out HPS.out HQS.out hm hne n⟩⟩
      · have hel : es.length = T.ms.length := by have := congrArg List.length hes; simpa using this
        have HEL := Lib.hid hel
        have HES := Lib.hid hes
        have HB4 := Lib.hid (below_call HX4.out hb)
        have HC := Lib.hid hC
        have HX := Lib.hid hX
        have HCN := Lib.hid hCn
        have HAP := Lib.hid hap
        have hgsw : w.heap.size ≤ gs := Nat.le_trans HX4.out.size hgs
        have hgbw : w.heap.size ≤ gb := Nat.le_trans HX4.out.size hgb
        have x2 : W1.cell? ⟨ne, 2, none⟩ = some (.int .i64 (stOf ps).a) := hX.c 2 _ rfl
        have x3 : W1.cell? ⟨ne, 3, none⟩ = some (.int .i64 (stOf ps).b) := hX.c 3 _ rfl
        have x4 : W1.cell? ⟨ne, 4, none⟩ = some (.int .i64 (stOf ps).c) := hX.c 4 _ rfl
        have x5 : W1.cell? ⟨ne, 5, none⟩ = some (.int .i64 (stOf ps).d) := hX.c 5 _ rfl
        have lx := hX.lt
        clear a0 a1 l4 HEX hb hC hX hCn hap hel hes hgs hgb
        go_upto_region 15 with fail
        clear x2 x3 x4 x5 lx
        have hls := hMs.lt
        have hlb := hMb.lt
        have hbn : MapIs W1 gb S4.v (bvals []) := hMb
        have hbx_ := boxes1 W1 [.int .i64 (stOf ps).a, .int .i64 (stOf ps).b, .int .i64 (stOf ps).c, .int .i64 (stOf ps).d] 84
        replace hMs := hMs.keep hbx_.2
        replace hbn := hbn.keep hbx_.2
        have HB5 := Lib.hid (hbx_.2)
        have hoe : W1.heap.size ≤ W1.heap.size := by omega
        generalize W1.alloc (.cells #[.int .i64 (stOf ps).a, .int .i64 (stOf ps).b, .int .i64 (stOf ps).c, .int .i64 (stOf ps).d] 84) = W2 at hbx_ hMs hbn HB5 ⊢
        obtain ⟨r15, hbel_⟩ := hbx_
        obtain ⟨n15, hn_⟩ : ∃ n, n = W1.heap.size := ⟨_, rfl⟩
        rw [← hn_] at r15 ⊢
        replace hoe := Nat.le_of_eq hn_.symm
        clear hn_ hbel_
        have hS0 : SlW T W1 W2 gs gb (some ⟨n15, 0, none⟩) [stOf ps] ⟨if stOf ps = stOf qs then [] else markN (stOf ps) T.ms.length [], [], []⟩ := by
          refine ⟨Tch.of_below HB5.out, hMs, hbn, fun _ => ⟨n15, 0, rfl, r15.lt, fun i r hi k u hu => ?_⟩, fun b off t h => ?_, by simp⟩
          · have hi0 : i = 0 := by
              rcases Nat.eq_zero_or_pos i with h | h
              · exact h
              · rw [List.getElem?_eq_none (by simp; omega)] at hi; cases hi
            subst hi0
            simp at hi
            subst hi
            have := r15.c k u hu
            simpa using this
          · injection h with h
            injection h with h
            exact ⟨by omega, by omega⟩
        obtain ⟨V0, hL0⟩ := Lay.init (nx := T.ms.map nextOf) (l := clOf T.cs) (goal := stOf qs) hn2 hn1 (stOf_inb HO.out HPS.out (fun k m _ => rfl)) [] []
        clear hMs hbn hMb r15 hoe hls hlb
        go_wp2_with fail
        go_loopw [16, 15] (fun i y W => ∃ (n : Nat) (layer : List S4) (s : Ex) (V : List S4) (ol : Option Addr) (cl : Nat), i = .int .i64 ((n : Int) + 1) ∧ n ≤ tk ∧ y = .slice ol layer.length cl ∧ Lay T.ms.length (T.ms.map nextOf) (clOf T.cs) (csOf T ps) (stOf ps) (stOf qs) n layer s V ∧ SlW T W1 W gs gb ol layer s) (fun i _ _ => tk + 1 - (intOf i).toNat)
        case atStart => exact ⟨0, _, _, V0, _, _, by simp, Nat.zero_le _, rfl, hL0, hS0⟩
        case round =>
          clear hS0 hL0
          obtain ⟨n, layer, s, V, ol, cl, rfl, hn, rfl, hL, hS⟩ := hrel
          obtain ⟨Wa, rfl⟩ : ∃ X, X = wr := ⟨_, rfl⟩
          have HL := Lib.hid hL
          have HS := Lib.hid hS
          have hlen := hS.len
          clear hL hS
          by_cases hnt : n < tk
          · have hd1 : decide ((n : Int) + 1 ≤ (tk : Int)) = true := decide_eq_true (by omega)
            by_cases hle : 0 < layer.length
            · have hd2 : decide ((layer.length : Int) > 0) = true := decide_eq_true (by omega)
              have hS := HS.out
              have hno : ∀ b, (crewUses on es gm b ∨ b = ne ∨ b = gc) → ¬ (b = gs ∨ b = gb) := fun b hb hc => by
                have := HAP.out b hb
                rcases hc with h | h
                · exact this.1 h
                · exact this.2 h
              have hcv := cntJ_len T ps T.ms.length
              have hfacts : ∀ (i : Nat) (e : NxE), es[i]? = some e → ∃ m, T.ms[i]? = some m ∧ e.ls = nextOf m := fun i e he => by
                have h1 : (es.map NxE.ls)[i]? = some e.ls := by simp [he]
                rw [HES.out, List.getElem?_map, Option.map_eq_some_iff] at h1
                obtain ⟨m, hm, h2⟩ := h1
                exact ⟨m, hm, h2.symm⟩
              have hp33 : 33 ^ es.length ≤ 1185921 := by
                rw [HEL.out]
                have h3 : 33 ^ T.ms.length ≤ 33 ^ 4 := Nat.pow_le_pow_right (by omega) (by omega)
                omega
              have htick := tick_any on es cn gm ne gb gs gc (stOf ps) (stOf qs) (cntJ T ps T.ms.length) (clOf T.cs) s ol cl layer 33 Wa (HC.out.tch hS.tch fun b hb => hno b (.inl hb)) (clOf_true _) (by rw [HEL.out]; exact hn1) (by rw [HEL.out]; exact hn2) (hS.tch.blk HX.out (hno ne (.inr (.inl rfl)))) (hS.tch.blk HCN.out (hno gc (.inr (.inr rfl)))) (by rw [hcv, HEL.out]) hS.ms hS.mb hS.sl hsb
                (fun b hb => by
                  rcases hb with h | h | h | ⟨off, t, h⟩
                  · exact HAP.out b (.inl h)
                  · exact HAP.out b (.inr (.inl h))
                  · exact HAP.out b (.inr (.inr h))
                  · exact hS.ap b off t h)
                (fun f hf i e he => by
                  obtain ⟨m, hm, hls⟩ := hfacts i e he
                  have hi := (List.getElem?_eq_some_iff.1 hm).1
                  obtain ⟨h3, h4⟩ := vxs_get (HL.out.inb f hf) i hi
                  rw [HEL.out, hls, nextOf_len]
                  exact ⟨h3, ((mem_csOf hm _).1 h4).1⟩)
                (fun e he => by
                  obtain ⟨i, hi⟩ := List.getElem?_of_mem he
                  obtain ⟨m, hm, hls⟩ := hfacts i e hi
                  have hmm := List.mem_of_getElem? hm
                  rw [hls, nextOf_len]
                  refine ⟨by have := (HMK.out m hmm).1; omega, fun x hx => ?_⟩
                  exact nextOf_short (HO.out.mo m hmm) 16 (HMK.out m hmm).2 x hx)
                (by omega) (by have := Nat.mul_le_mul hlen hp33; omega) (by omega)
                (fun b => by
                  have h3 := HL.out.inv.bd b
                  have h4 := HL.out.inv.low hn2
                  have h5 := prodF_le (cs := csOf T ps) (csOf_len (fun m hm => (HMK.out m hm).1)) T.ms.length 0
                  have h6 : 4 ^ T.ms.length ≤ 4 ^ 4 := Nat.pow_le_pow_right (by omega) (by omega)
                  omega)
              rw [HEL.out, HES.out] at htick
              obtain ⟨new, g⟩ := tickF_spec (goal := stOf qs) (l := clOf T.cs) (cn := atOf (cntJ T ps T.ms.length)) hn2 hn1 (fun k hk => by rw [cntJ_get T ps T.ms.length k hk, if_pos (by omega)]) (cs_closed HO.out ps) layer ⟨s.seen, s.bef, []⟩ V (HL.out.any []).inv HL.out.inb
              generalize tickF T.ms.length (T.ms.map nextOf) (clOf T.cs) (atOf (cntJ T ps T.ms.length)) (stOf qs) layer ⟨s.seen, s.bef, []⟩ = q at htick g
              have HTK := Lib.hid htick
              have HG := Lib.hid g
              clear htick g hS hno hcv hfacts hp33
              go_wp2_with fail
              refine HTK.out.mono ?_
              rintro e X ⟨hm1, hm2, htc, hye, hnoo⟩
              have hnl := new_len HG.out hn2
              have hTX := HS.out.tch.trans htc
              have HTX := Lib.hid hTX
              have HM1 := Lib.hid hm1
              have HM2 := Lib.hid hm2
              have hszX := htc.size
              clear HTK hm1 hm2 hTX
              have hnoe : ¬ (ne = gs ∨ ne = gb) := fun hc => by
                have := HAP.out ne (.inr (.inl rfl))
                rcases hc with h | h
                · exact this.1 h
                · exact this.2 h
              have HBX := Lib.hid (tch_below HTX.out HB4.out hgsw hgbw)
              cases hq : q.1 with
              | true =>
                obtain rfl := hye hq
                obtain ⟨rows, hSv, hrl, hrr, hrj⟩ := solve_found HO.out HPS.out HQS.out (HL.out.any []) HG.out hq (show n + 1 ≤ tk by omega)
                have hplan := plan_any on es.length cn gm ne gb gs gc (n + 1) (stOf ps) (stOf qs) q.2.bef X (HTX.out.blk HX.out hnoe) HM2.out (by rw [HEL.out]; exact hn2) (by omega)
                have hcast : ((n + 1 : Nat) : Int) = (n : Int) + 1 := by simp
                rw [hcast, HEL.out, hrj] at hplan
                have HPL := Lib.hid hplan
                have HSV := Lib.hid hSv
                clear hplan hrj hSv hnoo hye hnl
                go_wp2_with fail
                refine HPL.out.mono ?_
                rintro e Y ⟨gp, gk, rfl, hPl, hbY⟩
                have HLL := Lib.hid (plw_ll hPl hrr)
                have HBY := Lib.hid (below_call HBX.out hbY)
                clear hPl hbY HPL
                go_wp2
                refine bodyPost_ret (v := .tuple #[.slice (some ⟨gp, 0, none⟩) T.ms.length T.ms.length, .bool true]) (by simp [results, Try.results12, go_sem]) rfl ?_
                exact ⟨HBY.out, .inr ⟨gp, rows, rfl, hrl, HLL.out, HSV.out⟩⟩
              | false =>
                obtain ⟨on', cn', rfl, hsl, hfr⟩ := hnoo hq
                have hnx : q.2.next = new := by rw [HG.out.next]; rfl
                have hln : q.2.next.length ≤ 256 := by
                  rw [hnx]
                  have h5 := prodF_le (cs := csOf T ps) (csOf_len (fun m hm => (HMK.out m hm).1)) T.ms.length 0
                  have h6 : 4 ^ T.ms.length ≤ 4 ^ 4 := Nat.pow_le_pow_right (by omega) (by omega)
                  omega
                have hLn := (HL.out.any []).next HG.out hq
                rw [← hnx] at hLn
                have l1 := HS.out.ms.lt
                have l2 := HS.out.mb.lt
                have HSN : Hid (SlW T W1 X gs gb on' q.2.next q.2) := Lib.hid ⟨HTX.out, HM1.out, HM2.out, hsl, fun b off t h => by have := hfr b off t h; exact ⟨by omega, by omega⟩, hln⟩
                have HLN := Lib.hid hLn
                clear hsl hfr hnoo hye hnl hLn hln l1 l2 hnx
                go_wp2_with fail
                go_roundw
                case rel => exact ⟨n + 1, q.2.next, q.2, _, on', cn', by simp, by omega, rfl, HLN.out, HSN.out⟩
                case measure => simp [intOf]; omega
            · have hd2 : decide ((layer.length : Int) > 0) = false := decide_eq_false (by omega)
              have hl0 : layer = [] := List.length_eq_zero_iff.1 (by omega)
              have hsv := solve_none (tk := tk) HO.out HPS.out HL.out (.inr hl0)
              have HSV := Lib.hid hsv
              have HBX := Lib.hid (tch_below HS.out.tch HB4.out hgsw hgbw)
              clear hsv
              go_wp2
              refine bodyPost_ret (v := .tuple #[.slice none 0 0, .bool false]) (by simp [results, Try.results12, go_sem]) rfl ?_
              exact ⟨HBX.out, .inl ⟨rfl, HSV.out⟩⟩
          · have hd1 : decide ((n : Int) + 1 ≤ (tk : Int)) = false := decide_eq_false (by omega)
            have hntk : n = tk := by omega
            have hsv := solve_none (tk := tk) HO.out HPS.out HL.out (.inl hntk)
            have HSV := Lib.hid hsv
            have HBX := Lib.hid (tch_below HS.out.tch HB4.out hgsw hgbw)
            clear hsv
            go_wp2
            refine bodyPost_ret (v := .tuple #[.slice none 0 0, .bool false]) (by simp [results, Try.results12, go_sem]) rfl ?_
            exact ⟨HBX.out, .inl ⟨rfl, HSV.out⟩⟩
end Go.Proofs.Jn
end

section
/-
  Walks of the reference: ordered, Formed.
-/
namespace Go.Proofs.Jn
open Go.RowKit Go.Shelf

set_option maxRecDepth 100000 in
set_option maxHeartbeats 4000000 in
theorem ordered_any (m : Mp) (w : World) (hm : MapOk m) (hE : Sl w m.oe 12 (m.es.map Ed.vals)) :
    Calls Try.prog 71 #[.agg #[.slice m.op m.n m.cp, .slice m.oe m.es.length m.ce]] w (BoolP true w) := by
  have HM := Lib.hid hm
  have hn2 := hm.n2
  have hlen := hm.len
  clear hm
  generalize m.oe = oe at hE ⊢
  go_enter Try.func71, Try.ntmps71
  go_upto_region 1 with fail
  have hbx_ := boxes1 w [.slice m.op m.n m.cp, .slice oe m.es.length m.ce] 43
  replace hE := hE.keep hbx_.2
  have HB := Lib.hid (hbx_.2)
  generalize w.alloc (.cells #[.slice m.op m.n m.cp, .slice oe m.es.length m.ce] 43) = W0 at hbx_ hE HB ⊢
  obtain ⟨r1, hbel_⟩ := hbx_
  obtain ⟨n1, hn_⟩ : ∃ n, n = w.heap.size := ⟨_, rfl⟩
  rw [← hn_] at r1 ⊢
  clear hn_ hbel_
  have HE := Lib.hid hE
  have HR1 := Lib.hid r1
  clear hE r1
  go_wp2_with fail
  go_loopw [3] (fun i W => ∃ k : Nat, i = .int .i64 (k : Nat) ∧ k ≤ m.es.length ∧ Below W0.heap.size W0 W) (fun i _ => m.es.length - (intOf i).toNat)
  case atStart => exact ⟨0, rfl, Nat.zero_le _, Below.refl _ _⟩
  case round =>
    obtain ⟨k, rfl, hk, hW⟩ := hrel
    obtain ⟨Wa, rfl⟩ : ∃ X, X = wr := ⟨_, rfl⟩
    have r1 := HR1.out.keep hW
    by_cases hlt : k < m.es.length
    · obtain ⟨e, he⟩ : ∃ e, m.es[k]? = some e := ⟨_, List.getElem?_eq_getElem hlt⟩
      obtain ⟨be, offe, rfl, hEr⟩ := (HE.out.keep hW) (map_ne hlt)
      have a1 := r1.c 1 _ rfl
      have l1 := r1.lt
      have x0 : Wa.cell? ⟨be, offe + k * 12, none⟩ = some (.int .i64 (e.u : Nat)) := hEr.c k _ (map_get he) 0 _ rfl
      have x1 : Wa.cell? ⟨be, offe + k * 12 + 1, none⟩ = some (.int .i64 (e.v : Nat)) := hEr.c k _ (map_get he) 1 _ rfl
      have x2 : Wa.cell? ⟨be, offe + k * 12 + 2, none⟩ = some (.int .i64 e.c) := hEr.c k _ (map_get he) 2 _ rfl
      have x3 : Wa.cell? ⟨be, offe + k * 12 + 3, none⟩ = some (.int .i64 e.st) := hEr.c k _ (map_get he) 3 _ rfl
      have x4 : Wa.cell? ⟨be, offe + k * 12 + 4, none⟩ = some (.int .i64 e.k0) := hEr.c k _ (map_get he) 4 _ rfl
      have x5 : Wa.cell? ⟨be, offe + k * 12 + 5, none⟩ = some (.slice e.s1.a e.s1.n e.s1.c) := hEr.c k _ (map_get he) 5 _ rfl
      have x6 : Wa.cell? ⟨be, offe + k * 12 + 6, none⟩ = some (.int .i64 e.k2) := hEr.c k _ (map_get he) 6 _ rfl
      have x7 : Wa.cell? ⟨be, offe + k * 12 + 7, none⟩ = some (.int .i64 e.k3) := hEr.c k _ (map_get he) 7 _ rfl
      have x8 : Wa.cell? ⟨be, offe + k * 12 + 8, none⟩ = some (.slice e.s4.a e.s4.n e.s4.c) := hEr.c k _ (map_get he) 8 _ rfl
      have x9 : Wa.cell? ⟨be, offe + k * 12 + 9, none⟩ = some (.int .i64 e.k5) := hEr.c k _ (map_get he) 9 _ rfl
      have x10 : Wa.cell? ⟨be, offe + k * 12 + 10, none⟩ = some (.slice e.s6.a e.s6.n e.s6.c) := hEr.c k _ (map_get he) 10 _ rfl
      have x11 : Wa.cell? ⟨be, offe + k * 12 + 11, none⟩ = some (.slice e.s7.a e.s7.n e.s7.c) := hEr.c k _ (map_get he) 11 _ rfl
      have lbe := hEr.lt
      have hed := HM.out.ed e (List.mem_of_getElem? he)
      have HER := Lib.hid hEr
      have HEk := Lib.hid he
      have HW := Lib.hid hW
      clear hEr he hW
      go_upto_region 5 with fail
      clear x0 x1 x2 x3 x4 x5 x6 x7 x8 x9 x10 x11 lbe a1 l1
      have hbx_ := boxes1 Wa [.int .i64 (e.u : Nat), .int .i64 (e.v : Nat), .int .i64 e.c, .int .i64 e.st, .int .i64 e.k0, .slice e.s1.a e.s1.n e.s1.c, .int .i64 e.k2, .int .i64 e.k3, .slice e.s4.a e.s4.n e.s4.c, .int .i64 e.k5, .slice e.s6.a e.s6.n e.s6.c, .slice e.s7.a e.s7.n e.s7.c] 54
      replace r1 := r1.keep hbx_.2
      replace HER := Lib.hid (HER.out.keep hbx_.2)
      have HW3 := Lib.hid (below_call HW.out (hbx_.2))
      generalize Wa.alloc (.cells #[.int .i64 (e.u : Nat), .int .i64 (e.v : Nat), .int .i64 e.c, .int .i64 e.st, .int .i64 e.k0, .slice e.s1.a e.s1.n e.s1.c, .int .i64 e.k2, .int .i64 e.k3, .slice e.s4.a e.s4.n e.s4.c, .int .i64 e.k5, .slice e.s6.a e.s6.n e.s6.c, .slice e.s7.a e.s7.n e.s7.c] 54) = W3 at hbx_ r1 HER HW3 ⊢
      obtain ⟨r4, hbel_⟩ := hbx_
      obtain ⟨n4, hn_⟩ : ∃ n, n = Wa.heap.size := ⟨_, rfl⟩
      rw [← hn_] at r4 ⊢
      clear hn_ hbel_
      have d1 : decide ((e.u : Int) < 0) = false := decide_eq_false (by omega)
      have d2 : decide ((e.u : Int) ≥ (e.v : Int)) = false := decide_eq_false (by omega)
      have d3 : decide ((e.v : Int) ≥ (m.n : Int)) = false := decide_eq_false (by omega)
      have y0 : W3.cell? ⟨n4, 0, none⟩ = some (.int .i64 (e.u : Nat)) := r4.c 0 _ rfl
      have y1 : W3.cell? ⟨n4, 1, none⟩ = some (.int .i64 (e.v : Nat)) := r4.c 1 _ rfl
      have a0 : W3.cell? ⟨n1, 0, none⟩ = some (.slice m.op m.n m.cp) := r1.c 0 _ rfl
      have a1 : W3.cell? ⟨n1, 1, none⟩ = some (.slice (some ⟨be, offe, none⟩) m.es.length m.ce) := r1.c 1 _ rfl
      have l4 := r4.lt
      have l1 := r1.lt
      go_upto_region 7 with fail
      clear d1 d2 d3
      have lbe := HER.out.lt
      rcases Nat.eq_zero_or_pos k with hk0 | hk0
      · subst hk0
        have d0 : decide (((0 : Nat) : Int) > 0) = false := by simp
        go_quiet (fail)
        have HW4 := Lib.hid (below_call HW3.out (below_drew W3 nq))
        clear y0 y1 a0 a1 l4 l1 lbe
        generalize W3.drewN nq = V at HW4 ⊢
        go_wp2
        go_roundw
        case rel => exact ⟨1, by simp, by omega, HW4.out⟩
        case measure => simp [intOf]; omega
      · obtain ⟨j, rfl⟩ : ∃ j, k = j + 1 := ⟨k - 1, by omega⟩
        obtain ⟨f, hf⟩ : ∃ f, m.es[j]? = some f := ⟨_, List.getElem?_eq_getElem (by omega)⟩
        have hfe := HM.out.asc j f e hf HEk.out
        have z0 : W3.cell? ⟨be, offe + j * 12, none⟩ = some (.int .i64 (f.u : Nat)) := HER.out.c j _ (map_get hf) 0 _ rfl
        have z1 : W3.cell? ⟨be, offe + j * 12 + 1, none⟩ = some (.int .i64 (f.v : Nat)) := HER.out.c j _ (map_get hf) 1 _ rfl
        have hc : ((j + 1 : Nat) : Int) = (j : Int) + 1 := by simp
        rw [hc]
        have d0 : decide ((j : Int) + 1 > 0) = true := decide_eq_true (by omega)
        have hw1 : IntKind.i64.wrap ((j : Int) + 1 - 1) = (j : Int) := by rw [IntWalk.i64_in _ (by omega)]; omega
        have hw2 : IntKind.i64.wrap (j : Int) = (j : Int) := IntWalk.i64_in _ (by omega)
        have d1 : decide ((f.u : Int) > (e.u : Int)) = false := decide_eq_false (by omega)
        have hji : (j : Int) < (m.es.length : Int) := by omega
        have n1' : decide (e.u < f.u) = false := decide_eq_false (by omega)
        clear hf
        rcases hfe with hfe | ⟨hfe, hfv⟩
        · have d2 : ((f.u : Int) == (e.u : Int)) = false := by simp; omega
          have n2' : (f.u == e.u) = false := by simp; omega
          have n3' : decide (f.u = e.u) = false := decide_eq_false (by omega)
          go_quiet (fail)
          have HW4 := Lib.hid (below_call HW3.out (below_drew W3 nq))
          clear y0 y1 a0 a1 l4 l1 lbe z0 z1 d0 d1 d2 n1' n2' n3' hw1 hw2 hji
          generalize W3.drewN nq = V at HW4 ⊢
          go_wp2
          go_roundw
          case rel => exact ⟨j + 1 + 1, by simp, by omega, HW4.out⟩
          case measure => simp [intOf]; omega
        · have d2 : ((f.u : Int) == (e.u : Int)) = true := by simp; omega
          have n2' : (f.u == e.u) = true := by simp; omega
          have n3' : decide (f.u = e.u) = true := decide_eq_true (by omega)
          have n4' : decide (e.v ≤ f.v) = false := decide_eq_false (by omega)
          have d3 : decide ((f.v : Int) ≥ (e.v : Int)) = false := decide_eq_false (by omega)
          go_quiet (fail)
          have HW4 := Lib.hid (below_call HW3.out (below_drew W3 nq))
          clear y0 y1 a0 a1 l4 l1 lbe z0 z1 d0 d1 d2 d3 n1' n2' n3' n4' hw1 hw2 hji
          generalize W3.drewN nq = V at HW4 ⊢
          go_wp2
          go_roundw
          case rel => exact ⟨j + 1 + 1, by simp, by omega, HW4.out⟩
          case measure => simp [intOf]; omega
    · have a0 := r1.c 0 _ rfl
      have a1 := r1.c 1 _ rfl
      have l1 := r1.lt
      have hkl : k = m.es.length := by omega
      have d1 : decide ((m.n : Int) ≤ 1024) = true := decide_eq_true (by omega)
      have d2 : decide ((m.es.length : Int) ≤ 8192) = true := decide_eq_true (by omega)
      have HW := Lib.hid (below_call HB.out hW)
      clear r1 hW
      go_wp2
      go_ret
      exact boolP_mk rfl HW.out
set_option maxRecDepth 100000 in
set_option maxHeartbeats 4000000 in
theorem formed_any (m : Mp) (w : World) (hm : MapOk m) (hE : Sl w m.oe 12 (m.es.map Ed.vals)) :
    Calls Try.prog 60 #[.agg #[.slice m.op m.n m.cp, .slice m.oe m.es.length m.ce]] w (BoolP true w) := by
  have HM := Lib.hid hm
  have hlen := hm.len
  have hord := fun X => ordered_any m X hm
  clear hm
  generalize m.oe = oe at hE hord ⊢
  have HORD := Lib.hid hord
  clear hord
  go_enter Try.func60, Try.ntmps60
  go_upto_region 1 with fail
  have hbx_ := boxes1 w [.slice m.op m.n m.cp, .slice oe m.es.length m.ce] 43
  replace hE := hE.keep hbx_.2
  have HB := Lib.hid (hbx_.2)
  generalize w.alloc (.cells #[.slice m.op m.n m.cp, .slice oe m.es.length m.ce] 43) = W0 at hbx_ hE HB ⊢
  obtain ⟨r1, hbel_⟩ := hbx_
  obtain ⟨n1, hn_⟩ : ∃ n, n = w.heap.size := ⟨_, rfl⟩
  rw [← hn_] at r1 ⊢
  clear hn_ hbel_
  have HE := Lib.hid hE
  have HR1 := Lib.hid r1
  clear hE r1
  go_wp2_with fail
  go_loopw [3] (fun i W => ∃ k : Nat, i = .int .i64 (k : Nat) ∧ k ≤ m.es.length ∧ Below W0.heap.size W0 W) (fun i _ => m.es.length - (intOf i).toNat)
  case atStart => exact ⟨0, rfl, Nat.zero_le _, Below.refl _ _⟩
  case round =>
    obtain ⟨k, rfl, hk, hW⟩ := hrel
    obtain ⟨Wa, rfl⟩ : ∃ X, X = wr := ⟨_, rfl⟩
    have r1 := HR1.out.keep hW
    have a0 := r1.c 0 _ rfl
    have a1 := r1.c 1 _ rfl
    have l1 := r1.lt
    by_cases hlt : k < m.es.length
    · obtain ⟨e, he⟩ : ∃ e, m.es[k]? = some e := ⟨_, List.getElem?_eq_getElem hlt⟩
      obtain ⟨be, offe, rfl, hEr⟩ := (HE.out.keep hW) (map_ne hlt)
      have x2 : Wa.cell? ⟨be, offe + k * 12 + 2, none⟩ = some (.int .i64 e.c) := hEr.c k _ (map_get he) 2 _ rfl
      have lbe := hEr.lt
      have hed := HM.out.ed e (List.mem_of_getElem? he)
      have d1 : decide (e.c < 0) = false := decide_eq_false (by omega)
      have d2 : decide (e.c > 1099511627776) = false := decide_eq_false (by omega)
      have HW := Lib.hid hW
      clear hEr he hW r1
      go_wp2_with fail
      go_roundw
      case rel => exact ⟨k + 1, by simp, by omega, HW.out⟩
      case measure => simp [intOf]; omega
    · have hkl : k = m.es.length := by omega
      have ho := HORD.out Wa (HE.out.keep hW)
      have HO := Lib.hid ho
      have HW := Lib.hid (below_call HB.out hW)
      clear r1 hW ho
      go_wp2_with fail
      refine HO.out.mono ?_
      rintro e X ⟨rfl, hb⟩
      have HX := Lib.hid (below_call HW.out hb)
      clear a0 a1 l1 HO
      go_wp2
      go_ret
      exact boolP_mk rfl HX.out
end Go.Proofs.Jn
end

section
/-
  Walks of the reference: CheckTeam, MoveAt.
-/
namespace Go.Proofs.Jn
open Go.RowKit Go.Shelf

theorem refLegal_ok (om oc : Option Addr) (cm cc : Nat) (T : Tm) (a : Mv) (w : World) (hO : TeamOk T) (h : legB T a = true) (hT : TeamAt w om oc T) :
    Calls Try.prog 23 #[.agg #[.slice om T.ms.length cm, .slice oc T.cs.length cc], .agg #[.int .i64 (a.arm : Nat), .int .i64 (a.x : Nat), .int .i64 (a.y : Nat)]] w (BoolP true w) := by
  obtain ⟨m, hm, hx, hy, h⟩ := legB_of h
  have hmo := hO.mo m (List.mem_of_getElem? hm)
  have := refLegal_any om oc cm cc T m a w (by have := hO.n2; omega) hm hx hy hmo.n2 hmo.len hT
  have e : (edgeB m.es a.x a.y || decide (a.x = a.y)) = true := by rw [Bool.or_comm]; exact h
  rw [e] at this
  unfold Tm.val at this
  exact this
set_option maxRecDepth 100000 in
set_option maxHeartbeats 4000000 in
theorem checkT_any (om oc : Option Addr) (cm cc : Nat) (T : Tm) (w : World) (hO : TeamOk T) (hT : TeamAt w om oc T) :
    Calls Try.prog 36 #[.agg #[.slice om T.ms.length cm, .slice oc T.cs.length cc]] w (BoolP true w) := by
  have hn1 := hO.n1
  have hn2 := hO.n2
  have hcn := hO.cn
  have HO := Lib.hid hO
  clear hO
  have d1 : decide ((T.ms.length : Int) < 1) = false := decide_eq_false (by omega)
  have d2 : decide ((T.ms.length : Int) > 4) = false := decide_eq_false (by omega)
  have d3 : decide ((T.cs.length : Int) > 4096) = false := decide_eq_false (by omega)
  go_enter Try.func36, Try.ntmps36
  go_upto_region 1 with fail
  have hbx_ := boxes1 w [.slice om T.ms.length cm, .slice oc T.cs.length cc] 26
  replace hT := hT.keep hbx_.2
  have HB := Lib.hid (hbx_.2)
  generalize w.alloc (.cells #[.slice om T.ms.length cm, .slice oc T.cs.length cc] 26) = W0 at hbx_ hT HB ⊢
  obtain ⟨r1, hbel_⟩ := hbx_
  obtain ⟨n1, hn_⟩ : ∃ n, n = w.heap.size := ⟨_, rfl⟩
  rw [← hn_] at r1 ⊢
  clear hn_ hbel_
  have HT := Lib.hid hT
  have HR1 := Lib.hid r1
  have a0 : W0.cell? ⟨n1, 0, none⟩ = some (.slice om T.ms.length cm) := r1.c 0 _ rfl
  have a1 : W0.cell? ⟨n1, 1, none⟩ = some (.slice oc T.cs.length cc) := r1.c 1 _ rfl
  have l1 := r1.lt
  clear hT r1
  go_wp2_with fail
  clear a0 a1 l1 d1 d2 d3
  go_loopw [3] (fun i W => ∃ k : Nat, i = .int .i64 (k : Nat) ∧ k ≤ T.ms.length ∧ Below W0.heap.size W0 W) (fun i _ => T.ms.length - (intOf i).toNat)
  case atStart => exact ⟨0, rfl, Nat.zero_le _, Below.refl _ _⟩
  case round =>
    obtain ⟨k, rfl, hk, hW⟩ := hrel
    obtain ⟨Wa, rfl⟩ : ∃ X, X = wr := ⟨_, rfl⟩
    have r1 := HR1.out.keep hW
    have a0 := r1.c 0 _ rfl
    have a1 := r1.c 1 _ rfl
    have l1 := r1.lt
    by_cases hlt : k < T.ms.length
    · obtain ⟨m, hm⟩ : ∃ m, T.ms[k]? = some m := ⟨_, List.getElem?_eq_getElem hlt⟩
      obtain ⟨bm, offm, rfl, hMr⟩ := (HT.out.keep hW).ms (map_ne hlt)
      have x0 : Wa.cell? ⟨bm, offm + k * 2, none⟩ = some (.slice m.op m.n m.cp) := hMr.c k _ (map_get hm) 0 _ rfl
      have x1 : Wa.cell? ⟨bm, offm + k * 2 + 1, none⟩ = some (.slice m.oe m.es.length m.ce) := hMr.c k _ (map_get hm) 1 _ rfl
      have lm := hMr.lt
      have hmm := List.mem_of_getElem? hm
      have hf := formed_any m Wa (HO.out.mo m hmm) ((HT.out.keep hW).es m hmm)
      have HF := Lib.hid hf
      have HW := Lib.hid hW
      clear hf hMr hm hmm hW r1
      go_wp2_with fail
      refine HF.out.mono ?_
      rintro e X ⟨rfl, hb⟩
      have HX := Lib.hid (below_call HW.out hb)
      clear x0 x1 lm a0 a1 l1 hb HF
      go_wp2_with fail
      go_roundw
      case rel => exact ⟨k + 1, by simp, by omega, HX.out⟩
      case measure => simp [intOf]; omega
    · have hkl : k = T.ms.length := by omega
      have HW := Lib.hid hW
      clear hW r1
      go_wp2_with fail
      clear a0 a1 l1
      go_loopw [4] (fun i W => ∃ k : Nat, i = .int .i64 (k : Nat) ∧ k ≤ T.cs.length ∧ Below Wa.heap.size Wa W) (fun i _ => T.cs.length - (intOf i).toNat)
      case atStart => exact ⟨0, rfl, Nat.zero_le _, Below.refl _ _⟩
      case round =>
        clear hlt hk hkl
        obtain ⟨k, rfl, hk, hV⟩ := hrel
        obtain ⟨Wb, rfl⟩ : ∃ X, X = wr := ⟨_, rfl⟩
        have hWb := below_call HW.out hV
        have r1 := HR1.out.keep hWb
        have a0 := r1.c 0 _ rfl
        have a1 := r1.c 1 _ rfl
        have l1 := r1.lt
        by_cases hlt : k < T.cs.length
        · obtain ⟨c, hc⟩ : ∃ r, T.cs[k]? = some r := ⟨_, List.getElem?_eq_getElem hlt⟩
          have hT := HT.out.keep hWb
          obtain ⟨bc, offc, rfl, hCr⟩ := hT.cs (map_ne hlt)
          have x0 : Wb.cell? ⟨bc, offc + k * 6, none⟩ = some (.int .i64 (c.a.arm : Nat)) := hCr.c k _ (map_get hc) 0 _ rfl
          have x1 : Wb.cell? ⟨bc, offc + k * 6 + 1, none⟩ = some (.int .i64 (c.a.x : Nat)) := hCr.c k _ (map_get hc) 1 _ rfl
          have x2 : Wb.cell? ⟨bc, offc + k * 6 + 2, none⟩ = some (.int .i64 (c.a.y : Nat)) := hCr.c k _ (map_get hc) 2 _ rfl
          have x3 : Wb.cell? ⟨bc, offc + k * 6 + 3, none⟩ = some (.int .i64 (c.b.arm : Nat)) := hCr.c k _ (map_get hc) 3 _ rfl
          have x4 : Wb.cell? ⟨bc, offc + k * 6 + 4, none⟩ = some (.int .i64 (c.b.x : Nat)) := hCr.c k _ (map_get hc) 4 _ rfl
          have x5 : Wb.cell? ⟨bc, offc + k * 6 + 5, none⟩ = some (.int .i64 (c.b.y : Nat)) := hCr.c k _ (map_get hc) 5 _ rfl
          have lc := hCr.lt
          have hcf := HO.out.cf c (List.mem_of_getElem? hc)
          have HCF := Lib.hid hcf
          have HV := Lib.hid hV
          clear hCr hc hV hcf hWb
          go_upto_region 12 with fail
          clear x0 x1 x2 x3 x4 x5 lc a0 a1 l1
          have hbx_ := boxes1 Wb [.int .i64 (c.a.arm : Nat), .int .i64 (c.a.x : Nat), .int .i64 (c.a.y : Nat), .int .i64 (c.b.arm : Nat), .int .i64 (c.b.x : Nat), .int .i64 (c.b.y : Nat)] 74
          replace r1 := r1.keep hbx_.2
          replace hT := hT.keep hbx_.2
          have HVV := Lib.hid (below_call HV.out (hbx_.2))
          generalize Wb.alloc (.cells #[.int .i64 (c.a.arm : Nat), .int .i64 (c.a.x : Nat), .int .i64 (c.a.y : Nat), .int .i64 (c.b.arm : Nat), .int .i64 (c.b.x : Nat), .int .i64 (c.b.y : Nat)] 74) = V at hbx_ r1 hT HVV ⊢
          obtain ⟨r5, hbel_⟩ := hbx_
          obtain ⟨n5, hn_⟩ : ∃ n, n = Wb.heap.size := ⟨_, rfl⟩
          rw [← hn_] at r5 ⊢
          clear hn_ hbel_
          have ha := refLegal_ok om (some ⟨bc, offc, none⟩) cm cc T c.a V HO.out HCF.out.2.1 hT
          have HA := Lib.hid ha
          have HTV := Lib.hid hT
          have a0 : V.cell? ⟨n1, 0, none⟩ = some (.slice om T.ms.length cm) := r1.c 0 _ rfl
          have a1 : V.cell? ⟨n1, 1, none⟩ = some (.slice (some ⟨bc, offc, none⟩) T.cs.length cc) := r1.c 1 _ rfl
          have y0 : V.cell? ⟨n5, 0, none⟩ = some (.int .i64 (c.a.arm : Nat)) := r5.c 0 _ rfl
          have y1 : V.cell? ⟨n5, 1, none⟩ = some (.int .i64 (c.a.x : Nat)) := r5.c 1 _ rfl
          have y2 : V.cell? ⟨n5, 2, none⟩ = some (.int .i64 (c.a.y : Nat)) := r5.c 2 _ rfl
          have y3 : V.cell? ⟨n5, 3, none⟩ = some (.int .i64 (c.b.arm : Nat)) := r5.c 3 _ rfl
          have y4 : V.cell? ⟨n5, 4, none⟩ = some (.int .i64 (c.b.x : Nat)) := r5.c 4 _ rfl
          have y5 : V.cell? ⟨n5, 5, none⟩ = some (.int .i64 (c.b.y : Nat)) := r5.c 5 _ rfl
          have l1 := r1.lt
          have l5 := r5.lt
          clear ha hT
          go_wp2_with fail
          with_reducible refine HA.out.mono ?_
          rintro e X ⟨rfl, hb⟩
          clear a0 a1 y0 y1 y2 y3 y4 y5 l1 l5 HA
          replace r1 := r1.keep hb
          replace r5 := r5.keep hb
          have hb2 := refLegal_ok om (some ⟨bc, offc, none⟩) cm cc T c.b X HO.out HCF.out.2.2 (HTV.out.keep hb)
          have HB2 := Lib.hid hb2
          have HXX := Lib.hid (below_call HVV.out hb)
          have a0 : X.cell? ⟨n1, 0, none⟩ = some (.slice om T.ms.length cm) := r1.c 0 _ rfl
          have a1 : X.cell? ⟨n1, 1, none⟩ = some (.slice (some ⟨bc, offc, none⟩) T.cs.length cc) := r1.c 1 _ rfl
          have y0 : X.cell? ⟨n5, 0, none⟩ = some (.int .i64 (c.a.arm : Nat)) := r5.c 0 _ rfl
          have y1 : X.cell? ⟨n5, 1, none⟩ = some (.int .i64 (c.a.x : Nat)) := r5.c 1 _ rfl
          have y2 : X.cell? ⟨n5, 2, none⟩ = some (.int .i64 (c.a.y : Nat)) := r5.c 2 _ rfl
          have y3 : X.cell? ⟨n5, 3, none⟩ = some (.int .i64 (c.b.arm : Nat)) := r5.c 3 _ rfl
          have y4 : X.cell? ⟨n5, 4, none⟩ = some (.int .i64 (c.b.x : Nat)) := r5.c 4 _ rfl
          have y5 : X.cell? ⟨n5, 5, none⟩ = some (.int .i64 (c.b.y : Nat)) := r5.c 5 _ rfl
          have l1 := r1.lt
          have l5 := r5.lt
          clear hb hb2
          go_wp2_with fail
          with_reducible refine HB2.out.mono ?_
          rintro e Y ⟨rfl, hb⟩
          clear a0 a1 y0 y1 y2 y3 y4 y5 l1 l5 HB2
          replace r1 := r1.keep hb
          replace r5 := r5.keep hb
          have HYY := Lib.hid (below_call HXX.out hb)
          have y0 : Y.cell? ⟨n5, 0, none⟩ = some (.int .i64 (c.a.arm : Nat)) := r5.c 0 _ rfl
          have y3 : Y.cell? ⟨n5, 3, none⟩ = some (.int .i64 (c.b.arm : Nat)) := r5.c 3 _ rfl
          have l5 := r5.lt
          have hne := int_beq (c.a.arm : Int) (c.b.arm : Int)
          rw [decide_eq_false (by have := HCF.out.1; omega)] at hne
          clear hb r1 r5
          go_wp2_with fail
          go_roundw
          case rel => exact ⟨k + 1, by simp, by omega, HYY.out⟩
          case measure => simp [intOf]; omega
        · have HEND := Lib.hid (below_call HB.out hWb)
          have hkl : k = T.cs.length := by omega
          clear hWb hV r1
          go_wp2
          go_ret
          exact boolP_mk rfl HEND.out
set_option maxRecDepth 100000 in
set_option maxHeartbeats 4000000 in
theorem moveAt_any (xs : List Nat) (o : Option Addr) (c k t : Nat) (w : World) (hA : Sl w o 1 (nvals xs)) (ht : t + 1 < xs.length) (hl : xs.length ≤ 1000) :
    Calls Try.prog 37 #[.slice o xs.length c, .int .i64 (k : Nat), .int .i64 (t : Nat)] w fun e W => e = .returned (.agg #[.int .i64 (k : Nat), .int .i64 (atOf xs t : Nat), .int .i64 (atOf xs (t + 1) : Nat)]) ∧ Below w.heap.size w W := by
  obtain ⟨b, off, rfl, hr⟩ := hA (nvals_ne (k := 0) (by omega))
  have hw1 : IntKind.i64.wrap ((xs.length : Int) - 1) = (xs.length : Int) - 1 := IntWalk.i64_in _ (by omega)
  have hw2 : IntKind.i64.wrap ((t : Int) + 1) = (t : Int) + 1 := IntWalk.i64_in _ (by omega)
  have hm1 : min (t : Int) ((xs.length : Int) - 1) = (t : Int) := by omega
  have hm2 : min ((t : Int) + 1) ((xs.length : Int) - 1) = (t : Int) + 1 := by omega
  go_enter Try.func37, Try.ntmps37
  go_upto_region 1 with fail
  have hbx_ := blks1 w [.int .i64 0, .int .i64 0, .int .i64 0] 65
  have HB := Lib.hid (hbx_.2)
  have hoe : w.heap.size ≤ w.heap.size := by omega
  generalize w.alloc (.cells #[.int .i64 0, .int .i64 0, .int .i64 0] 65) = W1 at hbx_ HB ⊢
  obtain ⟨r6, hbel_⟩ := hbx_
  obtain ⟨n6, hn_⟩ : ∃ n, n = w.heap.size := ⟨_, rfl⟩
  rw [← hn_] at r6 ⊢
  replace hoe := Nat.le_of_eq hn_.symm
  clear hn_ hbel_
  have hr1 := hr.keep HB.out
  have x0 : W1.cell? ⟨b, off + t, none⟩ = some (.int .i64 (atOf xs t : Nat)) := by have := hr1.c t _ (nvals_get (atOf_get (by omega))) 0 _ rfl; simpa using this
  have x1 : W1.cell? ⟨b, off + (t + 1), none⟩ = some (.int .i64 (atOf xs (t + 1) : Nat)) := by have := hr1.c (t + 1) _ (nvals_get (atOf_get ht)) 0 _ rfl; simpa using this
  have lx := hr1.lt
  have hi1 : (t : Int) < (xs.length : Int) := by omega
  have hi2 : (t : Int) + 1 < (xs.length : Int) := by omega
  have hi0 : (0 : Int) ≤ (t : Int) + 1 := by omega
  have hi3 : ((t : Int) + 1).toNat = t + 1 := by omega
  have c0 : W1.cell? ⟨n6, 0, none⟩ = some (.int .i64 0) := r6.c 0 _ rfl
  have c1 : W1.cell? ⟨n6, 1, none⟩ = some (.int .i64 0) := r6.c 1 _ rfl
  have c2 : W1.cell? ⟨n6, 2, none⟩ = some (.int .i64 0) := r6.c 2 _ rfl
  have f0 := r6.f 0
  have f1 := r6.f 1
  have f2 := r6.f 2
  have l6 := r6.lt
  have HF : Hid (Blk (((W1.setCell ⟨n6, 0, none⟩ (.int .i64 (k : Nat))).setCell ⟨n6, 1, none⟩ (.int .i64 (atOf xs t : Nat))).setCell ⟨n6, 2, none⟩ (.int .i64 (atOf xs (t + 1) : Nat))).drew n6 [.int .i64 (k : Nat), .int .i64 (atOf xs t : Nat), .int .i64 (atOf xs (t + 1) : Nat)] ∧ Below w.heap.size w (((W1.setCell ⟨n6, 0, none⟩ (.int .i64 (k : Nat))).setCell ⟨n6, 1, none⟩ (.int .i64 (atOf xs t : Nat))).setCell ⟨n6, 2, none⟩ (.int .i64 (atOf xs (t + 1) : Nat))).drew) :=
    Lib.hid ⟨(((r6.put 0 (.int .i64 (k : Nat))).put 1 (.int .i64 (atOf xs t : Nat))).put 2 (.int .i64 (atOf xs (t + 1) : Nat))).keep (Below.refl _ _).drew, (((HB.out.setCell (p := ⟨n6, 0, none⟩) hoe _).setCell (p := ⟨n6, 1, none⟩) hoe _).setCell (p := ⟨n6, 2, none⟩) hoe _).drew⟩
  clear r6 hr hr1 hA
  go_upto_region 2 with fail
  go_still_tail 10, (by kernel_rfl)
  change wpList _ _ _ _ _ W1.drew
  have c0d : W1.drew.cell? ⟨n6, 0, none⟩ = some (.int .i64 0) := c0
  have c1d : W1.drew.cell? ⟨n6, 1, none⟩ = some (.int .i64 0) := c1
  have c2d : W1.drew.cell? ⟨n6, 2, none⟩ = some (.int .i64 0) := c2
  have f0d : W1.drew.frozen? ⟨n6, 0, none⟩ = false := f0
  have f1d : W1.drew.frozen? ⟨n6, 1, none⟩ = false := f1
  have f2d : W1.drew.frozen? ⟨n6, 2, none⟩ = false := f2
  have l6d : n6 < W1.drew.heap.size := l6
  clear x0 x1 lx
  go_wp2
  clear c0 c1 c2 f0 f1 f2 l6 c0d c1d c2d f0d f1d f2d l6d
  generalize (((W1.setCell ⟨n6, 0, none⟩ (.int .i64 (k : Nat))).setCell ⟨n6, 1, none⟩ (.int .i64 (atOf xs t : Nat))).setCell ⟨n6, 2, none⟩ (.int .i64 (atOf xs (t + 1) : Nat))).drew = V at HF ⊢
  have e0 := HF.out.1.c 0 _ rfl
  have e1 := HF.out.1.c 1 _ rfl
  have e2 := HF.out.1.c 2 _ rfl
  refine bodyPost_ret (v := .agg #[.int .i64 (k : Nat), .int .i64 (atOf xs t : Nat), .int .i64 (atOf xs (t + 1) : Nat)]) (by simp [results, Try.results37, go_sem, e0, e1, e2]) rfl ⟨rfl, HF.out.2⟩
end Go.Proofs.Jn
end

