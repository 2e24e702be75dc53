/-
  Walks: the reference's product of two ranges.
-/
import Derived.Test.YthbfmjlcnfgnbaaGreatRd
import Derived.Test.YthbfmjlcnfgnbaaGreatRa
namespace Go.Proofs.En
open Go.RowKit

set_option maxHeartbeats 1000000 in
theorem mulr_no1 (a b c d : Int) (w : World) (h : smallB a b = false) : 
    Calls Tryz.prog 27 #[.agg #[.int .i64 a, .int .i64 b], .agg #[.int .i64 c, .int .i64 d]] w (AddP 0 0 false w) := by
  go_enter Tryz.func27, Tryz.ntmps27
  go_wp2_with fail
  refine (smallr_any _ _ _).mono ?_
  rintro e w1 ⟨rfl, hb⟩
  obtain ⟨hc, hf⟩ := bcell hb
  go_wp2
  refine bodyPost_ret (v := .tuple #[.agg #[.int .i64 0, .int .i64 0], .bool false]) (by simp [results, Tryz.results27, go_sem, hc]) rfl (addP_mk rfl rfl rfl ?_)
  exact ((below_call (below3 _ _ _ _) hb).setCell (by simp; omega) _).setCell (by simp; omega) _

set_option maxHeartbeats 1000000 in
theorem mulr_no2 (a b c d : Int) (w : World) (h : smallB a b = true) (h' : smallB c d = false) : 
    Calls Tryz.prog 27 #[.agg #[.int .i64 a, .int .i64 b], .agg #[.int .i64 c, .int .i64 d]] w (AddP 0 0 false w) := by
  go_enter Tryz.func27, Tryz.ntmps27
  go_wp2_with fail
  refine (smallr_any _ _ _).mono ?_
  rintro e w1 ⟨rfl, hb⟩
  obtain ⟨hc, hf⟩ := bcell hb
  have z0 : w.heap.size < w1.heap.size := by have := hb.size; simp at this; omega
  have z1 : w.heap.size + 1 < w1.heap.size := by have := hb.size; simp at this; omega
  have z2 : w.heap.size + 1 + 1 < w1.heap.size := by have := hb.size; simp at this; omega
  go_wp2_with fail
  refine (smallr_any _ _ _).mono ?_
  rintro e w2 ⟨rfl, hb2⟩
  obtain ⟨hc2, hf2⟩ := bcell hb2
  go_wp2
  refine bodyPost_ret (v := .tuple #[.agg #[.int .i64 0, .int .i64 0], .bool false]) (by simp [results, Tryz.results27, go_sem, hc, hc2, z2]) rfl (addP_mk rfl rfl rfl ?_)
  exact ((below_call (below_call (below3 _ _ _ _) hb) hb2).setCell (by simp; omega) _).setCell (by simp; omega) _


def rlo (l : List Int) : Int := match l with
  | [] => 0
  | p :: l => l.foldl (fun m p => if p / 65536 < m then p / 65536 else m) (p / 65536)
def rhi (l : List Int) : Int := match l with
  | [] => 0
  | p :: l => l.foldl (fun m p => if m < (p + 65535) / 65536 then (p + 65535) / 65536 else m) ((p + 65535) / 65536)
def okP (p : Int) : Bool := decide (absI (p / 65536) ≤ 4611686018427387904) && decide (absI ((p + 65535) / 65536) ≤ 4611686018427387904)
def prods (a b c d : Int) : List Int := [a * c, a * d, b * c, b * d]
def rOk (a b c d : Int) : Bool := (prods a b c d).all okP && smallB (rlo (prods a b c d)) (rhi (prods a b c d))
def MulRP (a b c d : Int) (w : World) (e : Ending) (w' : World) : Prop := AddP (if rOk a b c d then rlo (prods a b c d) else 0) (if rOk a b c d then rhi (prods a b c d) else 0) (rOk a b c d) w e w'

/-- The world at a loop's head. -/
structure RW (w : World) (n0 n1 n4 nO : Nat) (a b c d lo hi : Int) (W : World) : Prop where
  bel : Below w.heap.size w W
  cA : Cells2 W n0 (.int .i64 a) (.int .i64 b)
  cB : Cells2 W n1 (.int .i64 c) (.int .i64 d)
  c4 : Cells2 W n4 (.int .i64 0) (.int .i64 0)
  cO : Cells2 W nO (.int .i64 lo) (.int .i64 hi)

theorem abs_lt (a b : Int) (h1 : -1152921504606846976 ≤ a) (h2 : a ≤ 1152921504606846976) (h3 : -1152921504606846976 ≤ b) (h4 : b ≤ 1152921504606846976) : absI (a * b) < 1329227995784915872903807060280344577 := by
  have := mul_bd (A := 1152921504606846976) (B := 1152921504606846976) (a := a) (b := b) (by omega) (by omega) (by omega) (by omega)
  unfold absI; split <;> omega
theorem RW.keep {w W W' : World} {n0 n1 n4 nO : Nat} {a b c d lo hi : Int} (h : RW w n0 n1 n4 nO a b c d lo hi W) (hb : Below W.heap.size W W') : RW w n0 n1 n4 nO a b c d lo hi W' :=
  ⟨h.bel.trans (hb.mono h.bel.size), h.cA.keep hb, h.cB.keep hb, h.c4.keep hb, h.cO.keep hb⟩
theorem Cells2.put0 {W : World} {b : Nat} {x y : Value} (h : Cells2 W b x y) (x' : Value) : Cells2 (W.setCell ⟨b, 0, none⟩ x') b x' y := by
  have h0 := h.c0; have h1 := h.c1; have h2 := h.f0; have h3 := h.f1
  refine ⟨by simp [go_sem, h0], by simp [go_sem, h1], by simp [go_sem, h2], by simp [go_sem, h3], by have := h.lt; simp [World.setCell]; exact this⟩
theorem Cells2.put1 {W : World} {b : Nat} {x y : Value} (h : Cells2 W b x y) (y' : Value) : Cells2 (W.setCell ⟨b, 1, none⟩ y') b x y' := by
  have h0 := h.c0; have h1 := h.c1; have h2 := h.f0; have h3 := h.f1
  refine ⟨by simp [go_sem, h0], by simp [go_sem, h1], by simp [go_sem, h2], by simp [go_sem, h3], by have := h.lt; simp [World.setCell]; exact this⟩
theorem RW.setLo {w W : World} {n0 n1 n4 nO : Nat} {a b c d lo hi : Int} (h : RW w n0 n1 n4 nO a b c d lo hi W) (hw : w.heap.size ≤ nO) (h0 : n0 < nO) (h1 : n1 < nO) (h4 : n4 < nO) (v : Int) : RW w n0 n1 n4 nO a b c d v hi (W.setCell ⟨nO, 0, none⟩ (.int .i64 v)) :=
  ⟨h.bel.setCell (p := ⟨nO, 0, none⟩) hw _, h.cA.other (by omega) _ _, h.cB.other (by omega) _ _, h.c4.other (by omega) _ _, h.cO.put0 _⟩
theorem RW.setHi {w W : World} {n0 n1 n4 nO : Nat} {a b c d lo hi : Int} (h : RW w n0 n1 n4 nO a b c d lo hi W) (hw : w.heap.size ≤ nO) (h0 : n0 < nO) (h1 : n1 < nO) (h4 : n4 < nO) (v : Int) : RW w n0 n1 n4 nO a b c d lo v (W.setCell ⟨nO, 1, none⟩ (.int .i64 v)) :=
  ⟨h.bel.setCell (p := ⟨nO, 1, none⟩) hw _, h.cA.other (by omega) _ _, h.cB.other (by omega) _ _, h.c4.other (by omega) _ _, h.cO.put1 _⟩

theorem rok_no {a b c d p : Int} (hp : p ∈ prods a b c d) (h : okP p = false) : rOk a b c d = false := by
  unfold rOk
  have : (prods a b c d).all okP = false := by
    rw [List.all_eq_false]
    exact ⟨p, hp, by rw [h]; simp⟩
  rw [this]; rfl
theorem mulrp_no {a b c d : Int} {w w' : World} (h : rOk a b c d = false) (hb : Below w.heap.size w w') : MulRP a b c d w (.returned (.tuple #[.agg #[.int .i64 0, .int .i64 0], .bool false])) w' := by
  unfold MulRP; rw [h]; exact ⟨rfl, hb⟩

/-- All that one product comes to. -/
theorem pack (x y : Int) (h1 : -1152921504606846976 ≤ x) (h2 : x ≤ 1152921504606846976) (h3 : -1152921504606846976 ≤ y) (h4 : y ≤ 1152921504606846976) :
    ∃ (nb nb0 nb1 : Bool) (H L H0 L0 H1 L1 dv uv : Int) (o0 o1 : Bool), okP (x * y) = (o0 && o1) ∧ (o0 = true → dv = x * y / 65536) ∧ (o1 = true → uv = (x * y + 65535) / 65536) ∧
      (∀ w, Calls Tryz.prog 55 #[.int .i64 x, .int .i64 y] w fun e w' => e = .returned (.agg #[.bool nb, .int .u64 H, .int .u64 L]) ∧ Below w.heap.size w w') ∧
      (∀ w, Calls Tryz.prog 56 #[.agg #[.bool nb, .int .u64 H, .int .u64 L], .int .u64 65536, .bool false] w fun e w' => e = .returned (.agg #[.bool nb0, .int .u64 H0, .int .u64 L0]) ∧ Below w.heap.size w w') ∧
      (∀ w, Calls Tryz.prog 57 #[.agg #[.bool nb0, .int .u64 H0, .int .u64 L0]] w fun e w' => e = .returned (.tuple #[.int .i64 dv, .bool o0]) ∧ Below w.heap.size w w') ∧
      (∀ w, Calls Tryz.prog 56 #[.agg #[.bool nb, .int .u64 H, .int .u64 L], .int .u64 65536, .bool true] w fun e w' => e = .returned (.agg #[.bool nb1, .int .u64 H1, .int .u64 L1]) ∧ Below w.heap.size w w') ∧
      (∀ w, Calls Tryz.prog 57 #[.agg #[.bool nb1, .int .u64 H1, .int .u64 L1]] w fun e w' => e = .returned (.tuple #[.int .i64 uv, .bool o1]) ∧ Below w.heap.size w w') := by
  have hp := abs_lt x y h1 h2 h3 h4
  have a0 : absI (x * y / 65536) < 340282366920938463463374607431768211456 := by unfold absI at hp ⊢; split at hp <;> split <;> omega
  have a1 : absI ((x * y + 65535) / 65536) < 340282366920938463463374607431768211456 := by unfold absI at hp ⊢; split at hp <;> split <;> omega
  refine ⟨_, _, _, _, _, _, _, _, _, _, _, _, _, rfl, ?_, ?_, fun w => times_any x y w (by omega) (by omega) (by omega) (by omega), fun w => over_any (x * y) false w (by omega), fun w => int_any (overV (x * y) false) w a0, fun w => over_any (x * y) true w (by omega), fun w => int_any (overV (x * y) true) w a1⟩
  · intro h
    exact if_pos (of_decide_eq_true h)
  · intro h
    exact if_pos (of_decide_eq_true h)

set_option maxHeartbeats 4000000 in
theorem mulr_yes (a b c d : Int) (w : World) (h : smallB a b = true) (h' : smallB c d = true) : 
    Calls Tryz.prog 27 #[.agg #[.int .i64 a, .int .i64 b], .agg #[.int .i64 c, .int .i64 d]] w (MulRP a b c d w) := by
  have hs : -1152921504606846976 ≤ a ∧ a ≤ b ∧ b ≤ 1152921504606846976 := by simpa [smallB] using h
  have hs' : -1152921504606846976 ≤ c ∧ c ≤ d ∧ d ≤ 1152921504606846976 := by simpa [smallB] using h'
  obtain ⟨g1, g2, g3⟩ := hs
  obtain ⟨g4, g5, g6⟩ := hs'
  go_enter Tryz.func27, Tryz.ntmps27
  go_wp2_with fail
  refine (smallr_any _ _ _).mono ?_
  rintro e w1 ⟨rfl, hb⟩
  obtain ⟨hc, hf⟩ := bcell hb
  have z0 : w.heap.size < w1.heap.size := by have := hb.size; simp at this; omega
  have z1 : w.heap.size + 1 < w1.heap.size := by have := hb.size; simp at this; omega
  have z2 : w.heap.size + 1 + 1 < w1.heap.size := by have := hb.size; simp at this; omega
  go_wp2_with fail
  refine (smallr_any _ _ _).mono ?_
  rintro e w2 ⟨rfl, hb2⟩
  obtain ⟨hc2, hf2⟩ := bcell hb2
  have y0 : w.heap.size < w2.heap.size := by have := hb2.size; omega
  have y1 : w.heap.size + 1 < w2.heap.size := by have := hb2.size; omega
  have y2 : w.heap.size + 1 + 1 < w2.heap.size := by have := hb2.size; omega
  go_wp2_with fail
  clear hc hf hc2 hf2
  have b0 := ((Cells2.new w (.int .i64 a) (.int .i64 b) 23).al (.cells #[.int .i64 c, .int .i64 d] 23)).al (.cells #[.int .i64 0, .int .i64 0] 23)
  have b1 := (Cells2.new' (w.alloc (.cells #[.int .i64 a, .int .i64 b] 23)) (w.heap.size + 1) (.int .i64 c) (.int .i64 d) 23 (by simp)).al (.cells #[.int .i64 0, .int .i64 0] 23)
  have b2 := Cells2.new' ((w.alloc (.cells #[.int .i64 a, .int .i64 b] 23)).alloc (.cells #[.int .i64 c, .int .i64 d] 23)) (w.heap.size + 1 + 1) (.int .i64 0) (.int .i64 0) 23 (by simp)
  replace b0 := ((b0.keep hb).keep hb2).al (.cells #[.int .i64 0, .int .i64 0] 23)
  replace b1 := ((b1.keep hb).keep hb2).al (.cells #[.int .i64 0, .int .i64 0] 23)
  replace b2 := ((b2.keep hb).keep hb2).al (.cells #[.int .i64 0, .int .i64 0] 23)
  have hB2 : Below w.heap.size w w2 := below_call (below_call (below3 _ _ _ _) hb) hb2
  have hB : Below w.heap.size w (w2.alloc (.cells #[.int .i64 0, .int .i64 0] 23)) := hB2.alloc hB2.size _
  have bO := Cells2.new w2 (.int .i64 0) (.int .i64 0) 23
  have hW : RW w w.heap.size (w.heap.size + 1) (w.heap.size + 1 + 1) w2.heap.size a b c d 0 0 (w2.alloc (.cells #[.int .i64 0, .int .i64 0] 23)) := ⟨hB, b0, b1, b2, bO⟩
  have m2 : w.heap.size ≤ w.heap.size + 1 + 1 := by omega
  have mO : w.heap.size ≤ w2.heap.size := hB2.size
  have q0 : w.heap.size < w2.heap.size := y0
  have q1 : w.heap.size + 1 < w2.heap.size := y1
  have q2 : w.heap.size + 1 + 1 < w2.heap.size := y2
  clear b0 b1 b2 bO hB hB2 hb hb2 z0 z1 z2 y0 y1 y2
  generalize w2.alloc (.cells #[.int .i64 0, .int .i64 0] 23) = V at hW ⊢
  generalize w2.heap.size = nO at hW mO q0 q1 q2 ⊢
  generalize w.heap.size + 1 + 1 = n4 at hW m2 q2 ⊢
  generalize w.heap.size + 1 = n1 at hW q1 ⊢
  generalize hn0 : w.heap.size = n0 at hW m2 mO q0 ⊢
  have HN := Lib.hid hn0
  clear hn0
  have iA0 : ∀ w, (Instr.index 108 (.agg #[.int .i64 a, .int .i64 b]) (.int .i64 0)).run Tryz.prog w = .ok (.int .i64 a) w := fun _ => by kernel_rfl
  have iA1 : ∀ w, (Instr.index 108 (.agg #[.int .i64 a, .int .i64 b]) (.int .i64 1)).run Tryz.prog w = .ok (.int .i64 b) w := fun _ => by kernel_rfl
  have iB0 : ∀ w, (Instr.index 108 (.agg #[.int .i64 c, .int .i64 d]) (.int .i64 0)).run Tryz.prog w = .ok (.int .i64 c) w := fun _ => by kernel_rfl
  have iB1 : ∀ w, (Instr.index 108 (.agg #[.int .i64 c, .int .i64 d]) (.int .i64 1)).run Tryz.prog w = .ok (.int .i64 d) w := fun _ => by kernel_rfl
  have m4 : w.heap.size ≤ n4 := by rw [HN.out]; exact m2
  have mO : w.heap.size ≤ nO := by rw [HN.out]; exact mO
  go_loopw [31, 7] (fun i f W => ∃ k : Nat, k ≤ 2 ∧ i = .int .i64 k ∧ ((k = 0 → f = .bool true) ∧ (0 < k → f = .bool false)) ∧ ((prods a b c d).take (2 * k)).all okP = true ∧ RW w n0 n1 n4 nO a b c d (rlo ((prods a b c d).take (2 * k))) (rhi ((prods a b c d).take (2 * k))) W) (fun i _ _ => 2 - (intOf i).toNat)
  case atStart => exact ⟨0, by omega, rfl, ⟨fun _ => rfl, fun h => absurd h (by omega)⟩, rfl, hW⟩
  case round =>
    obtain ⟨k, hk, rfl, hf, aok, hR⟩ := hrel
    have AOK := Lib.hid aok
    clear aok hW
    rcases (show k = 0 ∨ k = 1 ∨ k = 2 by omega) with rfl | rfl | rfl
    · obtain rfl := hf.1 rfl
      have x0 := hR.cB.c0; have x1 := hR.cB.c1
      go_wp2_with fail
      clear x0 x1
      obtain ⟨wo, hwo⟩ : ∃ wo : World, wo = wr := ⟨_, rfl⟩
      rw [← hwo] at hR ⊢
      clear hwo
      go_loopw [39, 7] (fun j f W => ∃ l : Nat, l ≤ 2 ∧ j = .int .i64 l ∧ ((l = 0 → f = .bool true) ∧ (0 < l → f = .bool false)) ∧ ((prods a b c d).take (0 + l)).all okP = true ∧ RW w n0 n1 n4 nO a b c d (rlo ((prods a b c d).take (0 + l))) (rhi ((prods a b c d).take (0 + l))) W) (fun j _ _ => 2 - (intOf j).toNat)
      case atStart => exact ⟨0, by omega, rfl, ⟨fun _ => rfl, fun h => absurd h (by omega)⟩, AOK.out, hR⟩
      case round =>
        clear hR AOK
        obtain ⟨l, hl, rfl, hf, aok, hR⟩ := hrel
        have AOK := Lib.hid aok
        clear aok
        rcases (show l = 0 ∨ l = 1 ∨ l = 2 by omega) with rfl | rfl | rfl
        · obtain rfl := hf.1 rfl
          obtain ⟨nb, nb0, nb1, H, L, H0, L0, H1, L1, dv, uv, o0, o1, eo, ed, eu, t1, t2, t3, t4, t5⟩ := pack a c (by omega) (by omega) (by omega) (by omega)
          have T1 := Lib.hid t1
          have T2 := Lib.hid t2
          have T3 := Lib.hid t3
          have T4 := Lib.hid t4
          have T5 := Lib.hid t5
          have EO := Lib.hid eo
          have ED := Lib.hid ed
          have EU := Lib.hid eu
          clear t1 t2 t3 t4 t5 eo ed eu
          cases o0 with
          | false =>
            have HO : Hid (rOk a b c d = false) := Lib.hid (rok_no (p := a * c) (by simp [prods]) (by rw [EO.out]; rfl))
            go_wp2_with fail
            refine (T1.out _).mono ?_
            rintro e v1 ⟨rfl, hb1⟩
            have hR1 := (hR.keep hb1).keep ((Below.refl _ _).alloc (Nat.le_refl _) (.cells #[.bool nb, .int .u64 H, .int .u64 L] 110))
            have rp := Row.new v1 [.bool nb, .int .u64 H, .int .u64 L] 110
            go_wp2_with fail
            refine (T2.out _).mono ?_
            rintro e v2 ⟨rfl, hb2⟩
            go_wp2_with fail
            refine (T3.out _).mono ?_
            rintro e v3 ⟨rfl, hb3⟩
            have hR3 := (hR1.keep hb2).keep hb3
            have rp3 := (rp.keep hb2).keep hb3
            clear hR1 rp hb1 hb2 hb3
            have s0 := rp3.c 0 _ rfl
            have s1 := rp3.c 1 _ rfl
            have s2 := rp3.c 2 _ rfl
            go_wp2_with fail
            refine (T4.out _).mono ?_
            rintro e v4 ⟨rfl, hb4⟩
            go_wp2_with fail
            refine (T5.out _).mono ?_
            rintro e v5 ⟨rfl, hb5⟩
            have hR5 := (hR3.keep hb4).keep hb5
            clear hR3 rp3 hb4 hb5 s0 s1 s2
            have r0 := hR5.c4.c0; have r1 := hR5.c4.c1; have rf0 := hR5.c4.f0; have rf1 := hR5.c4.f1
            go_wp2
            refine bodyPost_ret (v := .tuple #[.agg #[.int .i64 0, .int .i64 0], .bool false]) (by simp [results, Tryz.results27, go_sem, r0, r1]) rfl (mulrp_no HO.out ?_)
            have bel := hR5.bel
            exact (bel.setCell (p := ⟨n4, 0, none⟩) m4 _).setCell (p := ⟨n4, 1, none⟩) m4 _
          | true =>
            cases o1 with
            | false =>
              have HO : Hid (rOk a b c d = false) := Lib.hid (rok_no (p := a * c) (by simp [prods]) (by rw [EO.out]; rfl))
              go_wp2_with fail
              refine (T1.out _).mono ?_
              rintro e v1 ⟨rfl, hb1⟩
              have hR1 := (hR.keep hb1).keep ((Below.refl _ _).alloc (Nat.le_refl _) (.cells #[.bool nb, .int .u64 H, .int .u64 L] 110))
              have rp := Row.new v1 [.bool nb, .int .u64 H, .int .u64 L] 110
              go_wp2_with fail
              refine (T2.out _).mono ?_
              rintro e v2 ⟨rfl, hb2⟩
              go_wp2_with fail
              refine (T3.out _).mono ?_
              rintro e v3 ⟨rfl, hb3⟩
              have hR3 := (hR1.keep hb2).keep hb3
              have rp3 := (rp.keep hb2).keep hb3
              clear hR1 rp hb1 hb2 hb3
              have s0 := rp3.c 0 _ rfl
              have s1 := rp3.c 1 _ rfl
              have s2 := rp3.c 2 _ rfl
              go_wp2_with fail
              refine (T4.out _).mono ?_
              rintro e v4 ⟨rfl, hb4⟩
              go_wp2_with fail
              refine (T5.out _).mono ?_
              rintro e v5 ⟨rfl, hb5⟩
              have hR5 := (hR3.keep hb4).keep hb5
              clear hR3 rp3 hb4 hb5 s0 s1 s2
              have r0 := hR5.c4.c0; have r1 := hR5.c4.c1; have rf0 := hR5.c4.f0; have rf1 := hR5.c4.f1
              go_wp2
              refine bodyPost_ret (v := .tuple #[.agg #[.int .i64 0, .int .i64 0], .bool false]) (by simp [results, Tryz.results27, go_sem, r0, r1]) rfl (mulrp_no HO.out ?_)
              have bel := hR5.bel
              exact (bel.setCell (p := ⟨n4, 0, none⟩) m4 _).setCell (p := ⟨n4, 1, none⟩) m4 _
            | true =>
              obtain rfl := ED.out rfl
              obtain rfl := EU.out rfl
              have HOK : Hid (okP (a * c) = true) := Lib.hid EO.out
              go_wp2_with fail
              refine (T1.out _).mono ?_
              rintro e v1 ⟨rfl, hb1⟩
              have hR1 := (hR.keep hb1).keep ((Below.refl _ _).alloc (Nat.le_refl _) (.cells #[.bool nb, .int .u64 H, .int .u64 L] 110))
              have rp := Row.new v1 [.bool nb, .int .u64 H, .int .u64 L] 110
              go_wp2_with fail
              refine (T2.out _).mono ?_
              rintro e v2 ⟨rfl, hb2⟩
              go_wp2_with fail
              refine (T3.out _).mono ?_
              rintro e v3 ⟨rfl, hb3⟩
              have hR3 := (hR1.keep hb2).keep hb3
              have rp3 := (rp.keep hb2).keep hb3
              clear hR1 rp hb1 hb2 hb3
              have s0 := rp3.c 0 _ rfl
              have s1 := rp3.c 1 _ rfl
              have s2 := rp3.c 2 _ rfl
              go_wp2_with fail
              refine (T4.out _).mono ?_
              rintro e v4 ⟨rfl, hb4⟩
              go_wp2_with fail
              refine (T5.out _).mono ?_
              rintro e v5 ⟨rfl, hb5⟩
              have hR5 := (hR3.keep hb4).keep hb5
              clear hR3 rp3 hb4 hb5 s0 s1 s2
              have p0 := hR5.cO.c0; have p1 := hR5.cO.c1; have pf0 := hR5.cO.f0; have pf1 := hR5.cO.f1
              go_wp2
              go_roundw
              case rel =>
                refine ⟨1, by omega, by go_num, ⟨fun h => absurd h (by omega), fun _ => rfl⟩, ?_, ?_⟩
                · have e1 := AOK.out; have e2 := HOK.out; simp only [List.all_cons, List.all_nil, prods, List.take] at e1 ⊢; simp_all
                · rw [show rlo (List.take 1 (prods a b c d)) = a * c / 65536 from rfl, show rhi (List.take 1 (prods a b c d)) = (a * c + 65535) / 65536 from rfl]; exact (hR5.setLo mO q0 q1 q2 _).setHi mO q0 q1 q2 _
              case measure => simp [intOf]
        · obtain rfl := hf.2 (by omega)
          obtain ⟨nb, nb0, nb1, H, L, H0, L0, H1, L1, dv, uv, o0, o1, eo, ed, eu, t1, t2, t3, t4, t5⟩ := pack a d (by omega) (by omega) (by omega) (by omega)
          have T1 := Lib.hid t1
          have T2 := Lib.hid t2
          have T3 := Lib.hid t3
          have T4 := Lib.hid t4
          have T5 := Lib.hid t5
          have EO := Lib.hid eo
          have ED := Lib.hid ed
          have EU := Lib.hid eu
          clear t1 t2 t3 t4 t5 eo ed eu
          cases o0 with
          | false =>
            have HO : Hid (rOk a b c d = false) := Lib.hid (rok_no (p := a * d) (by simp [prods]) (by rw [EO.out]; rfl))
            go_wp2_with fail
            refine (T1.out _).mono ?_
            rintro e v1 ⟨rfl, hb1⟩
            have hR1 := (hR.keep hb1).keep ((Below.refl _ _).alloc (Nat.le_refl _) (.cells #[.bool nb, .int .u64 H, .int .u64 L] 110))
            have rp := Row.new v1 [.bool nb, .int .u64 H, .int .u64 L] 110
            go_wp2_with fail
            refine (T2.out _).mono ?_
            rintro e v2 ⟨rfl, hb2⟩
            go_wp2_with fail
            refine (T3.out _).mono ?_
            rintro e v3 ⟨rfl, hb3⟩
            have hR3 := (hR1.keep hb2).keep hb3
            have rp3 := (rp.keep hb2).keep hb3
            clear hR1 rp hb1 hb2 hb3
            have s0 := rp3.c 0 _ rfl
            have s1 := rp3.c 1 _ rfl
            have s2 := rp3.c 2 _ rfl
            go_wp2_with fail
            refine (T4.out _).mono ?_
            rintro e v4 ⟨rfl, hb4⟩
            go_wp2_with fail
            refine (T5.out _).mono ?_
            rintro e v5 ⟨rfl, hb5⟩
            have hR5 := (hR3.keep hb4).keep hb5
            clear hR3 rp3 hb4 hb5 s0 s1 s2
            have r0 := hR5.c4.c0; have r1 := hR5.c4.c1; have rf0 := hR5.c4.f0; have rf1 := hR5.c4.f1
            go_wp2
            refine bodyPost_ret (v := .tuple #[.agg #[.int .i64 0, .int .i64 0], .bool false]) (by simp [results, Tryz.results27, go_sem, r0, r1]) rfl (mulrp_no HO.out ?_)
            have bel := hR5.bel
            exact (bel.setCell (p := ⟨n4, 0, none⟩) m4 _).setCell (p := ⟨n4, 1, none⟩) m4 _
          | true =>
            cases o1 with
            | false =>
              have HO : Hid (rOk a b c d = false) := Lib.hid (rok_no (p := a * d) (by simp [prods]) (by rw [EO.out]; rfl))
              go_wp2_with fail
              refine (T1.out _).mono ?_
              rintro e v1 ⟨rfl, hb1⟩
              have hR1 := (hR.keep hb1).keep ((Below.refl _ _).alloc (Nat.le_refl _) (.cells #[.bool nb, .int .u64 H, .int .u64 L] 110))
              have rp := Row.new v1 [.bool nb, .int .u64 H, .int .u64 L] 110
              go_wp2_with fail
              refine (T2.out _).mono ?_
              rintro e v2 ⟨rfl, hb2⟩
              go_wp2_with fail
              refine (T3.out _).mono ?_
              rintro e v3 ⟨rfl, hb3⟩
              have hR3 := (hR1.keep hb2).keep hb3
              have rp3 := (rp.keep hb2).keep hb3
              clear hR1 rp hb1 hb2 hb3
              have s0 := rp3.c 0 _ rfl
              have s1 := rp3.c 1 _ rfl
              have s2 := rp3.c 2 _ rfl
              go_wp2_with fail
              refine (T4.out _).mono ?_
              rintro e v4 ⟨rfl, hb4⟩
              go_wp2_with fail
              refine (T5.out _).mono ?_
              rintro e v5 ⟨rfl, hb5⟩
              have hR5 := (hR3.keep hb4).keep hb5
              clear hR3 rp3 hb4 hb5 s0 s1 s2
              have r0 := hR5.c4.c0; have r1 := hR5.c4.c1; have rf0 := hR5.c4.f0; have rf1 := hR5.c4.f1
              go_wp2
              refine bodyPost_ret (v := .tuple #[.agg #[.int .i64 0, .int .i64 0], .bool false]) (by simp [results, Tryz.results27, go_sem, r0, r1]) rfl (mulrp_no HO.out ?_)
              have bel := hR5.bel
              exact (bel.setCell (p := ⟨n4, 0, none⟩) m4 _).setCell (p := ⟨n4, 1, none⟩) m4 _
            | true =>
              obtain rfl := ED.out rfl
              obtain rfl := EU.out rfl
              have HOK : Hid (okP (a * d) = true) := Lib.hid EO.out
              generalize hlo : rlo (List.take 1 (prods a b c d)) = lo at hR
              generalize hhi : rhi (List.take 1 (prods a b c d)) = hi at hR
              have HLO : Hid (rlo (List.take 2 (prods a b c d)) = if a * d / 65536 < lo then a * d / 65536 else lo) := Lib.hid (by rw [← hlo]; rfl)
              have HHI : Hid (rhi (List.take 2 (prods a b c d)) = if hi < (a * d + 65535) / 65536 then (a * d + 65535) / 65536 else hi) := Lib.hid (by rw [← hhi]; rfl)
              clear hlo hhi
              go_wp2_with fail
              refine (T1.out _).mono ?_
              rintro e v1 ⟨rfl, hb1⟩
              have hR1 := (hR.keep hb1).keep ((Below.refl _ _).alloc (Nat.le_refl _) (.cells #[.bool nb, .int .u64 H, .int .u64 L] 110))
              have rp := Row.new v1 [.bool nb, .int .u64 H, .int .u64 L] 110
              go_wp2_with fail
              refine (T2.out _).mono ?_
              rintro e v2 ⟨rfl, hb2⟩
              go_wp2_with fail
              refine (T3.out _).mono ?_
              rintro e v3 ⟨rfl, hb3⟩
              have hR3 := (hR1.keep hb2).keep hb3
              have rp3 := (rp.keep hb2).keep hb3
              clear hR1 rp hb1 hb2 hb3
              have s0 := rp3.c 0 _ rfl
              have s1 := rp3.c 1 _ rfl
              have s2 := rp3.c 2 _ rfl
              go_wp2_with fail
              refine (T4.out _).mono ?_
              rintro e v4 ⟨rfl, hb4⟩
              go_wp2_with fail
              refine (T5.out _).mono ?_
              rintro e v5 ⟨rfl, hb5⟩
              have hR5 := (hR3.keep hb4).keep hb5
              clear hR3 rp3 hb4 hb5 s0 s1 s2
              have p0 := hR5.cO.c0; have p1 := hR5.cO.c1; have pf0 := hR5.cO.f0; have pf1 := hR5.cO.f1
              by_cases c1 : a * d / 65536 < lo
              · by_cases c2 : hi < (a * d + 65535) / 65536
                · skip
                  go_wp2
                  go_roundw
                  case rel =>
                    refine ⟨2, by omega, by go_num, ⟨fun h => absurd h (by omega), fun _ => rfl⟩, ?_, ?_⟩
                    · have e1 := AOK.out; have e2 := HOK.out; simp only [List.all_cons, List.all_nil, prods, List.take] at e1 ⊢; simp_all
                    · rw [HLO.out, HHI.out, if_pos c1, if_pos c2]; exact (hR5.setLo mO q0 q1 q2 _).setHi mO q0 q1 q2 _
                  case measure => simp [intOf]
                · skip
                  go_wp2
                  go_roundw
                  case rel =>
                    refine ⟨2, by omega, by go_num, ⟨fun h => absurd h (by omega), fun _ => rfl⟩, ?_, ?_⟩
                    · have e1 := AOK.out; have e2 := HOK.out; simp only [List.all_cons, List.all_nil, prods, List.take] at e1 ⊢; simp_all
                    · rw [HLO.out, HHI.out, if_pos c1, if_neg (by omega)]; exact hR5.setLo mO q0 q1 q2 _
                  case measure => simp [intOf]
              · by_cases c2 : hi < (a * d + 65535) / 65536
                · skip
                  go_wp2
                  go_roundw
                  case rel =>
                    refine ⟨2, by omega, by go_num, ⟨fun h => absurd h (by omega), fun _ => rfl⟩, ?_, ?_⟩
                    · have e1 := AOK.out; have e2 := HOK.out; simp only [List.all_cons, List.all_nil, prods, List.take] at e1 ⊢; simp_all
                    · rw [HLO.out, HHI.out, if_neg (by omega), if_pos c2]; exact (hR5).setHi mO q0 q1 q2 _
                  case measure => simp [intOf]
                · skip
                  go_wp2
                  go_roundw
                  case rel =>
                    refine ⟨2, by omega, by go_num, ⟨fun h => absurd h (by omega), fun _ => rfl⟩, ?_, ?_⟩
                    · have e1 := AOK.out; have e2 := HOK.out; simp only [List.all_cons, List.all_nil, prods, List.take] at e1 ⊢; simp_all
                    · rw [HLO.out, HHI.out, if_neg (by omega), if_neg (by omega)]; exact hR5
                  case measure => simp [intOf]
        · obtain rfl := hf.2 (by omega)
          go_wp2
          go_roundw
          case rel => exact ⟨1, by omega, by go_num, ⟨fun h => absurd h (by omega), fun _ => rfl⟩, AOK.out, hR⟩
          case measure => simp [intOf]
    · obtain rfl := hf.2 (by omega)
      have x0 := hR.cB.c0; have x1 := hR.cB.c1
      go_wp2_with fail
      clear x0 x1
      obtain ⟨wo, hwo⟩ : ∃ wo : World, wo = wr := ⟨_, rfl⟩
      rw [← hwo] at hR ⊢
      clear hwo
      go_loopw [39, 7] (fun j f W => ∃ l : Nat, l ≤ 2 ∧ j = .int .i64 l ∧ ((l < 0 → f = .bool true) ∧ (0 ≤ l → f = .bool false)) ∧ ((prods a b c d).take (2 + l)).all okP = true ∧ RW w n0 n1 n4 nO a b c d (rlo ((prods a b c d).take (2 + l))) (rhi ((prods a b c d).take (2 + l))) W) (fun j _ _ => 2 - (intOf j).toNat)
      case atStart => exact ⟨0, by omega, rfl, ⟨fun h => absurd h (by omega), fun _ => rfl⟩, AOK.out, hR⟩
      case round =>
        clear hR AOK
        obtain ⟨l, hl, rfl, hf, aok, hR⟩ := hrel
        have AOK := Lib.hid aok
        clear aok
        rcases (show l = 0 ∨ l = 1 ∨ l = 2 by omega) with rfl | rfl | rfl
        · obtain rfl := hf.2 (by omega)
          obtain ⟨nb, nb0, nb1, H, L, H0, L0, H1, L1, dv, uv, o0, o1, eo, ed, eu, t1, t2, t3, t4, t5⟩ := pack b c (by omega) (by omega) (by omega) (by omega)
          have T1 := Lib.hid t1
          have T2 := Lib.hid t2
          have T3 := Lib.hid t3
          have T4 := Lib.hid t4
          have T5 := Lib.hid t5
          have EO := Lib.hid eo
          have ED := Lib.hid ed
          have EU := Lib.hid eu
          clear t1 t2 t3 t4 t5 eo ed eu
          cases o0 with
          | false =>
            have HO : Hid (rOk a b c d = false) := Lib.hid (rok_no (p := b * c) (by simp [prods]) (by rw [EO.out]; rfl))
            go_wp2_with fail
            refine (T1.out _).mono ?_
            rintro e v1 ⟨rfl, hb1⟩
            have hR1 := (hR.keep hb1).keep ((Below.refl _ _).alloc (Nat.le_refl _) (.cells #[.bool nb, .int .u64 H, .int .u64 L] 110))
            have rp := Row.new v1 [.bool nb, .int .u64 H, .int .u64 L] 110
            go_wp2_with fail
            refine (T2.out _).mono ?_
            rintro e v2 ⟨rfl, hb2⟩
            go_wp2_with fail
            refine (T3.out _).mono ?_
            rintro e v3 ⟨rfl, hb3⟩
            have hR3 := (hR1.keep hb2).keep hb3
            have rp3 := (rp.keep hb2).keep hb3
            clear hR1 rp hb1 hb2 hb3
            have s0 := rp3.c 0 _ rfl
            have s1 := rp3.c 1 _ rfl
            have s2 := rp3.c 2 _ rfl
            go_wp2_with fail
            refine (T4.out _).mono ?_
            rintro e v4 ⟨rfl, hb4⟩
            go_wp2_with fail
            refine (T5.out _).mono ?_
            rintro e v5 ⟨rfl, hb5⟩
            have hR5 := (hR3.keep hb4).keep hb5
            clear hR3 rp3 hb4 hb5 s0 s1 s2
            have r0 := hR5.c4.c0; have r1 := hR5.c4.c1; have rf0 := hR5.c4.f0; have rf1 := hR5.c4.f1
            go_wp2
            refine bodyPost_ret (v := .tuple #[.agg #[.int .i64 0, .int .i64 0], .bool false]) (by simp [results, Tryz.results27, go_sem, r0, r1]) rfl (mulrp_no HO.out ?_)
            have bel := hR5.bel
            exact (bel.setCell (p := ⟨n4, 0, none⟩) m4 _).setCell (p := ⟨n4, 1, none⟩) m4 _
          | true =>
            cases o1 with
            | false =>
              have HO : Hid (rOk a b c d = false) := Lib.hid (rok_no (p := b * c) (by simp [prods]) (by rw [EO.out]; rfl))
              go_wp2_with fail
              refine (T1.out _).mono ?_
              rintro e v1 ⟨rfl, hb1⟩
              have hR1 := (hR.keep hb1).keep ((Below.refl _ _).alloc (Nat.le_refl _) (.cells #[.bool nb, .int .u64 H, .int .u64 L] 110))
              have rp := Row.new v1 [.bool nb, .int .u64 H, .int .u64 L] 110
              go_wp2_with fail
              refine (T2.out _).mono ?_
              rintro e v2 ⟨rfl, hb2⟩
              go_wp2_with fail
              refine (T3.out _).mono ?_
              rintro e v3 ⟨rfl, hb3⟩
              have hR3 := (hR1.keep hb2).keep hb3
              have rp3 := (rp.keep hb2).keep hb3
              clear hR1 rp hb1 hb2 hb3
              have s0 := rp3.c 0 _ rfl
              have s1 := rp3.c 1 _ rfl
              have s2 := rp3.c 2 _ rfl
              go_wp2_with fail
              refine (T4.out _).mono ?_
              rintro e v4 ⟨rfl, hb4⟩
              go_wp2_with fail
              refine (T5.out _).mono ?_
              rintro e v5 ⟨rfl, hb5⟩
              have hR5 := (hR3.keep hb4).keep hb5
              clear hR3 rp3 hb4 hb5 s0 s1 s2
              have r0 := hR5.c4.c0; have r1 := hR5.c4.c1; have rf0 := hR5.c4.f0; have rf1 := hR5.c4.f1
              go_wp2
              refine bodyPost_ret (v := .tuple #[.agg #[.int .i64 0, .int .i64 0], .bool false]) (by simp [results, Tryz.results27, go_sem, r0, r1]) rfl (mulrp_no HO.out ?_)
              have bel := hR5.bel
              exact (bel.setCell (p := ⟨n4, 0, none⟩) m4 _).setCell (p := ⟨n4, 1, none⟩) m4 _
            | true =>
              obtain rfl := ED.out rfl
              obtain rfl := EU.out rfl
              have HOK : Hid (okP (b * c) = true) := Lib.hid EO.out
              generalize hlo : rlo (List.take 2 (prods a b c d)) = lo at hR
              generalize hhi : rhi (List.take 2 (prods a b c d)) = hi at hR
              have HLO : Hid (rlo (List.take 3 (prods a b c d)) = if b * c / 65536 < lo then b * c / 65536 else lo) := Lib.hid (by rw [← hlo]; rfl)
              have HHI : Hid (rhi (List.take 3 (prods a b c d)) = if hi < (b * c + 65535) / 65536 then (b * c + 65535) / 65536 else hi) := Lib.hid (by rw [← hhi]; rfl)
              clear hlo hhi
              go_wp2_with fail
              refine (T1.out _).mono ?_
              rintro e v1 ⟨rfl, hb1⟩
              have hR1 := (hR.keep hb1).keep ((Below.refl _ _).alloc (Nat.le_refl _) (.cells #[.bool nb, .int .u64 H, .int .u64 L] 110))
              have rp := Row.new v1 [.bool nb, .int .u64 H, .int .u64 L] 110
              go_wp2_with fail
              refine (T2.out _).mono ?_
              rintro e v2 ⟨rfl, hb2⟩
              go_wp2_with fail
              refine (T3.out _).mono ?_
              rintro e v3 ⟨rfl, hb3⟩
              have hR3 := (hR1.keep hb2).keep hb3
              have rp3 := (rp.keep hb2).keep hb3
              clear hR1 rp hb1 hb2 hb3
              have s0 := rp3.c 0 _ rfl
              have s1 := rp3.c 1 _ rfl
              have s2 := rp3.c 2 _ rfl
              go_wp2_with fail
              refine (T4.out _).mono ?_
              rintro e v4 ⟨rfl, hb4⟩
              go_wp2_with fail
              refine (T5.out _).mono ?_
              rintro e v5 ⟨rfl, hb5⟩
              have hR5 := (hR3.keep hb4).keep hb5
              clear hR3 rp3 hb4 hb5 s0 s1 s2
              have p0 := hR5.cO.c0; have p1 := hR5.cO.c1; have pf0 := hR5.cO.f0; have pf1 := hR5.cO.f1
              by_cases c1 : b * c / 65536 < lo
              · by_cases c2 : hi < (b * c + 65535) / 65536
                · skip
                  go_wp2
                  go_roundw
                  case rel =>
                    refine ⟨1, by omega, by go_num, ⟨fun h => absurd h (by omega), fun _ => rfl⟩, ?_, ?_⟩
                    · have e1 := AOK.out; have e2 := HOK.out; simp only [List.all_cons, List.all_nil, prods, List.take] at e1 ⊢; simp_all
                    · rw [HLO.out, HHI.out, if_pos c1, if_pos c2]; exact (hR5.setLo mO q0 q1 q2 _).setHi mO q0 q1 q2 _
                  case measure => simp [intOf]
                · skip
                  go_wp2
                  go_roundw
                  case rel =>
                    refine ⟨1, by omega, by go_num, ⟨fun h => absurd h (by omega), fun _ => rfl⟩, ?_, ?_⟩
                    · have e1 := AOK.out; have e2 := HOK.out; simp only [List.all_cons, List.all_nil, prods, List.take] at e1 ⊢; simp_all
                    · rw [HLO.out, HHI.out, if_pos c1, if_neg (by omega)]; exact hR5.setLo mO q0 q1 q2 _
                  case measure => simp [intOf]
              · by_cases c2 : hi < (b * c + 65535) / 65536
                · skip
                  go_wp2
                  go_roundw
                  case rel =>
                    refine ⟨1, by omega, by go_num, ⟨fun h => absurd h (by omega), fun _ => rfl⟩, ?_, ?_⟩
                    · have e1 := AOK.out; have e2 := HOK.out; simp only [List.all_cons, List.all_nil, prods, List.take] at e1 ⊢; simp_all
                    · rw [HLO.out, HHI.out, if_neg (by omega), if_pos c2]; exact (hR5).setHi mO q0 q1 q2 _
                  case measure => simp [intOf]
                · skip
                  go_wp2
                  go_roundw
                  case rel =>
                    refine ⟨1, by omega, by go_num, ⟨fun h => absurd h (by omega), fun _ => rfl⟩, ?_, ?_⟩
                    · have e1 := AOK.out; have e2 := HOK.out; simp only [List.all_cons, List.all_nil, prods, List.take] at e1 ⊢; simp_all
                    · rw [HLO.out, HHI.out, if_neg (by omega), if_neg (by omega)]; exact hR5
                  case measure => simp [intOf]
        · obtain rfl := hf.2 (by omega)
          obtain ⟨nb, nb0, nb1, H, L, H0, L0, H1, L1, dv, uv, o0, o1, eo, ed, eu, t1, t2, t3, t4, t5⟩ := pack b d (by omega) (by omega) (by omega) (by omega)
          have T1 := Lib.hid t1
          have T2 := Lib.hid t2
          have T3 := Lib.hid t3
          have T4 := Lib.hid t4
          have T5 := Lib.hid t5
          have EO := Lib.hid eo
          have ED := Lib.hid ed
          have EU := Lib.hid eu
          clear t1 t2 t3 t4 t5 eo ed eu
          cases o0 with
          | false =>
            have HO : Hid (rOk a b c d = false) := Lib.hid (rok_no (p := b * d) (by simp [prods]) (by rw [EO.out]; rfl))
            go_wp2_with fail
            refine (T1.out _).mono ?_
            rintro e v1 ⟨rfl, hb1⟩
            have hR1 := (hR.keep hb1).keep ((Below.refl _ _).alloc (Nat.le_refl _) (.cells #[.bool nb, .int .u64 H, .int .u64 L] 110))
            have rp := Row.new v1 [.bool nb, .int .u64 H, .int .u64 L] 110
            go_wp2_with fail
            refine (T2.out _).mono ?_
            rintro e v2 ⟨rfl, hb2⟩
            go_wp2_with fail
            refine (T3.out _).mono ?_
            rintro e v3 ⟨rfl, hb3⟩
            have hR3 := (hR1.keep hb2).keep hb3
            have rp3 := (rp.keep hb2).keep hb3
            clear hR1 rp hb1 hb2 hb3
            have s0 := rp3.c 0 _ rfl
            have s1 := rp3.c 1 _ rfl
            have s2 := rp3.c 2 _ rfl
            go_wp2_with fail
            refine (T4.out _).mono ?_
            rintro e v4 ⟨rfl, hb4⟩
            go_wp2_with fail
            refine (T5.out _).mono ?_
            rintro e v5 ⟨rfl, hb5⟩
            have hR5 := (hR3.keep hb4).keep hb5
            clear hR3 rp3 hb4 hb5 s0 s1 s2
            have r0 := hR5.c4.c0; have r1 := hR5.c4.c1; have rf0 := hR5.c4.f0; have rf1 := hR5.c4.f1
            go_wp2
            refine bodyPost_ret (v := .tuple #[.agg #[.int .i64 0, .int .i64 0], .bool false]) (by simp [results, Tryz.results27, go_sem, r0, r1]) rfl (mulrp_no HO.out ?_)
            have bel := hR5.bel
            exact (bel.setCell (p := ⟨n4, 0, none⟩) m4 _).setCell (p := ⟨n4, 1, none⟩) m4 _
          | true =>
            cases o1 with
            | false =>
              have HO : Hid (rOk a b c d = false) := Lib.hid (rok_no (p := b * d) (by simp [prods]) (by rw [EO.out]; rfl))
              go_wp2_with fail
              refine (T1.out _).mono ?_
              rintro e v1 ⟨rfl, hb1⟩
              have hR1 := (hR.keep hb1).keep ((Below.refl _ _).alloc (Nat.le_refl _) (.cells #[.bool nb, .int .u64 H, .int .u64 L] 110))
              have rp := Row.new v1 [.bool nb, .int .u64 H, .int .u64 L] 110
              go_wp2_with fail
              refine (T2.out _).mono ?_
              rintro e v2 ⟨rfl, hb2⟩
              go_wp2_with fail
              refine (T3.out _).mono ?_
              rintro e v3 ⟨rfl, hb3⟩
              have hR3 := (hR1.keep hb2).keep hb3
              have rp3 := (rp.keep hb2).keep hb3
              clear hR1 rp hb1 hb2 hb3
              have s0 := rp3.c 0 _ rfl
              have s1 := rp3.c 1 _ rfl
              have s2 := rp3.c 2 _ rfl
              go_wp2_with fail
              refine (T4.out _).mono ?_
              rintro e v4 ⟨rfl, hb4⟩
              go_wp2_with fail
              refine (T5.out _).mono ?_
              rintro e v5 ⟨rfl, hb5⟩
              have hR5 := (hR3.keep hb4).keep hb5
              clear hR3 rp3 hb4 hb5 s0 s1 s2
              have r0 := hR5.c4.c0; have r1 := hR5.c4.c1; have rf0 := hR5.c4.f0; have rf1 := hR5.c4.f1
              go_wp2
              refine bodyPost_ret (v := .tuple #[.agg #[.int .i64 0, .int .i64 0], .bool false]) (by simp [results, Tryz.results27, go_sem, r0, r1]) rfl (mulrp_no HO.out ?_)
              have bel := hR5.bel
              exact (bel.setCell (p := ⟨n4, 0, none⟩) m4 _).setCell (p := ⟨n4, 1, none⟩) m4 _
            | true =>
              obtain rfl := ED.out rfl
              obtain rfl := EU.out rfl
              have HOK : Hid (okP (b * d) = true) := Lib.hid EO.out
              generalize hlo : rlo (List.take 3 (prods a b c d)) = lo at hR
              generalize hhi : rhi (List.take 3 (prods a b c d)) = hi at hR
              have HLO : Hid (rlo (List.take 4 (prods a b c d)) = if b * d / 65536 < lo then b * d / 65536 else lo) := Lib.hid (by rw [← hlo]; rfl)
              have HHI : Hid (rhi (List.take 4 (prods a b c d)) = if hi < (b * d + 65535) / 65536 then (b * d + 65535) / 65536 else hi) := Lib.hid (by rw [← hhi]; rfl)
              clear hlo hhi
              go_wp2_with fail
              refine (T1.out _).mono ?_
              rintro e v1 ⟨rfl, hb1⟩
              have hR1 := (hR.keep hb1).keep ((Below.refl _ _).alloc (Nat.le_refl _) (.cells #[.bool nb, .int .u64 H, .int .u64 L] 110))
              have rp := Row.new v1 [.bool nb, .int .u64 H, .int .u64 L] 110
              go_wp2_with fail
              refine (T2.out _).mono ?_
              rintro e v2 ⟨rfl, hb2⟩
              go_wp2_with fail
              refine (T3.out _).mono ?_
              rintro e v3 ⟨rfl, hb3⟩
              have hR3 := (hR1.keep hb2).keep hb3
              have rp3 := (rp.keep hb2).keep hb3
              clear hR1 rp hb1 hb2 hb3
              have s0 := rp3.c 0 _ rfl
              have s1 := rp3.c 1 _ rfl
              have s2 := rp3.c 2 _ rfl
              go_wp2_with fail
              refine (T4.out _).mono ?_
              rintro e v4 ⟨rfl, hb4⟩
              go_wp2_with fail
              refine (T5.out _).mono ?_
              rintro e v5 ⟨rfl, hb5⟩
              have hR5 := (hR3.keep hb4).keep hb5
              clear hR3 rp3 hb4 hb5 s0 s1 s2
              have p0 := hR5.cO.c0; have p1 := hR5.cO.c1; have pf0 := hR5.cO.f0; have pf1 := hR5.cO.f1
              by_cases c1 : b * d / 65536 < lo
              · by_cases c2 : hi < (b * d + 65535) / 65536
                · skip
                  go_wp2
                  go_roundw
                  case rel =>
                    refine ⟨2, by omega, by go_num, ⟨fun h => absurd h (by omega), fun _ => rfl⟩, ?_, ?_⟩
                    · have e1 := AOK.out; have e2 := HOK.out; simp only [List.all_cons, List.all_nil, prods, List.take] at e1 ⊢; simp_all
                    · rw [HLO.out, HHI.out, if_pos c1, if_pos c2]; exact (hR5.setLo mO q0 q1 q2 _).setHi mO q0 q1 q2 _
                  case measure => simp [intOf]
                · skip
                  go_wp2
                  go_roundw
                  case rel =>
                    refine ⟨2, by omega, by go_num, ⟨fun h => absurd h (by omega), fun _ => rfl⟩, ?_, ?_⟩
                    · have e1 := AOK.out; have e2 := HOK.out; simp only [List.all_cons, List.all_nil, prods, List.take] at e1 ⊢; simp_all
                    · rw [HLO.out, HHI.out, if_pos c1, if_neg (by omega)]; exact hR5.setLo mO q0 q1 q2 _
                  case measure => simp [intOf]
              · by_cases c2 : hi < (b * d + 65535) / 65536
                · skip
                  go_wp2
                  go_roundw
                  case rel =>
                    refine ⟨2, by omega, by go_num, ⟨fun h => absurd h (by omega), fun _ => rfl⟩, ?_, ?_⟩
                    · have e1 := AOK.out; have e2 := HOK.out; simp only [List.all_cons, List.all_nil, prods, List.take] at e1 ⊢; simp_all
                    · rw [HLO.out, HHI.out, if_neg (by omega), if_pos c2]; exact (hR5).setHi mO q0 q1 q2 _
                  case measure => simp [intOf]
                · skip
                  go_wp2
                  go_roundw
                  case rel =>
                    refine ⟨2, by omega, by go_num, ⟨fun h => absurd h (by omega), fun _ => rfl⟩, ?_, ?_⟩
                    · have e1 := AOK.out; have e2 := HOK.out; simp only [List.all_cons, List.all_nil, prods, List.take] at e1 ⊢; simp_all
                    · rw [HLO.out, HHI.out, if_neg (by omega), if_neg (by omega)]; exact hR5
                  case measure => simp [intOf]
        · obtain rfl := hf.2 (by omega)
          go_wp2
          go_roundw
          case rel => exact ⟨2, by omega, by go_num, ⟨fun h => absurd h (by omega), fun _ => rfl⟩, AOK.out, hR⟩
          case measure => simp [intOf]
    · obtain rfl := hf.2 (by omega)
      have hR : RW w n0 n1 n4 nO a b c d (rlo (prods a b c d)) (rhi (prods a b c d)) wr := hR
      have aok : (prods a b c d).all okP = true := AOK.out
      have HY : Hid (rOk a b c d = smallB (rlo (prods a b c d)) (rhi (prods a b c d))) := Lib.hid (by unfold rOk; rw [aok]; rfl)
      have HM : Hid (∀ e w', AddP (if rOk a b c d then rlo (prods a b c d) else 0) (if rOk a b c d then rhi (prods a b c d) else 0) (rOk a b c d) w e w' → MulRP a b c d w e w') := Lib.hid (fun e w' h => h)
      rw [HY.out] at HM
      clear aok AOK
      generalize rlo (prods a b c d) = lo at hR HM HY
      generalize rhi (prods a b c d) = hi at hR HM HY
      have p0 := hR.cO.c0; have p1 := hR.cO.c1
      cases hsm : smallB lo hi
      all_goals
        rw [hsm] at HM
        have HSM := Lib.hid hsm
        clear hsm
        go_wp2_with fail
        refine (smallr_any _ _ _).mono ?_
        rintro e v1 ⟨rfl, hb1⟩
        rw [HSM.out]
        have hR1 := hR.keep hb1
        have s0 := hR1.cO.c0; have s1 := hR1.cO.c1
        have r0 := hR1.c4.c0; have r1 := hR1.c4.c1; have rf0 := hR1.c4.f0; have rf1 := hR1.c4.f1
        have bel := hR1.bel
        go_wp2
        first
          | (refine bodyPost_ret (v := .tuple #[.agg #[.int .i64 lo, .int .i64 hi], .bool true]) (by simp [results, Tryz.results27, go_sem, r0, r1]) rfl (HM.out _ _ (addP_mk rfl rfl rfl ?_))
             exact (bel.setCell (p := ⟨n4, 0, none⟩) m4 _).setCell (p := ⟨n4, 1, none⟩) m4 _)
          | (refine bodyPost_ret (v := .tuple #[.agg #[.int .i64 0, .int .i64 0], .bool false]) (by simp [results, Tryz.results27, go_sem, r0, r1]) rfl (HM.out _ _ (addP_mk rfl rfl rfl ?_))
             exact (bel.setCell (p := ⟨n4, 0, none⟩) m4 _).setCell (p := ⟨n4, 1, none⟩) m4 _)
end Go.Proofs.En
