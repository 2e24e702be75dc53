/-
  Texts put together: Ef.
-/
import Derived.Test.YtlpcihfkkgifkaaGreatDoorZFormatTrajectoriesCard22
set_option linter.unusedVariables false
namespace Go.Proofs.Ng
open Go.RowKit

theorem catch50_idle (p q : Addr) (w : World) :
    CallsD Tryz.prog 50 #[.pointer (some p), .pointer (some q)] .returning w fun e u' w' => e = .returned (.tuple #[]) ∧ u' = .returning ∧ w' = w := by
  refine callsD_of_wpS Tryz.func50 rfl fun c₀ cs hu => ?_
  apply wpS_seq
  apply wpS_region
  simp [wpOpsS, go_sem, recoverD, hu, Tryz.ntmps50, Exit.thenS]
  refine wpS_cond (t := false) (by simp [Act.eval, Array.replicate]) ?_
  simp only [Bool.false_eq_true, if_false]
  refine wpS_of_wp (wp_skip ?_)
  cases c₀
  simp_all [bodyPostS, results, Tryz.results50]
/-- The zero trajectory, written over a box. -/
def zer7 (w : World) (n : Nat) : World := set7 w n (.slice none 0 0) (.slice none 0 0) (.int .i64 0) (.int .i64 0) (.int .i64 0) (.int .i64 0) (.slice none 0 0)
theorem Bx.other7 {W : World} {n b : Nat} {cs : List Value} {ty : TypeId} (h : Bx W n cs ty) (hne : n ≠ b) (a0 a1 a2 a3 a4 a5 a6 : Value) : Bx (set7 W b a0 a1 a2 a3 a4 a5 a6) n cs ty := ⟨(set7_blk W b a0 a1 a2 a3 a4 a5 a6 n hne).trans h.h⟩
set_option maxRecDepth 100000 in
set_option maxHeartbeats 2000000 in
theorem catch50_panic (b2 b3 : Nat) (x0 x1 x2 x3 x4 x5 x6 : Value) (n : Int) (older : List PanicEntry) (w : World) (h2 : Bx w b2 [x0, x1, x2, x3, x4, x5, x6] 41) (h3 : Bx w b3 [.int .i64 n] 30) (hne : b3 ≠ b2) :
    CallsD Tryz.prog 50 #[.pointer (some ⟨b2, 0, none⟩), .pointer (some ⟨b3, 0, none⟩)] (.panicking ({ v := .iface 117 (.agg #[]), recovered := false } :: older)) w fun e u' w' =>
      e = .returned (.tuple #[]) ∧ u' = .panicking ({ v := .iface 117 (.agg #[]), recovered := true } :: older) ∧ w' = (zer7 w b2).setCell ⟨b3, 0, none⟩ (.int .i64 4301) := by
  have l2 := h2.lt
  obtain ⟨y0, z0, y1, z1, y2, z2, y3, z3, y4, z4, y5, z5, y6, z6⟩ := facts7 h2 (.slice none 0 0) (.slice none 0 0) (.int .i64 0) (.int .i64 0) (.int .i64 0) (.int .i64 0)
  have h3B := h3.other7 hne (.slice none 0 0) (.slice none 0 0) (.int .i64 0) (.int .i64 0) (.int .i64 0) (.int .i64 0) (.slice none 0 0)
  have d0B := h3B.c 0 _ rfl
  have e0B := h3B.f 0
  unfold zer7
  unfold set7 at d0B e0B ⊢
  refine callsD_of_wpS Tryz.func50 rfl fun c₀ cs hu => ?_
  apply wpS_seq
  apply wpS_region
  simp [wpOpsS, go_sem, recoverD, hu, Tryz.ntmps50, Exit.thenS]
  refine wpS_cond (t := true) (by simp [Act.eval, Array.replicate]) ?_
  simp only [if_true]
  apply wpS_region
  simp [wpOpsS, go_sem, y0, z0, y1, z1, y2, z2, y3, z3, y4, z4, y5, z5, y6, z6, l2, d0B, e0B, bodyPostS, results, Tryz.results50]
def trajZ : Fm.TrajD := ⟨0, (0, 0, 0), ⟨[], []⟩, []⟩
/-- What the code's reader answers: the trajectory and the error. -/
def parseResT (s : List UInt8) : Fm.TrajD × Int := if 1048576 < s.length then (trajZ, 4301) else if kindN s = 3 then (match Fm.parseTr s with | some p => (p, 0) | none => (trajZ, 4301)) else (trajZ, 4302)
theorem rws_nil {A : Type} (D : Dat A) (n : Nat) (W : World) : Rws D n W none [] := ⟨[], rfl, fun h => absurd rfl h, fun k r x h => by simp at h⟩
theorem trajV_nil (W : World) : TrajV (.agg #[.slice none 0 0, .slice none 0 0, .int .i64 0, .int .i64 0, .int .i64 0, .int .i64 0, .slice none 0 0]) trajZ W := ⟨none, 0, none, 0, none, 0, rfl, rws_nil _ _ _, rws_nil _ _ _, rws_nil _ _ _⟩
theorem fin31 {X W : World} {n : Nat} {a0 a1 a2 a3 a4 a5 a6 : Value} {code : Int} {res : Fm.TrajD × Int} {p : Fm.TrajD} (h2 : Bx X n [a0, a1, a2, a3, a4, a5, a6] 41) (h3 : Bx X (n + 1) [.int .i64 code] 30) (hr : res = (p, code)) (hV : New W.heap.size X (TrajV (.agg #[a0, a1, a2, a3, a4, a5, a6]) p)) (hb : Below W.heap.size W X) :
    X.cell? ⟨n, 0, none⟩ = some a0 ∧ X.cell? ⟨n, 1, none⟩ = some a1 ∧ X.cell? ⟨n, 2, none⟩ = some a2 ∧ X.cell? ⟨n, 3, none⟩ = some a3 ∧ X.cell? ⟨n, 4, none⟩ = some a4 ∧ X.cell? ⟨n, 5, none⟩ = some a5 ∧ X.cell? ⟨n, 6, none⟩ = some a6 ∧ X.cell? ⟨n + 1, 0, none⟩ = some (.int .i64 code) ∧ ParP TrajV res W (.returned (.tuple #[.agg #[a0, a1, a2, a3, a4, a5, a6], .int .i64 code])) X := by
  subst hr
  exact ⟨h2.c 0 _ rfl, h2.c 1 _ rfl, h2.c 2 _ rfl, h2.c 3 _ rfl, h2.c 4 _ rfl, h2.c 5 _ rfl, h2.c 6 _ rfl, h3.c 0 _ rfl, _, rfl, hV, hb⟩
/-- The failing end: zeros and the error written. -/
theorem zero31 {W Y : World} {n : Nat} {x0 x1 x2 x3 x4 x5 x6 : Value} {c0 code : Int} {res : Fm.TrajD × Int} (h2 : Bx Y n [x0, x1, x2, x3, x4, x5, x6] 41) (h3 : Bx Y (n + 1) [.int .i64 c0] 30) (hr : res = (trajZ, code)) (hb : Below W.heap.size W Y) (hn : W.heap.size = n) :
    Bx ((zer7 Y n).setCell ⟨n + 1, 0, none⟩ (.int .i64 code)) n [.slice none 0 0, .slice none 0 0, .int .i64 0, .int .i64 0, .int .i64 0, .int .i64 0, .slice none 0 0] 41 ∧ Bx ((zer7 Y n).setCell ⟨n + 1, 0, none⟩ (.int .i64 code)) (n + 1) [.int .i64 code] 30 ∧ New W.heap.size ((zer7 Y n).setCell ⟨n + 1, 0, none⟩ (.int .i64 code)) (TrajV (.agg #[.slice none 0 0, .slice none 0 0, .int .i64 0, .int .i64 0, .int .i64 0, .int .i64 0, .slice none 0 0]) trajZ) ∧ Below W.heap.size W ((zer7 Y n).setCell ⟨n + 1, 0, none⟩ (.int .i64 code)) :=
  ⟨(st7 h2 _ _ _ _ _ _ _).other (by omega) 0 _, (h3.other7 (by omega) _ _ _ _ _ _ _).put _, fun X _ => trajV_nil X, (hb.trans (set7_below Y n W.heap.size (Nat.le_of_eq hn) _ _ _ _ _ _ _)).setCell (p := ⟨n + 1, 0, none⟩) (by show W.heap.size ≤ n + 1; omega) _⟩
theorem mid31 {Y : World} {n b : Nat} {x0 x1 x2 x3 x4 x5 x6 : Value} {c0 : Int} {ls : List (List UInt8)} {tl : List UInt8} (h2 : Bx Y n [x0, x1, x2, x3, x4, x5, x6] 41) (h3 : Bx Y (n + 1) [.int .i64 c0] 30) (hS : RdS Y b ls tl) (hb : n + 2 ≤ b) (a0 a1 a2 a3 a4 a5 a6 : Value) :
    Bx (set7 Y n a0 a1 a2 a3 a4 a5 a6) n [a0, a1, a2, a3, a4, a5, a6] 41 ∧ Bx (set7 Y n a0 a1 a2 a3 a4 a5 a6) (n + 1) [.int .i64 c0] 30 ∧ RdS (set7 Y n a0 a1 a2 a3 a4 a5 a6) b ls tl ∧ Below n Y (set7 Y n a0 a1 a2 a3 a4 a5 a6) := by
  obtain ⟨⟨s, hs1, hs2, hs3⟩, hs4⟩ := hS
  exact ⟨st7 h2 _ _ _ _ _ _ _, h3.other7 (by omega) _ _ _ _ _ _ _, ⟨⟨s, hs1.other7 (by omega) _ _ _ _ _ _ _, hs2, hs3⟩, hs4⟩, set7_below Y n n (Nat.le_refl _) _ _ _ _ _ _ _⟩
theorem done31 {W Y : World} {n : Nat} {a0 a1 a2 a3 a4 a5 a6 : Value} {c0 : Int} {res : Fm.TrajD × Int} {p : Fm.TrajD} (h2 : Bx Y n [a0, a1, a2, a3, a4, a5, a6] 41) (h3 : Bx Y (n + 1) [.int .i64 c0] 30) (hr : res = (p, 0)) (hV : ∀ X : World, (∀ k, k ≠ n → k ≠ n + 1 → W.heap.size ≤ k → k < Y.heap.size → X.heap[k]? = Y.heap[k]?) → TrajV (.agg #[a0, a1, a2, a3, a4, a5, a6]) p X) (hb : Below W.heap.size W Y) (hn : W.heap.size = n) :
    ((set7 Y n a0 a1 a2 a3 a4 a5 a6).setCell ⟨n + 1, 0, none⟩ (.int .i64 0)).cell? ⟨n, 0, none⟩ = some a0 ∧ ((set7 Y n a0 a1 a2 a3 a4 a5 a6).setCell ⟨n + 1, 0, none⟩ (.int .i64 0)).cell? ⟨n, 1, none⟩ = some a1 ∧ ((set7 Y n a0 a1 a2 a3 a4 a5 a6).setCell ⟨n + 1, 0, none⟩ (.int .i64 0)).cell? ⟨n, 2, none⟩ = some a2 ∧ ((set7 Y n a0 a1 a2 a3 a4 a5 a6).setCell ⟨n + 1, 0, none⟩ (.int .i64 0)).cell? ⟨n, 3, none⟩ = some a3 ∧ ((set7 Y n a0 a1 a2 a3 a4 a5 a6).setCell ⟨n + 1, 0, none⟩ (.int .i64 0)).cell? ⟨n, 4, none⟩ = some a4 ∧ ((set7 Y n a0 a1 a2 a3 a4 a5 a6).setCell ⟨n + 1, 0, none⟩ (.int .i64 0)).cell? ⟨n, 5, none⟩ = some a5 ∧ ((set7 Y n a0 a1 a2 a3 a4 a5 a6).setCell ⟨n + 1, 0, none⟩ (.int .i64 0)).cell? ⟨n, 6, none⟩ = some a6 ∧ ((set7 Y n a0 a1 a2 a3 a4 a5 a6).setCell ⟨n + 1, 0, none⟩ (.int .i64 0)).cell? ⟨n + 1, 0, none⟩ = some (.int .i64 0) ∧ ParP TrajV res W (.returned (.tuple #[.agg #[a0, a1, a2, a3, a4, a5, a6], .int .i64 0])) ((set7 Y n a0 a1 a2 a3 a4 a5 a6).setCell ⟨n + 1, 0, none⟩ (.int .i64 0)) := by
  refine fin31 ((st7 h2 _ _ _ _ _ _ _).other (by omega) 0 _) ((h3.other7 (by omega) _ _ _ _ _ _ _).put _) hr (fun X hX => hV X fun k k1 k2 k3 k4 => ?_) ((hb.trans (set7_below Y n W.heap.size (Nat.le_of_eq hn) _ _ _ _ _ _ _)).setCell (p := ⟨n + 1, 0, none⟩) (by show W.heap.size ≤ n + 1; omega) _)
  rw [hX k ⟨k3, by simp [World.setCell, set7]; exact k4⟩]
  exact (Below.heap_setCell _ ⟨n + 1, 0, none⟩ _ k k2).trans (set7_blk Y n _ _ _ _ _ _ _ k k1)
set_option maxRecDepth 100000 in
set_option maxHeartbeats 8000000 in
theorem parseTraj31 (s : ByteArray) (W : World) (hs : s.size ≤ 9223372036854775807) (hL : LibW W) : Calls Tryz.prog 31 #[.string s] W (ParP TrajV (parseResT s.data.toList) W) := by
  have hmf : ∀ (fn : Fn) (first cap : Array Value) (w : World), (Instr.makeFunc fn first cap).run Tryz.prog w = .ok (.func fn first cap) w := fun _ _ _ _ => rfl
  generalize hR : parseResT s.data.toList = res
  unfold parseResT at hR
  have hsz : s.data.toList.length = s.size := by rw [Array.length_toList]; rfl
  have hb1 : Below W.heap.size W ((W.alloc (.cells #[.slice none 0 0, .slice none 0 0, .int .i64 0, .int .i64 0, .int .i64 0, .int .i64 0, .slice none 0 0] 41)).alloc (.cells #[.int .i64 0] 30)) := ((Below.refl _ _).alloc (Nat.le_refl _) _).alloc (by simp) _
  have hz : ((W.alloc (.cells #[.slice none 0 0, .slice none 0 0, .int .i64 0, .int .i64 0, .int .i64 0, .int .i64 0, .slice none 0 0] 41)).alloc (.cells #[.int .i64 0] 30)).heap.size = W.heap.size + 2 := by simp
  have hsz1 : (W.alloc (.cells #[.slice none 0 0, .slice none 0 0, .int .i64 0, .int .i64 0, .int .i64 0, .int .i64 0, .slice none 0 0] 41)).heap.size = W.heap.size + 1 := by simp
  have HX2 := Lib.hid ((Bx.new W [.slice none 0 0, .slice none 0 0, .int .i64 0, .int .i64 0, .int .i64 0, .int .i64 0, .slice none 0 0] 41).keep ((Below.refl _ (W.alloc (.cells #[.slice none 0 0, .slice none 0 0, .int .i64 0, .int .i64 0, .int .i64 0, .int .i64 0, .slice none 0 0] 41))).alloc (Nat.le_refl _) (.cells #[.int .i64 0] 30)))
  have HX3 := Lib.hid (Bx.new (W.alloc (.cells #[.slice none 0 0, .slice none 0 0, .int .i64 0, .int .i64 0, .int .i64 0, .int .i64 0, .slice none 0 0] 41)) [.int .i64 0] 30)
  rw [hsz1] at HX3
  have HL := Lib.hid (hL.keep hb1)
  have HB := Lib.hid hb1
  have HZ := Lib.hid hz
  have HS8 : Hid (8 ≤ W.heap.size) := Lib.hid hL.gt
  clear hb1 hz hsz1 hL
  go_enter_defers Tryz.func31, Tryz.ntmps31
  go_wp2_with fail
  generalize ((W.alloc (.cells #[.slice none 0 0, .slice none 0 0, .int .i64 0, .int .i64 0, .int .i64 0, .int .i64 0, .slice none 0 0] 41)).alloc (.cells #[.int .i64 0] 30)) = W1 at HX2 HX3 HL HB HZ ⊢
  obtain ⟨n2, hn2⟩ : ∃ n, n = W.heap.size := ⟨_, rfl⟩
  have HN2 := Lib.hid hn2
  rw [← hn2] at HX2 HX3 HZ HS8 ⊢
  clear hn2
  refine (opening37 s 3 W1 hs).mono ?_
  rintro e W2 ⟨rfl, hw⟩
  subst hw
  unfold openN
  rw [hsz]
  have HZE : Hid (∀ (Y : World) (x0 x1 x2 x3 x4 x5 x6 : Value) (c0 code : Int), Bx Y n2 [x0, x1, x2, x3, x4, x5, x6] 41 → Bx Y (n2 + 1) [.int .i64 c0] 30 → res = (trajZ, code) → Below W.heap.size W Y → ∀ X, X = (zer7 Y n2).setCell ⟨n2 + 1, 0, none⟩ (.int .i64 code) →
      X.cell? ⟨n2, 0, none⟩ = some (.slice none 0 0) ∧ X.cell? ⟨n2, 1, none⟩ = some (.slice none 0 0) ∧ X.cell? ⟨n2, 2, none⟩ = some (.int .i64 0) ∧ X.cell? ⟨n2, 3, none⟩ = some (.int .i64 0) ∧ X.cell? ⟨n2, 4, none⟩ = some (.int .i64 0) ∧ X.cell? ⟨n2, 5, none⟩ = some (.int .i64 0) ∧ X.cell? ⟨n2, 6, none⟩ = some (.slice none 0 0) ∧ X.cell? ⟨n2 + 1, 0, none⟩ = some (.int .i64 code) ∧ ParP TrajV res W (.returned (.tuple #[.agg #[.slice none 0 0, .slice none 0 0, .int .i64 0, .int .i64 0, .int .i64 0, .int .i64 0, .slice none 0 0], .int .i64 code])) X) := Lib.hid (fun Y x0 x1 x2 x3 x4 x5 x6 c0 code h2 h3 hr hb X hX => by
    obtain ⟨k1, k2, k3, k4⟩ := zero31 h2 h3 hr hb HN2.out.symm
    subst hX
    exact fin31 k1 k2 hr k3 k4)
  by_cases h1 : 1048576 < s.size
  · rw [if_pos h1]
    rw [hsz, if_pos h1] at hR
    have HR := Lib.hid hR
    clear hR h1
    have l2 := HX2.out.lt
    obtain ⟨y0, z0, y1, z1, y2, z2, y3, z3, y4, z4, y5, z5, y6, z6⟩ := facts7 HX2.out (.slice none 0 0) (.slice none 0 0) (.int .i64 0) (.int .i64 0) (.int .i64 0) (.int .i64 0)
    have h3B := HX3.out.other7 (b := n2) (by omega) (.slice none 0 0) (.slice none 0 0) (.int .i64 0) (.int .i64 0) (.int .i64 0) (.int .i64 0) (.slice none 0 0)
    have d0B := h3B.c 0 _ rfl
    have e0B := h3B.f 0
    unfold set7 at d0B e0B
    clear h3B
    go_wp2
    have HF := Lib.hid (HZE.out W2 _ _ _ _ _ _ _ _ 4301 HX2.out HX3.out HR.out.symm HB.out _ rfl)
    unfold zer7 set7 at HF
    clear y0 z0 y1 z1 y2 z2 y3 z3 y4 z4 y5 z5 y6 z6 l2 d0B e0B
    generalize ((((((((W2.setCell ⟨n2, 0, none⟩ (.slice none 0 0)).setCell ⟨n2, 1, none⟩ (.slice none 0 0)).setCell ⟨n2, 2, none⟩ (.int .i64 0)).setCell ⟨n2, 3, none⟩ (.int .i64 0)).setCell ⟨n2, 4, none⟩ (.int .i64 0)).setCell ⟨n2, 5, none⟩ (.int .i64 0)).setCell ⟨n2, 6, none⟩ (.slice none 0 0)).setCell ⟨n2 + 1, 0, none⟩ (.int .i64 4301)) = X at HF ⊢
    obtain ⟨c0, c1, c2, c3, c4, c5, c6, d0, hP⟩ := HF.out
    simp [bodyPostD, Leaves, settle, results, Tryz.results31, go_sem, c0, c1, c2, c3, c4, c5, c6, d0]
    exact hP
  · rw [if_neg h1]
    rw [hsz, if_neg h1] at hR
    by_cases hk : kindN s.data.toList = 3
    · rw [if_pos hk]
      rw [if_pos hk, Fm.parseTr_R] at hR
      have HR := Lib.hid hR
      clear hR hk
      have hb5 : Below W2.heap.size W2 (W2.alloc (.cells #[.string s] 79)) := (Below.refl _ _).alloc (Nat.le_refl _) _
      have HS : Hid (RdS (W2.alloc (.cells #[.string s] 79)) W2.heap.size (Fm.linesT s.data.toList).1 (Fm.linesT s.data.toList).2) := Lib.hid ⟨⟨s, Bx.new W2 [.string s] 79, rfl, by omega⟩, by have := HZ.out; have := HS8.out; omega⟩
      have HX25 := Lib.hid (HX2.out.keep hb5)
      have HX35 := Lib.hid (HX3.out.keep hb5)
      have HL5 := Lib.hid (HL.out.keep hb5)
      have HB5 := Lib.hid (below_call HB.out hb5)
      clear hb5
      go_wp2_with fail
      have hbn : n2 + 2 ≤ W2.heap.size := by have := HZ.out; omega
      generalize W2.alloc (.cells #[.string s] 79) = W3 at HS HX25 HX35 HL5 HB5 ⊢
      generalize W2.heap.size = b at HS hbn ⊢
      have HC := Lib.hid (trajectory51 W3 b _ _ HS.out HL5.out)
      refine HC.out.mono ?_
      rintro e W4 h4
      cases hq : Fm.rdTrajR (Fm.linesT s.data.toList).1 with
      | none =>
        rw [hq] at h4
        have HRN : Hid (res = (trajZ, 4301)) := Lib.hid (by rw [← HR.out, hq])
        obtain ⟨rfl, hG⟩ := h4.no
        have hx2 := HX25.out.grown hG (by omega)
        have hx3 := HX35.out.grown hG (by omega)
        have HB6 : Hid (Below W.heap.size W W4) := Lib.hid (HB5.out.trans ⟨hG.os, hG.tape, hG.output, hG.size, fun k hk => hG.block k (Nat.lt_of_lt_of_le hk HB5.out.size) (fun e => by have := HN2.out; injection e with e; omega)⟩)
        clear h4 hG HC hq
        unfold malP
        go_wp2
        refine leaves_cons (f := 50) (args := #[.pointer (some ⟨n2, 0, none⟩), .pointer (some ⟨n2 + 1, 0, none⟩)]) (by simp) (by simp [go_sem]) ?_
        refine (catch50_panic n2 (n2 + 1) _ _ _ _ _ _ _ _ [] W4 hx2 hx3 (by omega)).mono ?_
        rintro e u' w'' ⟨rfl, rfl, hw9⟩
        obtain ⟨c0, c1, c2, c3, c4, c5, c6, d0, hP⟩ := HZE.out W4 _ _ _ _ _ _ _ _ 4301 hx2 hx3 HRN.out HB6.out _ hw9
        clear hx2 hx3 hw9
        simp [Leaves, settle, results, Tryz.results31, go_sem, c0, c1, c2, c3, c4, c5, c6, d0]
        exact hP
      | some pr =>
        obtain ⟨p, r⟩ := pr
        rw [hq] at h4
        obtain ⟨v, rfl, hN, hS, hG⟩ := h4.yes
        obtain ⟨op, np, oe, ne, f, nf, rfl, -, -, -⟩ := hN.now
        have hx2 := HX25.out.grown hG (by omega)
        have hx3 := HX35.out.grown hG (by omega)
        have HB4 : Hid (Below W.heap.size W W4) := Lib.hid (HB5.out.trans ⟨hG.os, hG.tape, hG.output, hG.size, fun k hk => hG.block k (Nat.lt_of_lt_of_le hk HB5.out.size) (fun e => by have := HN2.out; injection e with e; omega)⟩)
        have HNW := Lib.hid hN
        have HLW := Lib.hid (HL5.out.keepG hG (by have := HS8.out; omega))
        obtain ⟨s1, s2, s3, s4⟩ := mid31 hx2 hx3 hS (by omega) (.slice op p.path.pts.length np) (.slice oe p.path.edges.length ne) (.int .i64 p.grav.1) (.int .i64 p.grav.2.1) (.int .i64 p.grav.2.2) (.int .i64 p.grid) (.slice f p.profs.length nf)
        have HX26 := Lib.hid s1
        have HX36 := Lib.hid s2
        have HS4 := Lib.hid s3
        have HBEL := Lib.hid s4
        have HBL := Lib.hid (set7_blk W4 n2 (.slice op p.path.pts.length np) (.slice oe p.path.edges.length ne) (.int .i64 p.grav.1) (.int .i64 p.grav.2.1) (.int .i64 p.grav.2.2) (.int .i64 p.grid) (.slice f p.profs.length nf))
        have HSZ6 := Lib.hid (set7_size W4 n2 (.slice op p.path.pts.length np) (.slice oe p.path.edges.length ne) (.int .i64 p.grav.1) (.int .i64 p.grav.2.1) (.int .i64 p.grav.2.2) (.int .i64 p.grid) (.slice f p.profs.length nf))
        have HW3 := Lib.hid hG.size
        have HBT := Lib.hid HS.out.lt
        have HLE : Hid (n2 + 2 ≤ W3.heap.size) := Lib.hid HX35.out.lt
        have l2 := hx2.lt
        obtain ⟨y0, z0, y1, z1, y2, z2, y3, z3, y4, z4, y5, z5, y6, z6⟩ := facts7 hx2 (.slice op p.path.pts.length np) (.slice oe p.path.edges.length ne) (.int .i64 p.grav.1) (.int .i64 p.grav.2.1) (.int .i64 p.grav.2.2) (.int .i64 p.grid)
        clear h4 hN hS hG HC hx2 hx3 s1 s2 s3 s4
        unfold set7 at HX26 HX36 HS4 HBEL HBL HSZ6
        go_wp2_with fail
        clear y0 z0 y1 z1 y2 z2 y3 z3 y4 z4 y5 z5 y6 z6 l2
        generalize ((((((W4.setCell ⟨n2, 0, none⟩ (.slice op p.path.pts.length np)).setCell ⟨n2, 1, none⟩ (.slice oe p.path.edges.length ne)).setCell ⟨n2, 2, none⟩ (.int .i64 p.grav.1)).setCell ⟨n2, 3, none⟩ (.int .i64 p.grav.2.1)).setCell ⟨n2, 4, none⟩ (.int .i64 p.grav.2.2)).setCell ⟨n2, 5, none⟩ (.int .i64 p.grid)).setCell ⟨n2, 6, none⟩ (.slice f p.profs.length nf) = W6 at HX26 HX36 HS4 HBEL HBL HSZ6 ⊢
        have HL6 := Lib.hid (HLW.out.low (HBEL.out.mono HS8.out))
        have HB6 : Hid (Below W.heap.size W W6) := Lib.hid (HB4.out.trans (HBEL.out.mono (Nat.le_of_eq HN2.out.symm)))
        refine (finish40 W6 b r _ HS4.out HL6.out).mono ?_
        rintro e W7 ⟨he, hG7⟩
        have hx2 := HX26.out.grown hG7 (by omega)
        have hx3 := HX36.out.grown hG7 (by omega)
        have HB7 : Hid (Below W.heap.size W W7) := Lib.hid (HB6.out.trans ⟨hG7.os, hG7.tape, hG7.output, hG7.size, fun k hk => hG7.block k (Nat.lt_of_lt_of_le hk HB6.out.size) (fun e => by have := HN2.out; injection e with e; omega)⟩)
        cases hend : Fm.rdEnd r (Fm.linesT s.data.toList).2 with
        | false =>
          rw [hend] at he
          have HRN : Hid (res = (trajZ, 4301)) := Lib.hid (by rw [← HR.out, hq]; simp only; rw [hend]; rfl)
          simp only [Bool.false_eq_true, if_false] at he
          subst he
          clear hG7 hend hq
          unfold malP
          go_wp2
          refine leaves_cons (f := 50) (args := #[.pointer (some ⟨n2, 0, none⟩), .pointer (some ⟨n2 + 1, 0, none⟩)]) (by simp) (by simp [go_sem]) ?_
          refine (catch50_panic n2 (n2 + 1) _ _ _ _ _ _ _ _ [] W7 hx2 hx3 (by omega)).mono ?_
          rintro e u' w'' ⟨rfl, rfl, hw9⟩
          obtain ⟨c0, c1, c2, c3, c4, c5, c6, d0, hP⟩ := HZE.out W7 _ _ _ _ _ _ _ _ 4301 hx2 hx3 HRN.out HB7.out _ hw9
          clear hx2 hx3 hw9
          simp [Leaves, settle, results, Tryz.results31, go_sem, c0, c1, c2, c3, c4, c5, c6, d0]
          exact hP
        | true =>
          rw [hend] at he
          simp only [if_true] at he
          subst he
          have HRN : Hid (res = (p, 0)) := Lib.hid (by rw [← HR.out, hq]; simp only; rw [hend]; rfl)
          have HN7 : Hid (∀ X : World, (∀ k, k ≠ n2 → k ≠ n2 + 1 → W.heap.size ≤ k → k < W7.heap.size → X.heap[k]? = W7.heap[k]?) → TrajV (.agg #[.slice op p.path.pts.length np, .slice oe p.path.edges.length ne, .int .i64 p.grav.1, .int .i64 p.grav.2.1, .int .i64 p.grav.2.2, .int .i64 p.grid, .slice f p.profs.length nf]) p X) := Lib.hid (fun X hX => HNW.out X fun k hk => by
            have h1 := hk.1; have h2 := hk.2
            have h3 := HLE.out
            have h4 : k < W6.heap.size := by rw [HSZ6.out]; exact h2
            rw [hX k (by omega) (by omega) (by have := HB5.out.size; omega) (Nat.lt_of_lt_of_le h4 hG7.size), hG7.block k h4 (fun e => by have h5 := HBT.out; injection e with e; omega), HBL.out k (by omega)])
          clear hG7 hend hq
          have l2 := hx2.lt
          have r0 := hx2.c 0 _ rfl
          have r1 := hx2.c 1 _ rfl
          have r2 := hx2.c 2 _ rfl
          have r3 := hx2.c 3 _ rfl
          have r4 := hx2.c 4 _ rfl
          have r5 := hx2.c 5 _ rfl
          have r6 := hx2.c 6 _ rfl
          obtain ⟨y0, z0, y1, z1, y2, z2, y3, z3, y4, z4, y5, z5, y6, z6⟩ := facts7 hx2 (.slice op p.path.pts.length np) (.slice oe p.path.edges.length ne) (.int .i64 p.grav.1) (.int .i64 p.grav.2.1) (.int .i64 p.grav.2.2) (.int .i64 p.grid)
          have hB := hx3.other7 (b := n2) (by omega) (.slice op p.path.pts.length np) (.slice oe p.path.edges.length ne) (.int .i64 p.grav.1) (.int .i64 p.grav.2.1) (.int .i64 p.grav.2.2) (.int .i64 p.grid) (.slice f p.profs.length nf)
          have d0 := hB.c 0 _ rfl
          have g0 := hB.f 0
          have HF := Lib.hid (done31 hx2 hx3 HRN.out HN7.out HB7.out HN2.out.symm)
          unfold set7 at d0 g0 HF
          clear hB hx2 hx3
          go_wp2
          clear y0 z0 y1 z1 y2 z2 y3 z3 y4 z4 y5 z5 y6 z6 l2 d0 g0 r0 r1 r2 r3 r4 r5 r6
          generalize ((((((((W7.setCell ⟨n2, 0, none⟩ (.slice op p.path.pts.length np)).setCell ⟨n2, 1, none⟩ (.slice oe p.path.edges.length ne)).setCell ⟨n2, 2, none⟩ (.int .i64 p.grav.1)).setCell ⟨n2, 3, none⟩ (.int .i64 p.grav.2.1)).setCell ⟨n2, 4, none⟩ (.int .i64 p.grav.2.2)).setCell ⟨n2, 5, none⟩ (.int .i64 p.grid)).setCell ⟨n2, 6, none⟩ (.slice f p.profs.length nf)).setCell ⟨n2 + 1, 0, none⟩ (.int .i64 0)) = X at HF ⊢
          refine leaves_cons (f := 50) (args := #[.pointer (some ⟨n2, 0, none⟩), .pointer (some ⟨n2 + 1, 0, none⟩)]) (by simp) (by simp [go_sem]) ?_
          refine (catch50_idle ⟨n2, 0, none⟩ ⟨n2 + 1, 0, none⟩ X).mono ?_
          rintro e u' w'' ⟨rfl, rfl, rfl⟩
          obtain ⟨c0, c1, c2, c3, c4, c5, c6, d0, hP⟩ := HF.out
          simp [Leaves, settle, results, Tryz.results31, go_sem, c0, c1, c2, c3, c4, c5, c6, d0]
          exact hP
    · rw [if_neg hk]
      rw [if_neg hk] at hR
      have HR := Lib.hid hR
      clear hR hk
      have l2 := HX2.out.lt
      obtain ⟨y0, z0, y1, z1, y2, z2, y3, z3, y4, z4, y5, z5, y6, z6⟩ := facts7 HX2.out (.slice none 0 0) (.slice none 0 0) (.int .i64 0) (.int .i64 0) (.int .i64 0) (.int .i64 0)
      have h3B := HX3.out.other7 (b := n2) (by omega) (.slice none 0 0) (.slice none 0 0) (.int .i64 0) (.int .i64 0) (.int .i64 0) (.int .i64 0) (.slice none 0 0)
      have d0B := h3B.c 0 _ rfl
      have e0B := h3B.f 0
      unfold set7 at d0B e0B
      clear h3B
      go_wp2
      have HF := Lib.hid (HZE.out W2 _ _ _ _ _ _ _ _ 4302 HX2.out HX3.out HR.out.symm HB.out _ rfl)
      unfold zer7 set7 at HF
      clear y0 z0 y1 z1 y2 z2 y3 z3 y4 z4 y5 z5 y6 z6 l2 d0B e0B
      generalize ((((((((W2.setCell ⟨n2, 0, none⟩ (.slice none 0 0)).setCell ⟨n2, 1, none⟩ (.slice none 0 0)).setCell ⟨n2, 2, none⟩ (.int .i64 0)).setCell ⟨n2, 3, none⟩ (.int .i64 0)).setCell ⟨n2, 4, none⟩ (.int .i64 0)).setCell ⟨n2, 5, none⟩ (.int .i64 0)).setCell ⟨n2, 6, none⟩ (.slice none 0 0)).setCell ⟨n2 + 1, 0, none⟩ (.int .i64 4302)) = X at HF ⊢
      obtain ⟨c0, c1, c2, c3, c4, c5, c6, d0, hP⟩ := HF.out
      simp [bodyPostD, Leaves, settle, results, Tryz.results31, go_sem, c0, c1, c2, c3, c4, c5, c6, d0]
      exact hP
end Go.Proofs.Ng
