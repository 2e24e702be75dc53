/-
  Texts put together: Ef Ts.
-/
import Derived.Test.YthcmkpcefiiiaaaGreatDoorZFormatCanonicalCard18
import Derived.Test.YthcmkpcefiiiaaaGreatDoorZFormatCanonicalCard24
set_option linter.unusedVariables false
section
/-
 Walks: ParseTrajectory.
-/
namespace Go.Proofs.Ng
open Go.RowKit
theorem catch50_idle (p q : Addr) (w : World) :
  CallsD Tryz.prog 47 #[.pointer (some p), .pointer (some q)] .returning w fun e u' w' => e = .returned (.tuple #[]) ∧ u' = .returning ∧ w' = w := by
 refine callsD_of_wpS Tryz.func47 rfl fun c₀ cs hu => ?_
 apply wpS_seq
 apply wpS_region
 simp [wpOpsS, go_sem, recoverD, hu, Tryz.ntmps47, Exit.thenS]
 refine wpS_cond (t := false) (by simp [Act.eval, Array.replicate]) ?_
 simp only [Bool.false_eq_true, if_false]
 refine wpS_of_wp (wp_skip ?_)
 cases c₀
 simp_all [bodyPostS, results, Tryz.results47]
/-- The zero trajectory, written over a box. -/
def zer7 (w : World) (n : Nat) : World := set7 w n (.slice none 0 0) (.slice none 0 0) (.int .i64 0) (.int .i64 0) (.int .i64 0) (.int .i64 0) (.slice none 0 0)
theorem Bx.other7 {W : World} {n b : Nat} {cs : List Value} {ty : TypeId} (h : Bx W n cs ty) (hne : n ≠ b) (a0 a1 a2 a3 a4 a5 a6 : Value) : Bx (set7 W b a0 a1 a2 a3 a4 a5 a6) n cs ty := ⟨(set7_blk W b a0 a1 a2 a3 a4 a5 a6 n hne).trans h.h⟩
set_option maxRecDepth 100000 in
set_option maxHeartbeats 2000000 in
theorem catch50_panic (b2 b3 : Nat) (x0 x1 x2 x3 x4 x5 x6 : Value) (n : Int) (older : List PanicEntry) (w : World) (h2 : Bx w b2 [x0, x1, x2, x3, x4, x5, x6] 43) (h3 : Bx w b3 [.int .i64 n] 23) (hne : b3 ≠ b2) :
  CallsD Tryz.prog 47 #[.pointer (some ⟨b2, 0, none⟩), .pointer (some ⟨b3, 0, none⟩)] (.panicking ({ v := .iface 133 (.agg #[]), recovered := false } :: older)) w fun e u' w' =>
   e = .returned (.tuple #[]) ∧ u' = .panicking ({ v := .iface 133 (.agg #[]), recovered := true } :: older) ∧ w' = (zer7 w b2).setCell ⟨b3, 0, none⟩ (.int .i64 4301) := by
 have l2 := h2.lt
 obtain ⟨y0, z0, y1, z1, y2, z2, y3, z3, y4, z4, y5, z5, y6, z6⟩ := facts7 h2 (.slice none 0 0) (.slice none 0 0) (.int .i64 0) (.int .i64 0) (.int .i64 0) (.int .i64 0)
 have h3B := h3.other7 hne (.slice none 0 0) (.slice none 0 0) (.int .i64 0) (.int .i64 0) (.int .i64 0) (.int .i64 0) (.slice none 0 0)
 have d0B := h3B.c 0 _ rfl
 have e0B := h3B.f 0
 unfold zer7
 unfold set7 at d0B e0B ⊢
 refine callsD_of_wpS Tryz.func47 rfl fun c₀ cs hu => ?_
 apply wpS_seq
 apply wpS_region
 simp [wpOpsS, go_sem, recoverD, hu, Tryz.ntmps47, Exit.thenS]
 refine wpS_cond (t := true) (by simp [Act.eval, Array.replicate]) ?_
 simp only [if_true]
 apply wpS_region
 simp [wpOpsS, go_sem, y0, z0, y1, z1, y2, z2, y3, z3, y4, z4, y5, z5, y6, z6, l2, d0B, e0B, bodyPostS, results, Tryz.results47]
def trajZ : Fm.TrajD := ⟨0, (0, 0, 0), ⟨[], []⟩, []⟩
/-- What the code's reader answers: the trajectory and the error. -/
def parseResT (s : List UInt8) : Fm.TrajD × Int := if 1048576 < s.length then (trajZ, 4301) else if kindN s = 3 then (match Fm.parseTr s with | some p => (p, 0) | none => (trajZ, 4301)) else (trajZ, 4302)
theorem rws_nil {A : Type} (D : Dat A) (n : Nat) (W : World) : Rws D n W none [] := ⟨[], rfl, fun h => absurd rfl h, fun k r x h => by simp at h⟩
theorem trajV_nil (W : World) : TrajV (.agg #[.slice none 0 0, .slice none 0 0, .int .i64 0, .int .i64 0, .int .i64 0, .int .i64 0, .slice none 0 0]) trajZ W := ⟨none, 0, none, 0, none, 0, rfl, rws_nil _ _ _, rws_nil _ _ _, rws_nil _ _ _⟩
theorem fin31 {X W : World} {n : Nat} {a0 a1 a2 a3 a4 a5 a6 : Value} {code : Int} {res : Fm.TrajD × Int} {p : Fm.TrajD} (h2 : Bx X n [a0, a1, a2, a3, a4, a5, a6] 43) (h3 : Bx X (n + 1) [.int .i64 code] 23) (hr : res = (p, code)) (hV : New W.heap.size X (TrajV (.agg #[a0, a1, a2, a3, a4, a5, a6]) p)) (hb : Below W.heap.size W X) :
  X.cell? ⟨n, 0, none⟩ = some a0 ∧ X.cell? ⟨n, 1, none⟩ = some a1 ∧ X.cell? ⟨n, 2, none⟩ = some a2 ∧ X.cell? ⟨n, 3, none⟩ = some a3 ∧ X.cell? ⟨n, 4, none⟩ = some a4 ∧ X.cell? ⟨n, 5, none⟩ = some a5 ∧ X.cell? ⟨n, 6, none⟩ = some a6 ∧ X.cell? ⟨n + 1, 0, none⟩ = some (.int .i64 code) ∧ ParP TrajV res W (.returned (.tuple #[.agg #[a0, a1, a2, a3, a4, a5, a6], .int .i64 code])) X := by
 subst hr
 exact ⟨h2.c 0 _ rfl, h2.c 1 _ rfl, h2.c 2 _ rfl, h2.c 3 _ rfl, h2.c 4 _ rfl, h2.c 5 _ rfl, h2.c 6 _ rfl, h3.c 0 _ rfl, _, rfl, hV, hb⟩
/-- The failing end: zeros and the error written. -/
theorem zero31 {W Y : World} {n : Nat} {x0 x1 x2 x3 x4 x5 x6 : Value} {c0 code : Int} {res : Fm.TrajD × Int} (h2 : Bx Y n [x0, x1, x2, x3, x4, x5, x6] 43) (h3 : Bx Y (n + 1) [.int .i64 c0] 23) (hr : res = (trajZ, code)) (hb : Below W.heap.size W Y) (hn : W.heap.size = n) :
  Bx ((zer7 Y n).setCell ⟨n + 1, 0, none⟩ (.int .i64 code)) n [.slice none 0 0, .slice none 0 0, .int .i64 0, .int .i64 0, .int .i64 0, .int .i64 0, .slice none 0 0] 43 ∧ Bx ((zer7 Y n).setCell ⟨n + 1, 0, none⟩ (.int .i64 code)) (n + 1) [.int .i64 code] 23 ∧ New W.heap.size ((zer7 Y n).setCell ⟨n + 1, 0, none⟩ (.int .i64 code)) (TrajV (.agg #[.slice none 0 0, .slice none 0 0, .int .i64 0, .int .i64 0, .int .i64 0, .int .i64 0, .slice none 0 0]) trajZ) ∧ Below W.heap.size W ((zer7 Y n).setCell ⟨n + 1, 0, none⟩ (.int .i64 code)) :=
 ⟨(st7 h2 _ _ _ _ _ _ _).other (by omega) 0 _, (h3.other7 (by omega) _ _ _ _ _ _ _).put _, fun X _ => trajV_nil X, (hb.trans (set7_below Y n W.heap.size (Nat.le_of_eq hn) _ _ _ _ _ _ _)).setCell (p := ⟨n + 1, 0, none⟩) (by show W.heap.size ≤ n + 1; omega) _⟩
theorem mid31 {Y : World} {n b : Nat} {x0 x1 x2 x3 x4 x5 x6 : Value} {c0 : Int} {ls : List (List UInt8)} {tl : List UInt8} (h2 : Bx Y n [x0, x1, x2, x3, x4, x5, x6] 43) (h3 : Bx Y (n + 1) [.int .i64 c0] 23) (hS : RdS Y b ls tl) (hb : n + 2 ≤ b) (a0 a1 a2 a3 a4 a5 a6 : Value) :
  Bx (set7 Y n a0 a1 a2 a3 a4 a5 a6) n [a0, a1, a2, a3, a4, a5, a6] 43 ∧ Bx (set7 Y n a0 a1 a2 a3 a4 a5 a6) (n + 1) [.int .i64 c0] 23 ∧ RdS (set7 Y n a0 a1 a2 a3 a4 a5 a6) b ls tl ∧ Below n Y (set7 Y n a0 a1 a2 a3 a4 a5 a6) := by
 obtain ⟨⟨s, hs1, hs2, hs3⟩, hs4⟩ := hS
 exact ⟨st7 h2 _ _ _ _ _ _ _, h3.other7 (by omega) _ _ _ _ _ _ _, ⟨⟨s, hs1.other7 (by omega) _ _ _ _ _ _ _, hs2, hs3⟩, hs4⟩, set7_below Y n n (Nat.le_refl _) _ _ _ _ _ _ _⟩
theorem done31 {W Y : World} {n : Nat} {a0 a1 a2 a3 a4 a5 a6 : Value} {c0 : Int} {res : Fm.TrajD × Int} {p : Fm.TrajD} (h2 : Bx Y n [a0, a1, a2, a3, a4, a5, a6] 43) (h3 : Bx Y (n + 1) [.int .i64 c0] 23) (hr : res = (p, 0)) (hV : ∀ X : World, (∀ k, k ≠ n → k ≠ n + 1 → W.heap.size ≤ k → k < Y.heap.size → X.heap[k]? = Y.heap[k]?) → TrajV (.agg #[a0, a1, a2, a3, a4, a5, a6]) p X) (hb : Below W.heap.size W Y) (hn : W.heap.size = n) :
  ((set7 Y n a0 a1 a2 a3 a4 a5 a6).setCell ⟨n + 1, 0, none⟩ (.int .i64 0)).cell? ⟨n, 0, none⟩ = some a0 ∧ ((set7 Y n a0 a1 a2 a3 a4 a5 a6).setCell ⟨n + 1, 0, none⟩ (.int .i64 0)).cell? ⟨n, 1, none⟩ = some a1 ∧ ((set7 Y n a0 a1 a2 a3 a4 a5 a6).setCell ⟨n + 1, 0, none⟩ (.int .i64 0)).cell? ⟨n, 2, none⟩ = some a2 ∧ ((set7 Y n a0 a1 a2 a3 a4 a5 a6).setCell ⟨n + 1, 0, none⟩ (.int .i64 0)).cell? ⟨n, 3, none⟩ = some a3 ∧ ((set7 Y n a0 a1 a2 a3 a4 a5 a6).setCell ⟨n + 1, 0, none⟩ (.int .i64 0)).cell? ⟨n, 4, none⟩ = some a4 ∧ ((set7 Y n a0 a1 a2 a3 a4 a5 a6).setCell ⟨n + 1, 0, none⟩ (.int .i64 0)).cell? ⟨n, 5, none⟩ = some a5 ∧ ((set7 Y n a0 a1 a2 a3 a4 a5 a6).setCell ⟨n + 1, 0, none⟩ (.int .i64 0)).cell? ⟨n, 6, none⟩ = some a6 ∧ ((set7 Y n a0 a1 a2 a3 a4 a5 a6).setCell ⟨n + 1, 0, none⟩ (.int .i64 0)).cell? ⟨n + 1, 0, none⟩ = some (.int .i64 0) ∧ ParP TrajV res W (.returned (.tuple #[.agg #[a0, a1, a2, a3, a4, a5, a6], .int .i64 0])) ((set7 Y n a0 a1 a2 a3 a4 a5 a6).setCell ⟨n + 1, 0, none⟩ (.int .i64 0)) := by
 refine fin31 ((st7 h2 _ _ _ _ _ _ _).other (by omega) 0 _) ((h3.other7 (by omega) _ _ _ _ _ _ _).put _) hr (fun X hX => hV X fun k k1 k2 k3 k4 => ?_) ((hb.trans (set7_below Y n W.heap.size (Nat.le_of_eq hn) _ _ _ _ _ _ _)).setCell (p := ⟨n + 1, 0, none⟩) (by show W.heap.size ≤ n + 1; omega) _)
 rw [hX k ⟨k3, by simp [World.setCell, set7]; exact k4⟩]
 exact (Below.heap_setCell _ ⟨n + 1, 0, none⟩ _ k k2).trans (set7_blk Y n _ _ _ _ _ _ _ k k1)
set_option maxRecDepth 100000 in
set_option maxHeartbeats 8000000 in
theorem parseTraj31 (s : ByteArray) (W : World) (hs : s.size ≤ 9223372036854775807) (hL : LibW W) : Calls Tryz.prog 15 #[.string s] W (ParP TrajV (parseResT s.data.toList) W) := by
 have hmf : ∀ (fn : Fn) (first cap : Array Value) (w : World), (Instr.makeFunc fn first cap).run Tryz.prog w = .ok (.func fn first cap) w := fun _ _ _ _ => rfl
 generalize hR : parseResT s.data.toList = res
 unfold parseResT at hR
 have hsz : s.data.toList.length = s.size := by rw [Array.length_toList]; rfl
 have hb1 : Below W.heap.size W ((W.alloc (.cells #[.slice none 0 0, .slice none 0 0, .int .i64 0, .int .i64 0, .int .i64 0, .int .i64 0, .slice none 0 0] 43)).alloc (.cells #[.int .i64 0] 23)) := ((Below.refl _ _).alloc (Nat.le_refl _) _).alloc (by simp) _
 have hz : ((W.alloc (.cells #[.slice none 0 0, .slice none 0 0, .int .i64 0, .int .i64 0, .int .i64 0, .int .i64 0, .slice none 0 0] 43)).alloc (.cells #[.int .i64 0] 23)).heap.size = W.heap.size + 2 := by simp
 have hsz1 : (W.alloc (.cells #[.slice none 0 0, .slice none 0 0, .int .i64 0, .int .i64 0, .int .i64 0, .int .i64 0, .slice none 0 0] 43)).heap.size = W.heap.size + 1 := by simp
 have HX2 := Lib.hid ((Bx.new W [.slice none 0 0, .slice none 0 0, .int .i64 0, .int .i64 0, .int .i64 0, .int .i64 0, .slice none 0 0] 43).keep ((Below.refl _ (W.alloc (.cells #[.slice none 0 0, .slice none 0 0, .int .i64 0, .int .i64 0, .int .i64 0, .int .i64 0, .slice none 0 0] 43))).alloc (Nat.le_refl _) (.cells #[.int .i64 0] 23)))
 have HX3 := Lib.hid (Bx.new (W.alloc (.cells #[.slice none 0 0, .slice none 0 0, .int .i64 0, .int .i64 0, .int .i64 0, .int .i64 0, .slice none 0 0] 43)) [.int .i64 0] 23)
 rw [hsz1] at HX3
 have HL := Lib.hid (hL.keep hb1)
 have HB := Lib.hid hb1
 have HZ := Lib.hid hz
 have HS8 : Hid (8 ≤ W.heap.size) := Lib.hid hL.gt
 clear hb1 hz hsz1 hL
 go_enter_defers Tryz.func15, Tryz.ntmps15
 go_wp2_with fail
 generalize ((W.alloc (.cells #[.slice none 0 0, .slice none 0 0, .int .i64 0, .int .i64 0, .int .i64 0, .int .i64 0, .slice none 0 0] 43)).alloc (.cells #[.int .i64 0] 23)) = W1 at HX2 HX3 HL HB HZ ⊢
 obtain ⟨n2, hn2⟩ : ∃ n, n = W.heap.size := ⟨_, rfl⟩
 have HN2 := Lib.hid hn2
 rw [← hn2] at HX2 HX3 HZ HS8 ⊢
 clear hn2
 refine (opening37 s 3 W1 hs).mono ?_
 rintro e W2 ⟨rfl, hw⟩
 subst hw
 unfold openN
 rw [hsz]
 have HZE : Hid (∀ (Y : World) (x0 x1 x2 x3 x4 x5 x6 : Value) (c0 code : Int), Bx Y n2 [x0, x1, x2, x3, x4, x5, x6] 43 → Bx Y (n2 + 1) [.int .i64 c0] 23 → res = (trajZ, code) → Below W.heap.size W Y → ∀ X, X = (zer7 Y n2).setCell ⟨n2 + 1, 0, none⟩ (.int .i64 code) →
   X.cell? ⟨n2, 0, none⟩ = some (.slice none 0 0) ∧ X.cell? ⟨n2, 1, none⟩ = some (.slice none 0 0) ∧ X.cell? ⟨n2, 2, none⟩ = some (.int .i64 0) ∧ X.cell? ⟨n2, 3, none⟩ = some (.int .i64 0) ∧ X.cell? ⟨n2, 4, none⟩ = some (.int .i64 0) ∧ X.cell? ⟨n2, 5, none⟩ = some (.int .i64 0) ∧ X.cell? ⟨n2, 6, none⟩ = some (.slice none 0 0) ∧ X.cell? ⟨n2 + 1, 0, none⟩ = some (.int .i64 code) ∧ ParP TrajV res W (.returned (.tuple #[.agg #[.slice none 0 0, .slice none 0 0, .int .i64 0, .int .i64 0, .int .i64 0, .int .i64 0, .slice none 0 0], .int .i64 code])) X) := Lib.hid (fun Y x0 x1 x2 x3 x4 x5 x6 c0 code h2 h3 hr hb X hX => by
  obtain ⟨k1, k2, k3, k4⟩ := zero31 h2 h3 hr hb HN2.out.symm
  subst hX
  exact fin31 k1 k2 hr k3 k4)
 by_cases h1 : 1048576 < s.size
 ·rw [if_pos h1]
  rw [hsz, if_pos h1] at hR
  have HR := Lib.hid hR
  clear hR h1
  have l2 := HX2.out.lt
  obtain ⟨y0, z0, y1, z1, y2, z2, y3, z3, y4, z4, y5, z5, y6, z6⟩ := facts7 HX2.out (.slice none 0 0) (.slice none 0 0) (.int .i64 0) (.int .i64 0) (.int .i64 0) (.int .i64 0)
  have h3B := HX3.out.other7 (b := n2) (by omega) (.slice none 0 0) (.slice none 0 0) (.int .i64 0) (.int .i64 0) (.int .i64 0) (.int .i64 0) (.slice none 0 0)
  have d0B := h3B.c 0 _ rfl
  have e0B := h3B.f 0
  unfold set7 at d0B e0B
  clear h3B
  go_wp2
  have HF := Lib.hid (HZE.out W2 _ _ _ _ _ _ _ _ 4301 HX2.out HX3.out HR.out.symm HB.out _ rfl)
  unfold zer7 set7 at HF
  clear y0 z0 y1 z1 y2 z2 y3 z3 y4 z4 y5 z5 y6 z6 l2 d0B e0B
  generalize ((((((((W2.setCell ⟨n2, 0, none⟩ (.slice none 0 0)).setCell ⟨n2, 1, none⟩ (.slice none 0 0)).setCell ⟨n2, 2, none⟩ (.int .i64 0)).setCell ⟨n2, 3, none⟩ (.int .i64 0)).setCell ⟨n2, 4, none⟩ (.int .i64 0)).setCell ⟨n2, 5, none⟩ (.int .i64 0)).setCell ⟨n2, 6, none⟩ (.slice none 0 0)).setCell ⟨n2 + 1, 0, none⟩ (.int .i64 4301)) = X at HF ⊢
  obtain ⟨c0, c1, c2, c3, c4, c5, c6, d0, hP⟩ := HF.out
  simp [bodyPostD, Leaves, settle, results, Tryz.results15, go_sem, c0, c1, c2, c3, c4, c5, c6, d0]
  exact hP
 ·rw [if_neg h1]
  rw [hsz, if_neg h1] at hR
  by_cases hk : kindN s.data.toList = 3
  ·rw [if_pos hk]
   rw [if_pos hk, Fm.parseTr_R] at hR
   have HR := Lib.hid hR
   clear hR hk
   have hb5 : Below W2.heap.size W2 (W2.alloc (.cells #[.string s] 96)) := (Below.refl _ _).alloc (Nat.le_refl _) _
   have HS : Hid (RdS (W2.alloc (.cells #[.string s] 96)) W2.heap.size (Fm.linesT s.data.toList).1 (Fm.linesT s.data.toList).2) := Lib.hid ⟨⟨s, Bx.new W2 [.string s] 96, rfl, by omega⟩, by have := HZ.out; have := HS8.out; omega⟩
   have HX25 := Lib.hid (HX2.out.keep hb5)
   have HX35 := Lib.hid (HX3.out.keep hb5)
   have HL5 := Lib.hid (HL.out.keep hb5)
   have HB5 := Lib.hid (below_call HB.out hb5)
   clear hb5
   go_wp2_with fail
   have hbn : n2 + 2 ≤ W2.heap.size := by have := HZ.out; omega
   generalize W2.alloc (.cells #[.string s] 96) = W3 at HS HX25 HX35 HL5 HB5 ⊢
   generalize W2.heap.size = b at HS hbn ⊢
   have HC := Lib.hid (trajectory51 W3 b _ _ HS.out HL5.out)
   refine HC.out.mono ?_
   rintro e W4 h4
   cases hq : Fm.rdTrajR (Fm.linesT s.data.toList).1 with
   | none =>
    rw [hq] at h4
    have HRN : Hid (res = (trajZ, 4301)) := Lib.hid (by rw [← HR.out, hq])
    obtain ⟨rfl, hG⟩ := h4.no
    have hx2 := HX25.out.grown hG (by omega)
    have hx3 := HX35.out.grown hG (by omega)
    have HB6 : Hid (Below W.heap.size W W4) := Lib.hid (HB5.out.trans ⟨hG.os, hG.tape, hG.output, hG.size, fun k hk => hG.block k (Nat.lt_of_lt_of_le hk HB5.out.size) (fun e => by have := HN2.out; injection e with e; omega)⟩)
    clear h4 hG HC hq
    unfold malP
    go_wp2
    refine leaves_cons (f := 47) (args := #[.pointer (some ⟨n2, 0, none⟩), .pointer (some ⟨n2 + 1, 0, none⟩)]) (by simp) (by simp [go_sem]) ?_
    refine (catch50_panic n2 (n2 + 1) _ _ _ _ _ _ _ _ [] W4 hx2 hx3 (by omega)).mono ?_
    rintro e u' w'' ⟨rfl, rfl, hw9⟩
    obtain ⟨c0, c1, c2, c3, c4, c5, c6, d0, hP⟩ := HZE.out W4 _ _ _ _ _ _ _ _ 4301 hx2 hx3 HRN.out HB6.out _ hw9
    clear hx2 hx3 hw9
    simp [Leaves, settle, results, Tryz.results15, go_sem, c0, c1, c2, c3, c4, c5, c6, d0]
    exact hP
   | some pr =>
    obtain ⟨p, r⟩ := pr
    rw [hq] at h4
    obtain ⟨v, rfl, hN, hS, hG⟩ := h4.yes
    obtain ⟨op, np, oe, ne, f, nf, rfl, -, -, -⟩ := hN.now
    have hx2 := HX25.out.grown hG (by omega)
    have hx3 := HX35.out.grown hG (by omega)
    have HB4 : Hid (Below W.heap.size W W4) := Lib.hid (HB5.out.trans ⟨hG.os, hG.tape, hG.output, hG.size, fun k hk => hG.block k (Nat.lt_of_lt_of_le hk HB5.out.size) (fun e => by have := HN2.out; injection e with e; omega)⟩)
    have HNW := Lib.hid hN
    have HLW := Lib.hid (HL5.out.keepG hG (by have := HS8.out; omega))
    obtain ⟨s1, s2, s3, s4⟩ := mid31 hx2 hx3 hS (by omega) (.slice op p.path.pts.length np) (.slice oe p.path.edges.length ne) (.int .i64 p.grav.1) (.int .i64 p.grav.2.1) (.int .i64 p.grav.2.2) (.int .i64 p.grid) (.slice f p.profs.length nf)
    have HX26 := Lib.hid s1
    have HX36 := Lib.hid s2
    have HS4 := Lib.hid s3
    have HBEL := Lib.hid s4
    have HBL := Lib.hid (set7_blk W4 n2 (.slice op p.path.pts.length np) (.slice oe p.path.edges.length ne) (.int .i64 p.grav.1) (.int .i64 p.grav.2.1) (.int .i64 p.grav.2.2) (.int .i64 p.grid) (.slice f p.profs.length nf))
    have HSZ6 := Lib.hid (set7_size W4 n2 (.slice op p.path.pts.length np) (.slice oe p.path.edges.length ne) (.int .i64 p.grav.1) (.int .i64 p.grav.2.1) (.int .i64 p.grav.2.2) (.int .i64 p.grid) (.slice f p.profs.length nf))
    have HW3 := Lib.hid hG.size
    have HBT := Lib.hid HS.out.lt
    have HLE : Hid (n2 + 2 ≤ W3.heap.size) := Lib.hid HX35.out.lt
    have l2 := hx2.lt
    obtain ⟨y0, z0, y1, z1, y2, z2, y3, z3, y4, z4, y5, z5, y6, z6⟩ := facts7 hx2 (.slice op p.path.pts.length np) (.slice oe p.path.edges.length ne) (.int .i64 p.grav.1) (.int .i64 p.grav.2.1) (.int .i64 p.grav.2.2) (.int .i64 p.grid)
    clear h4 hN hS hG HC hx2 hx3 s1 s2 s3 s4
    unfold set7 at HX26 HX36 HS4 HBEL HBL HSZ6
    go_wp2_with fail
    clear y0 z0 y1 z1 y2 z2 y3 z3 y4 z4 y5 z5 y6 z6 l2
    generalize ((((((W4.setCell ⟨n2, 0, none⟩ (.slice op p.path.pts.length np)).setCell ⟨n2, 1, none⟩ (.slice oe p.path.edges.length ne)).setCell ⟨n2, 2, none⟩ (.int .i64 p.grav.1)).setCell ⟨n2, 3, none⟩ (.int .i64 p.grav.2.1)).setCell ⟨n2, 4, none⟩ (.int .i64 p.grav.2.2)).setCell ⟨n2, 5, none⟩ (.int .i64 p.grid)).setCell ⟨n2, 6, none⟩ (.slice f p.profs.length nf) = W6 at HX26 HX36 HS4 HBEL HBL HSZ6 ⊢
    have HL6 := Lib.hid (HLW.out.low (HBEL.out.mono HS8.out))
    have HB6 : Hid (Below W.heap.size W W6) := Lib.hid (HB4.out.trans (HBEL.out.mono (Nat.le_of_eq HN2.out.symm)))
    refine (finish40 W6 b r _ HS4.out HL6.out).mono ?_
    rintro e W7 ⟨he, hG7⟩
    have hx2 := HX26.out.grown hG7 (by omega)
    have hx3 := HX36.out.grown hG7 (by omega)
    have HB7 : Hid (Below W.heap.size W W7) := Lib.hid (HB6.out.trans ⟨hG7.os, hG7.tape, hG7.output, hG7.size, fun k hk => hG7.block k (Nat.lt_of_lt_of_le hk HB6.out.size) (fun e => by have := HN2.out; injection e with e; omega)⟩)
    cases hend : Fm.rdEnd r (Fm.linesT s.data.toList).2 with
    | false =>
     rw [hend] at he
     have HRN : Hid (res = (trajZ, 4301)) := Lib.hid (by rw [← HR.out, hq]; simp only; rw [hend]; rfl)
     simp only [Bool.false_eq_true, if_false] at he
     subst he
     clear hG7 hend hq
     unfold malP
     go_wp2
     refine leaves_cons (f := 47) (args := #[.pointer (some ⟨n2, 0, none⟩), .pointer (some ⟨n2 + 1, 0, none⟩)]) (by simp) (by simp [go_sem]) ?_
     refine (catch50_panic n2 (n2 + 1) _ _ _ _ _ _ _ _ [] W7 hx2 hx3 (by omega)).mono ?_
     rintro e u' w'' ⟨rfl, rfl, hw9⟩
     obtain ⟨c0, c1, c2, c3, c4, c5, c6, d0, hP⟩ := HZE.out W7 _ _ _ _ _ _ _ _ 4301 hx2 hx3 HRN.out HB7.out _ hw9
     clear hx2 hx3 hw9
     simp [Leaves, settle, results, Tryz.results15, go_sem, c0, c1, c2, c3, c4, c5, c6, d0]
     exact hP
    | true =>
     rw [hend] at he
     simp only [if_true] at he
     subst he
     have HRN : Hid (res = (p, 0)) := Lib.hid (by rw [← HR.out, hq]; simp only; rw [hend]; rfl)
     have HN7 : Hid (∀ X : World, (∀ k, k ≠ n2 → k ≠ n2 + 1 → W.heap.size ≤ k → k < W7.heap.size → X.heap[k]? = W7.heap[k]?) → TrajV (.agg #[.slice op p.path.pts.length np, .slice oe p.path.edges.length ne, .int .i64 p.grav.1, .int .i64 p.grav.2.1, .int .i64 p.grav.2.2, .int .i64 p.grid, .slice f p.profs.length nf]) p X) := Lib.hid (fun X hX => HNW.out X fun k hk => by
      have h1 := hk.1; have h2 := hk.2
      have h3 := HLE.out
      have h4 : k < W6.heap.size := by rw [HSZ6.out]; exact h2
      rw [hX k (by omega) (by omega) (by have := HB5.out.size; omega) (Nat.lt_of_lt_of_le h4 hG7.size), hG7.block k h4 (fun e => by have h5 := HBT.out; injection e with e; omega), HBL.out k (by omega)])
     clear hG7 hend hq
     have l2 := hx2.lt
     have r0 := hx2.c 0 _ rfl
     have r1 := hx2.c 1 _ rfl
     have r2 := hx2.c 2 _ rfl
     have r3 := hx2.c 3 _ rfl
     have r4 := hx2.c 4 _ rfl
     have r5 := hx2.c 5 _ rfl
     have r6 := hx2.c 6 _ rfl
     obtain ⟨y0, z0, y1, z1, y2, z2, y3, z3, y4, z4, y5, z5, y6, z6⟩ := facts7 hx2 (.slice op p.path.pts.length np) (.slice oe p.path.edges.length ne) (.int .i64 p.grav.1) (.int .i64 p.grav.2.1) (.int .i64 p.grav.2.2) (.int .i64 p.grid)
     have hB := hx3.other7 (b := n2) (by omega) (.slice op p.path.pts.length np) (.slice oe p.path.edges.length ne) (.int .i64 p.grav.1) (.int .i64 p.grav.2.1) (.int .i64 p.grav.2.2) (.int .i64 p.grid) (.slice f p.profs.length nf)
     have d0 := hB.c 0 _ rfl
     have g0 := hB.f 0
     have HF := Lib.hid (done31 hx2 hx3 HRN.out HN7.out HB7.out HN2.out.symm)
     unfold set7 at d0 g0 HF
     clear hB hx2 hx3
     go_wp2
     clear y0 z0 y1 z1 y2 z2 y3 z3 y4 z4 y5 z5 y6 z6 l2 d0 g0 r0 r1 r2 r3 r4 r5 r6
     generalize ((((((((W7.setCell ⟨n2, 0, none⟩ (.slice op p.path.pts.length np)).setCell ⟨n2, 1, none⟩ (.slice oe p.path.edges.length ne)).setCell ⟨n2, 2, none⟩ (.int .i64 p.grav.1)).setCell ⟨n2, 3, none⟩ (.int .i64 p.grav.2.1)).setCell ⟨n2, 4, none⟩ (.int .i64 p.grav.2.2)).setCell ⟨n2, 5, none⟩ (.int .i64 p.grid)).setCell ⟨n2, 6, none⟩ (.slice f p.profs.length nf)).setCell ⟨n2 + 1, 0, none⟩ (.int .i64 0)) = X at HF ⊢
     refine leaves_cons (f := 47) (args := #[.pointer (some ⟨n2, 0, none⟩), .pointer (some ⟨n2 + 1, 0, none⟩)]) (by simp) (by simp [go_sem]) ?_
     refine (catch50_idle ⟨n2, 0, none⟩ ⟨n2 + 1, 0, none⟩ X).mono ?_
     rintro e u' w'' ⟨rfl, rfl, rfl⟩
     obtain ⟨c0, c1, c2, c3, c4, c5, c6, d0, hP⟩ := HF.out
     simp [Leaves, settle, results, Tryz.results15, go_sem, c0, c1, c2, c3, c4, c5, c6, d0]
     exact hP
  ·rw [if_neg hk]
   rw [if_neg hk] at hR
   have HR := Lib.hid hR
   clear hR hk
   have l2 := HX2.out.lt
   obtain ⟨y0, z0, y1, z1, y2, z2, y3, z3, y4, z4, y5, z5, y6, z6⟩ := facts7 HX2.out (.slice none 0 0) (.slice none 0 0) (.int .i64 0) (.int .i64 0) (.int .i64 0) (.int .i64 0)
   have h3B := HX3.out.other7 (b := n2) (by omega) (.slice none 0 0) (.slice none 0 0) (.int .i64 0) (.int .i64 0) (.int .i64 0) (.int .i64 0) (.slice none 0 0)
   have d0B := h3B.c 0 _ rfl
   have e0B := h3B.f 0
   unfold set7 at d0B e0B
   clear h3B
   go_wp2
   have HF := Lib.hid (HZE.out W2 _ _ _ _ _ _ _ _ 4302 HX2.out HX3.out HR.out.symm HB.out _ rfl)
   unfold zer7 set7 at HF
   clear y0 z0 y1 z1 y2 z2 y3 z3 y4 z4 y5 z5 y6 z6 l2 d0B e0B
   generalize ((((((((W2.setCell ⟨n2, 0, none⟩ (.slice none 0 0)).setCell ⟨n2, 1, none⟩ (.slice none 0 0)).setCell ⟨n2, 2, none⟩ (.int .i64 0)).setCell ⟨n2, 3, none⟩ (.int .i64 0)).setCell ⟨n2, 4, none⟩ (.int .i64 0)).setCell ⟨n2, 5, none⟩ (.int .i64 0)).setCell ⟨n2, 6, none⟩ (.slice none 0 0)).setCell ⟨n2 + 1, 0, none⟩ (.int .i64 4302)) = X at HF ⊢
   obtain ⟨c0, c1, c2, c3, c4, c5, c6, d0, hP⟩ := HF.out
   simp [bodyPostD, Leaves, settle, results, Tryz.results15, go_sem, c0, c1, c2, c3, c4, c5, c6, d0]
   exact hP
end Go.Proofs.Ng
end

section
/-
 Walks: the reader's witness. Printed by gen_ts.py.
-/
namespace Go.Proofs.Ng
open Go.RowKit
structure Wt3K (b n2 g off cap m : Nat) (p l : Int) (W3 : World) (L : Nat → Bool) (v14 v15 v16 v17 v18 v19 v20 v21 v22 v23 v24 v4 v5 v6 : Value) (w : World) : Prop where
 wf : Below W3.heap.size W3 w
 f0 : L 0 = true → v14 = .slice (some ⟨g, off, none⟩) (m + 2) cap
 f1 : L 1 = true → v15 = .slice (some ⟨g, off, none⟩) 1 cap
 f2 : L 2 = true → IntAt w v16 p
 f3 : L 3 = true → L 2 = true ∧ PtrAt w v17 p
 f4 : L 4 = true → v18 = .int .i64 p
 f5 : L 5 = true → v19 = .slice (some ⟨g, off, none⟩) (m + 2) cap
 f6 : L 6 = true → v20 = .pointer (some ⟨g, off + 1, none⟩)
 f7 : L 7 = true → v21 = .int .i64 l
 f8 : L 8 = true → Fm.cntOk l = true ∧ v22 = .int .i64 l
 f9 : L 9 = true → v23 = .slice (some ⟨g, off, none⟩) (m + 2) cap
 f10 : L 10 = true → v24 = .slice (if cap = 2 then some ⟨g, off, none⟩ else some ⟨g, off + 2, none⟩) m (cap - 2)
 f11 : L 11 = true → v4 = .int .i64 p
 f12 : L 12 = true → v5 = .int .i64 l
 f13 : L 13 = true → v6 = .slice (if cap = 2 then some ⟨g, off, none⟩ else some ⟨g, off + 2, none⟩) m (cap - 2)
def WitV (v : Value) (x : Int × List Int × List Int) (W : World) : Prop := ∃ ol cl orr cr, v = .agg #[.int .i64 x.1, .slice ol x.2.1.length cl, .slice orr x.2.2.length cr] ∧ Sl W ol 1 (pvals x.2.1) ∧ Sl W orr 1 (pvals x.2.2)
theorem rdWit_no {ls r : List (List UInt8)} {ns : List Int} (h : Fm.rdLine Fm.kwWitness ls = some (ns, r)) (hn : ns.length < 2) : Fm.rdWit ls = none := by
 unfold Fm.rdWit
 rw [h]
 match ns, hn with
 | [], _ => rfl
 | [_], _ => rfl
theorem rdWit_no1 {ls : List (List UInt8)} (h : Fm.rdLine Fm.kwWitness ls = none) : Fm.rdWit ls = none := by
 unfold Fm.rdWit
 rw [h]
theorem rdWit_no2 {ls r : List (List UInt8)} {p l : Int} {rest : List Int} (h : Fm.rdLine Fm.kwWitness ls = some (p :: l :: rest, r)) (hn : ¬ (Fm.cntOk l = true ∧ l.toNat < rest.length)) : Fm.rdWit ls = none := by
 unfold Fm.rdWit
 rw [h]
 simp only
 rw [if_neg hn]
theorem rdWit_no3 {ls r : List (List UInt8)} {p l m : Int} {rest : List Int} (h : Fm.rdLine Fm.kwWitness ls = some (p :: l :: rest, r)) (hn : Fm.cntOk l = true ∧ l.toNat < rest.length) (hm : rest[l.toNat]? = some m) (hc : ¬ (Fm.cntOk m = true ∧ m.toNat = rest.length - (l.toNat + 1))) : Fm.rdWit ls = none := by
 unfold Fm.rdWit
 rw [h]
 simp only
 rw [if_pos hn, hm]
 simp only
 rw [if_neg hc]
theorem rdWit_yes {ls r : List (List UInt8)} {p l m : Int} {rest : List Int} (h : Fm.rdLine Fm.kwWitness ls = some (p :: l :: rest, r)) (hn : Fm.cntOk l = true ∧ l.toNat < rest.length) (hm : rest[l.toNat]? = some m) (hc : Fm.cntOk m = true ∧ m.toNat = rest.length - (l.toNat + 1)) : Fm.rdWit ls = some ((p, rest.take l.toNat, rest.drop (l.toNat + 1)), r) := by
 unfold Fm.rdWit
 rw [h]
 simp only
 rw [if_pos hn, hm]
 simp only
 rw [if_pos hc]
theorem set3_blk (w : World) (n : Nat) (a0 a1 a2 : Value) : ∀ k, k ≠ n → (((w.setCell ⟨n, 0, none⟩ a0).setCell ⟨n, 1, none⟩ a1).setCell ⟨n, 2, none⟩ a2).heap[k]? = w.heap[k]? := fun k hk =>
 (Below.heap_setCell _ ⟨n, 2, none⟩ _ k hk).trans ((Below.heap_setCell _ ⟨n, 1, none⟩ _ k hk).trans (Below.heap_setCell _ ⟨n, 0, none⟩ _ k hk))
theorem set3_size (w : World) (n : Nat) (a0 a1 a2 : Value) : (((w.setCell ⟨n, 0, none⟩ a0).setCell ⟨n, 1, none⟩ a1).setCell ⟨n, 2, none⟩ a2).heap.size = w.heap.size := by simp [World.setCell]
theorem set3_below (w : World) (n B : Nat) (h : B ≤ n) (a0 a1 a2 : Value) : Below B w (((w.setCell ⟨n, 0, none⟩ a0).setCell ⟨n, 1, none⟩ a1).setCell ⟨n, 2, none⟩ a2) :=
 (((Below.refl _ _).setCell (p := ⟨n, 0, none⟩) h _).setCell (p := ⟨n, 1, none⟩) h _).setCell (p := ⟨n, 2, none⟩) h _
/-- A part of a list of numbers. -/
theorem pvals_cell {W : World} {g off : Nat} {l : List Int} (h : RowsAt W g off 1 (pvals l)) {k : Nat} {x : Int} (hk : l[k]? = some x) : W.cell? ⟨g, off + k, none⟩ = some (.int .i64 x) := by
 have := h.c k [.int .i64 x] (by simp [pvals, hk]) 0 _ rfl
 rw [show k * 1 + 0 = k by omega] at this
 exact this
theorem pvals_news {W : World} {g off : Nat} {l : List Int} (h : RowsAt W g off 1 (pvals l)) {s : Nat} {xs : List Int} (hs : ∀ j x, xs[j]? = some x → l[s + j]? = some x) : ∀ (j : Nat) (u : Value), (pflat xs)[j]? = some u → W.cell? ((⟨g, off + s, none⟩ : Addr).add j) = some u := by
 intro j u hu
 have hu' : xs[j]?.map (fun p => Value.int .i64 p) = some u := by simpa [pflat] using hu
 rw [Option.map_eq_some_iff] at hu'
 obtain ⟨x, hx, rfl⟩ := hu'
 have := pvals_cell h (hs j x hx)
 rw [show off + (s + j) = off + s + j by omega] at this
 rw [← this]
 congr 1
 unfold Addr.add
 split <;> simp_all
set_option maxRecDepth 100000 in
set_option maxHeartbeats 8000000 in
theorem witness99 (W : World) (b : Nat) (ls : List (List UInt8)) (tl : List UInt8) (h : RdS W b ls tl) (hL : LibW W) :
  Calls Tryz.prog 99 #[.pointer (some ⟨b, 0, none⟩)] W (RdP b tl WitV W (Fm.rdWit ls)) := by
 generalize hO : Fm.rdWit ls = o
 have HO := Lib.hid hO
 have h8 := h.lo
 have hlt0 := h.lt
 have hb1 : Below W.heap.size W (W.alloc (.cells #[.int .i64 0, .slice none 0 0, .slice none 0 0] 81)) := (Below.refl _ _).alloc (Nat.le_refl _) _
 have HX2 := Lib.hid (Bx.new W [.int .i64 0, .slice none 0 0, .slice none 0 0] 81)
 have HL := Lib.hid (hL.keep hb1)
 have HB := Lib.hid hb1
 have HS := Lib.hid (h.keep hb1)
 have HSZ : Hid ((W.alloc (.cells #[.int .i64 0, .slice none 0 0, .slice none 0 0] 81)).heap.size = W.heap.size + 1) := Lib.hid (by simp)
 clear hb1 h hL hO
 go_enter Tryz.func99, Tryz.ntmps99
 go_upto_region 1 with fail
 generalize (W.alloc (.cells #[.int .i64 0, .slice none 0 0, .slice none 0 0] 81)) = W1 at HX2 HL HB HS HSZ ⊢
 obtain ⟨n2, hn2⟩ : ∃ n, n = W.heap.size := ⟨_, rfl⟩
 have HN2 := Lib.hid hn2
 rw [← hn2] at HX2 HSZ hlt0 ⊢
 clear hn2
 have HC := Lib.hid (line67 W1 b ⟨#[119, 105, 116, 110, 101, 115, 115]⟩ ls tl HS.out HL.out)
 go_wp2_with fail
 refine HC.out.mono ?_
 rintro e W2 h1
 cases hq : Fm.rdLine Fm.kwWitness ls with
 | none =>
  rw [show Fm.rdLine (⟨#[119, 105, 116, 110, 101, 115, 115]⟩ : ByteArray).data.toList ls = none from hq] at h1
  obtain ⟨rfl, hG⟩ := h1.no
  have HG := Lib.hid (grown_trans (grown_of_below HB.out) hG)
  have HOT := Lib.hid (HO.out.symm.trans (rdWit_no1 hq))
  clear h1 hG HC hq
  unfold malP
  go_wp2
  exact ⟨rfl, RdP.mkno HOT.out HG.out⟩
 | some p =>
  obtain ⟨ns, q⟩ := p
  rw [show Fm.rdLine (⟨#[119, 105, 116, 110, 101, 115, 115]⟩ : ByteArray).data.toList ls = some (ns, q) from hq] at h1
  obtain ⟨v, rfl, hN, hS, hG⟩ := h1.yes
  have HG := Lib.hid (grown_trans (grown_of_below HB.out) hG)
  have HIN := Lib.hid (Fm.rdLine_in hq)
  by_cases hn2 : ns.length < 2
  ·obtain ⟨oa, cap, rfl, -, -⟩ := hN.now
   have HOT := Lib.hid (HO.out.symm.trans (rdWit_no hq hn2))
   have hd : decide ((2 : Int) ≤ (ns.length : Int)) = false := decide_eq_false (by omega)
   have hd2 : decide (2 ≤ ns.length) = false := decide_eq_false (by omega)
   have HND := Lib.hid (need_no W2)
   clear h1 hN hS hG HC hq hn2
   go_wp2_with fail
   refine HND.out.mono ?_
   rintro e W3 ⟨rfl, hw3⟩
   subst hw3
   go_wp2
   exact ⟨rfl, RdP.mkno HOT.out HG.out⟩
  ·obtain ⟨p, l, rest, rfl⟩ : ∃ p l rest, ns = p :: l :: rest := by
    match ns, hn2 with
    | [], h => simp at h
    | [_], h => simp at h
    | p :: l :: r, _ => exact ⟨p, l, r, rfl⟩
   obtain ⟨oa, cap, rfl, hcap, hs⟩ := hN.now
   obtain ⟨g, off, rfl, hra⟩ := hs (by simp [pvals])
   have HRA := Lib.hid (fun X (hX : Below W2.heap.size W2 X) => hra.keep hX)
   have x0 := pvals_cell hra (k := 0) rfl
   have x1 := pvals_cell hra (k := 1) rfl
   have glt := hra.lt
   have HQ := Lib.hid hq
   have HS2 := Lib.hid hS
   have HL2 := Lib.hid (HL.out.keepG hG h8)
   have HX22 := Lib.hid (HX2.out.grown hG (by omega))
   have HSZ2 : Hid (n2 + 1 ≤ W2.heap.size) := Lib.hid (by have := HSZ.out; have := hG.size; omega)
   obtain ⟨m, hm⟩ : ∃ m, m = rest.length := ⟨_, rfl⟩
   have hm2 : (p :: l :: rest).length = m + 2 := by rw [hm]; rfl
   rw [hm2] at hcap ⊢
   have HM := Lib.hid hm
   have hms : m ≤ 1048576 := by have := HS.out.line_len hq; rw [hm2] at this; omega
   have HX0 := Lib.hid x0
   have HX1 := Lib.hid x1
   have HSL : Hid (∀ X, Below W2.heap.size W2 X → Sl X (some ⟨g, off, none⟩) 1 (pvals [p])) := Lib.hid (fun X hX _ => ⟨g, off, rfl, Nat.lt_of_lt_of_le glt hX.size, fun i r hi k v hv => by
    have hi' : [p][i]?.map (fun p => [Value.int .i64 p]) = some r := by rw [← hi, pvals, List.getElem?_map]
    rw [Option.map_eq_some_iff] at hi'
    obtain ⟨x, hx, rfl⟩ := hi'
    have hi0 : i = 0 := by rcases Nat.eq_zero_or_pos i with h | h; exact h; rw [List.getElem?_eq_none (by simp; omega)] at hx; cases hx
    have hk0 : k = 0 := by rcases Nat.eq_zero_or_pos k with h | h; exact h; rw [List.getElem?_eq_none (by simp; omega)] at hv; cases hv
    subst hi0 hk0
    simp at hx hv
    subst hx hv
    have := (hX.cell (p := ⟨g, off, none⟩) glt).trans x0
    simpa using this⟩)
   have H77 := Lib.hid (fun X (hX : Below W2.heap.size W2 X) => ints77 X (some ⟨g, off, none⟩) cap [p] (HSL.out X hX) (fun n hn => HIN.out n (by rw [List.mem_singleton] at hn; subst hn; simp)) (by simp))
   have hcc2 : m + 2 ≤ cap := hcap
   have hcc1 : (1 : Int) ≤ (cap : Int) := by omega
   have hcc3 : ((m : Int) + 2) ≤ (cap : Int) := by omega
   have hcc4 : (1 : Int) < (m : Int) + 2 := by omega
   have hcc5 : (2 : Int) ≤ (m : Int) + 2 := by omega
   have hd : decide ((2 : Int) ≤ (m : Int) + 2) = true := decide_eq_true (by omega)
   have HND := Lib.hid (need_yes W2)
   clear h1 hN hS hG hs hra HC HX2 HL HB hq HS x0 x1 hcap hm hm2 hn2
   go_wp2_with fail
   refine HND.out.mono ?_
   rintro e W3 ⟨rfl, hw3⟩
   subst hw3
   clear HND hd
   go_upto_region 3 with fail
   have HP : Hid (∀ X, Below W3.heap.size W3 X → ¬ Fm.cntOk l = true → RdP b tl WitV W o malP X) := Lib.hid (fun X hX hn => RdP.mkno (HO.out.symm.trans (rdWit_no2 HQ.out (fun h => hn h.1))) (grown_call HG.out hX))
   refine wp_region_inv2 (by kernel_rfl) (by kernel_rfl) (fun L a w => ∃ v14 v15 v16 v17 v18 v19 v20 v21 v22 v23 v24 v4 v5 v6 : Value, a = { tmps := #[((Value.pointer (some ⟨b, 0, none⟩))), undef, ((Value.pointer (some ⟨n2, 0, none⟩))), ((Value.slice (some ⟨g, off, none⟩) (m + 2) cap)), v4, v5, v6, undef, ((Value.pointer (some ⟨b, 0, none⟩))), ((Value.slice (some ⟨g, off, none⟩) (m + 2) cap)), ((Value.slice (some ⟨g, off, none⟩) (m + 2) cap)), ((Value.int IntKind.i64 (((m : Nat) : Int) + 2))), ((Value.bool true)), ((Value.tuple #[])), v14, v15, v16, v17, v18, v19, v20, v21, v22, v23, v24, undef, undef, undef, undef, undef, undef, undef, undef, undef, undef, undef, undef, undef, undef, undef, undef, undef, undef, undef, undef, undef, undef, undef, undef, undef, undef], defers := [] } ∧ Wt3K b n2 g off cap m p l W3 L v14 v15 v16 v17 v18 v19 v20 v21 v22 v23 v24 v4 v5 v6 w) ?_ ?_ ?_
   ·exact ⟨_, _, _, _, _, _, _, _, _, _, _, _, _, _, rfl, ⟨below_drew W3 1, nofun, nofun, nofun, nofun, nofun, nofun, nofun, nofun, nofun, nofun, nofun, nofun, nofun, nofun⟩⟩
   ·intro iq oq ho L a w hL hd hJ
    obtain ⟨v14, v15, v16, v17, v18, v19, v20, v21, v22, v23, v24, v4, v5, v6, rfl, k⟩ := hJ
    have hiq : iq < 14 := by have := (Array.getElem?_eq_some_iff.1 ho).1; simpa using this
    match iq, hiq, ho, hL with
    | 0, _, ho, hL =>
     have ho2 := ho
     simp only [qz1, qz2, qz3, qz4] at ho
     subst ho
     refine wpOp_step ho2 (fun K hK => ?_)
     go_simp
     exact hK _ _ ⟨_, _, _, _, _, _, _, _, _, _, _, _, _, _, rfl, ⟨k.wf, fun _ => rfl, k.f1, k.f2, k.f3, k.f4, k.f5, k.f6, k.f7, k.f8, k.f9, k.f10, k.f11, k.f12, k.f13⟩⟩
    | 1, _, ho, hL =>
     have ho2 := ho
     simp only [qz1, qz2, qz3, qz4] at ho
     subst ho
     refine wpOp_step ho2 (fun K hK => ?_)
     obtain rfl := k.f0 (hd ⟨0, .data⟩ (by simp) rfl)
     go_simp
     exact hK _ _ ⟨_, _, _, _, _, _, _, _, _, _, _, _, _, _, rfl, ⟨k.wf, k.f0, fun _ => rfl, k.f2, k.f3, k.f4, k.f5, k.f6, k.f7, k.f8, k.f9, k.f10, k.f11, k.f12, k.f13⟩⟩
    | 2, _, ho, hL =>
     have ho2 := ho
     simp only [qz1, qz2, qz3, qz4] at ho
     subst ho
     refine wpOp_step ho2 (fun K hK => ?_)
     obtain rfl := k.f1 (hd ⟨1, .data⟩ (by simp) rfl)
     have hcall := H77.out w k.wf
     go_simp
     refine hcall.mono ?_
     rintro e X ⟨v', rfl, hN', hb⟩
     exact hK _ _ ⟨_, _, _, _, _, _, _, _, _, _, _, _, _, _, rfl, ⟨below_call k.wf hb, k.f0, k.f1, fun _ => IntAt.of hN'.now, fun h => absurd (hL.symm.trans (k.f3 h).1) (by decide), k.f4, k.f5, k.f6, k.f7, k.f8, k.f9, k.f10, k.f11, k.f12, k.f13⟩⟩
    | 3, _, ho, hL =>
     have ho2 := ho
     simp only [qz1, qz2, qz3, qz4] at ho
     subst ho
     refine wpOp_step ho2 (fun K hK => ?_)
     obtain ⟨gI, oI, cI, rfl, xI, lI⟩ := k.f2 (hd ⟨2, .data⟩ (by simp) rfl)
     have h2 := hd ⟨2, .data⟩ (by simp) rfl
     go_simp
     exact hK _ _ ⟨_, _, _, _, _, _, _, _, _, _, _, _, _, _, rfl, ⟨k.wf, k.f0, k.f1, k.f2, fun _ => ⟨h2, gI, oI, rfl, xI, lI⟩, k.f4, k.f5, k.f6, k.f7, k.f8, k.f9, k.f10, k.f11, k.f12, k.f13⟩⟩
    | 4, _, ho, hL =>
     have ho2 := ho
     simp only [qz1, qz2, qz3, qz4] at ho
     subst ho
     refine wpOp_step ho2 (fun K hK => ?_)
     obtain ⟨h2, gI, oI, rfl, xI, lI⟩ := k.f3 (hd ⟨3, .data⟩ (by simp) rfl)
     go_simp
     exact hK _ _ ⟨_, _, _, _, _, _, _, _, _, _, _, _, _, _, rfl, ⟨k.wf, k.f0, k.f1, k.f2, k.f3, fun _ => rfl, k.f5, k.f6, k.f7, k.f8, k.f9, k.f10, k.f11, k.f12, k.f13⟩⟩
    | 5, _, ho, hL =>
     have ho2 := ho
     simp only [qz1, qz2, qz3, qz4] at ho
     subst ho
     refine wpOp_step ho2 (fun K hK => ?_)
     go_simp
     exact hK _ _ ⟨_, _, _, _, _, _, _, _, _, _, _, _, _, _, rfl, ⟨k.wf, k.f0, k.f1, k.f2, k.f3, k.f4, fun _ => rfl, k.f6, k.f7, k.f8, k.f9, k.f10, k.f11, k.f12, k.f13⟩⟩
    | 6, _, ho, hL =>
     have ho2 := ho
     simp only [qz1, qz2, qz3, qz4] at ho
     subst ho
     refine wpOp_step ho2 (fun K hK => ?_)
     obtain rfl := k.f5 (hd ⟨5, .data⟩ (by simp) rfl)
     go_simp
     exact hK _ _ ⟨_, _, _, _, _, _, _, _, _, _, _, _, _, _, rfl, ⟨k.wf, k.f0, k.f1, k.f2, k.f3, k.f4, k.f5, fun _ => rfl, k.f7, k.f8, k.f9, k.f10, k.f11, k.f12, k.f13⟩⟩
    | 7, _, ho, hL =>
     have ho2 := ho
     simp only [qz1, qz2, qz3, qz4] at ho
     subst ho
     refine wpOp_step ho2 (fun K hK => ?_)
     obtain rfl := k.f6 (hd ⟨6, .data⟩ (by simp) rfl)
     have x1 : w.cell? ⟨g, off + 1, none⟩ = some (.int .i64 l) := (k.wf.cell (p := ⟨g, off + 1, none⟩) glt).trans HX1.out
     have gw : g < w.heap.size := Nat.lt_of_lt_of_le glt k.wf.size
     go_simp
     exact hK _ _ ⟨_, _, _, _, _, _, _, _, _, _, _, _, _, _, rfl, ⟨k.wf, k.f0, k.f1, k.f2, k.f3, k.f4, k.f5, k.f6, fun _ => rfl, k.f8, k.f9, k.f10, k.f11, k.f12, k.f13⟩⟩
    | 8, _, ho, hL =>
     have ho2 := ho
     simp only [qz1, qz2, qz3, qz4] at ho
     subst ho
     refine wpOp_step ho2 (fun K hK => ?_)
     obtain rfl := k.f7 (hd ⟨7, .data⟩ (by simp) rfl)
     by_cases hc : Fm.cntOk l = true
     ·have hcc : Calls Tryz.prog 67 #[.int .i64 l] w (fun e W' => e = .returned (.int .i64 l) ∧ W' = w) := (count64 l w).mono fun e W' h => by rw [if_pos hc] at h; exact h
      go_simp
      refine hcc.mono ?_
      rintro e X ⟨rfl, hX⟩
      subst hX
      exact hK _ _ ⟨_, _, _, _, _, _, _, _, _, _, _, _, _, _, rfl, ⟨k.wf, k.f0, k.f1, k.f2, k.f3, k.f4, k.f5, k.f6, k.f7, fun _ => ⟨hc, rfl⟩, k.f9, k.f10, k.f11, k.f12, k.f13⟩⟩
     ·have hcc : Calls Tryz.prog 67 #[.int .i64 l] w (fun e W' => e = .panicked [{ v := .iface 133 (.agg #[]), recovered := false }] ∧ W' = w) := (count64 l w).mono fun e W' h => by rw [if_neg hc] at h; exact h
      go_simp
      refine hcc.mono ?_
      rintro e X ⟨rfl, hX⟩
      subst hX
      exact ⟨rfl, HP.out _ k.wf hc⟩
    | 9, _, ho, hL =>
     have ho2 := ho
     simp only [qz1, qz2, qz3, qz4] at ho
     subst ho
     refine wpOp_step ho2 (fun K hK => ?_)
     go_simp
     exact hK _ _ ⟨_, _, _, _, _, _, _, _, _, _, _, _, _, _, rfl, ⟨k.wf, k.f0, k.f1, k.f2, k.f3, k.f4, k.f5, k.f6, k.f7, k.f8, fun _ => rfl, k.f10, k.f11, k.f12, k.f13⟩⟩
    | 10, _, ho, hL =>
     have ho2 := ho
     simp only [qz1, qz2, qz3, qz4] at ho
     subst ho
     refine wpOp_step ho2 (fun K hK => ?_)
     obtain rfl := k.f9 (hd ⟨9, .data⟩ (by simp) rfl)
     go_simp
     exact hK _ _ ⟨_, _, _, _, _, _, _, _, _, _, _, _, _, _, rfl, ⟨k.wf, k.f0, k.f1, k.f2, k.f3, k.f4, k.f5, k.f6, k.f7, k.f8, k.f9, fun _ => rfl, k.f11, k.f12, k.f13⟩⟩
    | 11, _, ho, hL =>
     have ho2 := ho
     simp only [qz1, qz2, qz3, qz4] at ho
     subst ho
     refine wpOp_step ho2 (fun K hK => ?_)
     obtain rfl := k.f4 (hd ⟨4, .data⟩ (by simp) rfl)
     go_simp
     exact hK _ _ ⟨_, _, _, _, _, _, _, _, _, _, _, _, _, _, rfl, ⟨k.wf, k.f0, k.f1, k.f2, k.f3, k.f4, k.f5, k.f6, k.f7, k.f8, k.f9, k.f10, fun _ => rfl, k.f12, k.f13⟩⟩
    | 12, _, ho, hL =>
     have ho2 := ho
     simp only [qz1, qz2, qz3, qz4] at ho
     subst ho
     refine wpOp_step ho2 (fun K hK => ?_)
     obtain ⟨_, rfl⟩ := k.f8 (hd ⟨8, .data⟩ (by simp) rfl)
     go_simp
     exact hK _ _ ⟨_, _, _, _, _, _, _, _, _, _, _, _, _, _, rfl, ⟨k.wf, k.f0, k.f1, k.f2, k.f3, k.f4, k.f5, k.f6, k.f7, k.f8, k.f9, k.f10, k.f11, fun _ => rfl, k.f13⟩⟩
    | 13, _, ho, hL =>
     have ho2 := ho
     simp only [qz1, qz2, qz3, qz4] at ho
     subst ho
     refine wpOp_step ho2 (fun K hK => ?_)
     obtain rfl := k.f10 (hd ⟨10, .data⟩ (by simp) rfl)
     go_simp
     exact hK _ _ ⟨_, _, _, _, _, _, _, _, _, _, _, _, _, _, rfl, ⟨k.wf, k.f0, k.f1, k.f2, k.f3, k.f4, k.f5, k.f6, k.f7, k.f8, k.f9, k.f10, k.f11, k.f12, fun _ => rfl⟩⟩
    | n + 14, h, _, _ => omega
   ·intro L a w hL hJ
    obtain ⟨v14, v15, v16, v17, v18, v19, v20, v21, v22, v23, v24, v4, v5, v6, rfl, k⟩ := hJ
    obtain rfl := k.f0 (hL 0 (by decide))
    obtain rfl := k.f1 (hL 1 (by decide))
    obtain rfl := k.f4 (hL 4 (by decide))
    obtain rfl := k.f5 (hL 5 (by decide))
    obtain rfl := k.f6 (hL 6 (by decide))
    obtain rfl := k.f7 (hL 7 (by decide))
    obtain rfl := k.f9 (hL 9 (by decide))
    obtain rfl := k.f10 (hL 10 (by decide))
    obtain rfl := k.f11 (hL 11 (by decide))
    obtain rfl := k.f12 (hL 12 (by decide))
    obtain rfl := k.f13 (hL 13 (by decide))
    obtain ⟨gI, oI, cI, rfl, -, -⟩ := k.f2 (hL 2 (by decide))
    obtain ⟨-, gP, oP, rfl, -, -⟩ := k.f3 (hL 3 (by decide))
    obtain ⟨hcl, rfl⟩ := k.f8 (hL 8 (by decide))
    have HB4 := Lib.hid k.wf
    clear k hL
    obtain ⟨k0, hk0⟩ : ∃ k0 : Nat, l = (k0 : Int) := ⟨l.toNat, (Fm.cnt_nat hcl).symm⟩
    subst hk0
    have hkn : ((k0 : Int)).toNat = k0 := Int.toNat_natCast k0
    have HKN := Lib.hid hkn
    have HCL := Lib.hid hcl
    clear hcl hkn
    by_cases hlt : k0 < m
    ·have hc2 : ¬ cap = 2 := by omega
     rw [if_neg hc2]
     clear hc2
     have hd : decide ((k0 : Int) < (m : Int)) = true := decide_eq_true (by omega)
     have hk4 : ((k0 : Int) + 1) ≤ (m : Int) := by omega
     have HND := Lib.hid (need_yes w)
     go_wp2_with fail
     refine HND.out.mono ?_
     rintro e W5 ⟨rfl, hw5⟩
     subst hw5
     clear HND hd
     go_upto_region 6 with fail
     have HRW := HRA.out W5 HB4.out
     obtain ⟨ad, had, hnw⟩ : ∃ ad : Addr, (if cap - 2 = k0 + 1 then some (⟨g, off + 2, none⟩ : Addr) else some ⟨g, off + 2 + (k0 + 1), none⟩) = some ad ∧ ∀ X, Below W3.heap.size W3 X → ∀ (j : Nat) (u : Value), (pflat (rest.drop (k0 + 1)))[j]? = some u → X.cell? (ad.add j) = some u := by
      by_cases e : cap - 2 = k0 + 1
      ·refine ⟨⟨g, off + 2, none⟩, if_pos e, fun X hX j u hu => ?_⟩
       exfalso
       have h1 := (List.getElem?_eq_some_iff.1 hu).1
       rw [pflat_len, List.length_drop, ← HM.out] at h1
       omega
      ·refine ⟨⟨g, off + 2 + (k0 + 1), none⟩, if_neg e, fun X hX => ?_⟩
       have := pvals_news (HRA.out X hX) (s := 2 + (k0 + 1)) (xs := rest.drop (k0 + 1)) (fun j x hx => by
        rw [List.getElem?_drop] at hx
        rw [show 2 + (k0 + 1) + j = (k0 + 1 + j) + 1 + 1 by omega, List.getElem?_cons_succ, List.getElem?_cons_succ]
        exact hx)
       rw [show off + (2 + (k0 + 1)) = off + 2 + (k0 + 1) by omega] at this
       exact this
     rw [had]
     clear had
     have HNW := Lib.hid hnw
     have HNL := Lib.hid (fun X (hX : Below W3.heap.size W3 X) => pvals_news (HRA.out X hX) (s := 2) (xs := rest.take k0) (fun j x hx => by
      rw [show 2 + j = j + 1 + 1 by omega, List.getElem?_cons_succ, List.getElem?_cons_succ]
      rw [List.getElem?_take] at hx
      split at hx
      ·exact hx
      ·cases hx))
     clear hnw
     obtain ⟨mm, hmm⟩ : ∃ x, rest[k0]? = some x := ⟨_, List.getElem?_eq_getElem (by rw [← HM.out]; exact hlt)⟩
     have xk : W5.cell? ⟨g, off + 2 + k0, none⟩ = some (.int .i64 mm) := by
      have := pvals_cell HRW (k := 2 + k0) (x := mm) (by rw [show 2 + k0 = k0 + 1 + 1 by omega]; exact hmm)
      rw [show off + (2 + k0) = off + 2 + k0 by omega] at this
      exact this
     have glt5 := HRW.lt
     have HMM : Hid (rest[((k0 : Int)).toNat]? = some mm) := Lib.hid (by rw [HKN.out]; exact hmm)
     have HCC : Hid (Fm.cntOk (k0 : Int) = true ∧ ((k0 : Int)).toNat < rest.length) := Lib.hid ⟨HCL.out, by rw [HKN.out, ← HM.out]; exact hlt⟩
     clear HRW hmm
     by_cases hc : Fm.cntOk mm = true
     ·obtain ⟨q0, hq0⟩ : ∃ q0 : Nat, mm = (q0 : Int) := ⟨mm.toNat, (Fm.cnt_nat hc).symm⟩
      subst hq0
      have hcc : Calls Tryz.prog 67 #[.int .i64 (q0 : Int)] W5 (fun e W' => e = .returned (.int .i64 (q0 : Int)) ∧ W' = W5) := (count64 _ W5).mono fun e W' h => by rw [if_pos hc] at h; exact h
      have HQC := Lib.hid hcc
      have HCQ := Lib.hid hc
      clear hcc hc
      obtain ⟨n9, hn9⟩ : ∃ n9, n9 = m - (k0 + 1) := ⟨_, rfl⟩
      have HN9 := Lib.hid hn9
      rw [← hn9]
      by_cases he : q0 = n9
      ·subst he
       clear hn9
       have HND := Lib.hid (need_yes W5)
       go_wp2_with fail
       refine HQC.out.mono ?_
       rintro e W6 ⟨rfl, hw6⟩
       subst hw6
       go_wp2_with fail
       refine HND.out.mono ?_
       rintro e W7 ⟨rfl, hw7⟩
       subst hw7
       clear HND HQC xk glt5
       obtain ⟨i0, hi0, hz0, hz1, hz2⟩ := info_parts info2
       have hqs : q0 ≤ 1048576 := by have := HN9.out; omega
       have htl : (pflat (rest.take k0)).length = k0 * 1 := by rw [pflat_len, List.length_take, ← HM.out]; omega
       have hdl : (pflat (rest.drop (k0 + 1))).length = q0 * 1 := by rw [pflat_len, List.length_drop, ← HM.out, HN9.out]; omega
       have HTL := Lib.hid htl
       have HDL := Lib.hid hdl
       clear htl hdl
       go_wp2_with (at_builtin; refine wpList_append_own_at _ rfl _ _ 68 rfl W7.heap.size 2 i0 (.int .i64 0) 1 8 under42 hi0 hz0 hz1 hz2 rfl (by decide) _ 0 [] rfl (World.ownsRow_nil _ _ _ _) ⟨g, off + 2, none⟩ k0 (cap - 2) (pflat (rest.take k0)) rfl HTL.out ?c1 ?c2 ?c3 ?c4 ?c5 ?_)
       case c1 => exact HNL.out W7 HB4.out
       case c2 => exact pflat_cell _
       case c3 => unfold maxLen; omega
       case c4 => omega
       case c5 => exact Nat.le_refl _
       intro v1 w1 hown1 hgrow1 hn1 hat1
       clear hn1 hat1
       have hb1 := nil_grow hgrow1
       have hbw1 := below_call HB4.out hb1
       obtain ⟨o1, c1, rfl⟩ := own_sl hown1
       have HO1 := Lib.hid hown1
       have HBW1 := Lib.hid hbw1
       have hz17 := hb1.size
       clear hown1 hgrow1 hb1 hbw1
       go_wp2_with (at_builtin; refine wpList_append_own_at _ rfl _ _ 68 rfl w1.heap.size 2 i0 (.int .i64 0) 1 8 under42 hi0 hz0 hz1 hz2 rfl (by decide) _ 0 [] rfl (World.ownsRow_nil _ _ _ _) ad q0 (cap - 2 - (k0 + 1)) (pflat (rest.drop (k0 + 1))) rfl HDL.out ?d1 ?d2 ?d3 ?d4 ?d5 ?_)
       case d1 => exact HNW.out w1 HBW1.out
       case d2 => exact pflat_cell _
       case d3 => unfold maxLen; omega
       case d4 => omega
       case d5 => exact Nat.le_refl _
       intro v2 w2 hown2 hgrow2 hn2 hat2
       clear hn2 hat2
       have hb2 := nil_grow hgrow2
       have hbw2 := below_call HBW1.out hb2
       obtain ⟨o2, c2, rfl⟩ := own_sl hown2
       have HO12 := Lib.hid (own_keep HO1.out hb2)
       have HO2 := Lib.hid hown2
       have hx2 := HX22.out.keep hbw2
       have HBW2 := Lib.hid hbw2
       have hz21 := hb2.size
       clear hown2 hgrow2 hb2 hbw2
       have y0 := hx2.c 0 _ rfl
       have z0 := hx2.f 0
       have y1 := (hx2.putAt 0 (.int .i64 p)).c 1 _ rfl
       have z1 := (hx2.putAt 0 (.int .i64 p)).f 1
       have y2 := ((hx2.putAt 0 (.int .i64 p)).putAt 1 (.slice o1 k0 c1)).c 2 _ rfl
       have z2 := ((hx2.putAt 0 (.int .i64 p)).putAt 1 (.slice o1 k0 c1)).f 2
       have yl := hx2.lt
       have HXF := Lib.hid (((hx2.putAt 0 (.int .i64 p)).putAt 1 (.slice o1 k0 c1)).putAt 2 (.slice o2 q0 c2))
       have HGS := Lib.hid (set3_blk w2 n2 (.int .i64 p) (.slice o1 k0 c1) (.slice o2 q0 c2))
       have HSS := Lib.hid (set3_size w2 n2 (.int .i64 p) (.slice o1 k0 c1) (.slice o2 q0 c2))
       have h22 := HN2.out
       have HGF := Lib.hid (grown_low2 (grown_call HG.out HBW2.out) (set3_below w2 n2 W.heap.size (Nat.le_of_eq h22.symm) (.int .i64 p) (.slice o1 k0 c1) (.slice o2 q0 c2)) (Nat.le_refl _))
       clear hx2 h22
       go_wp2
       generalize ((w2.setCell ⟨n2, 0, none⟩ (.int .i64 p)).setCell ⟨n2, 1, none⟩ (.slice o1 k0 c1)).setCell ⟨n2, 2, none⟩ (.slice o2 q0 c2) = W9 at HXF HGS HSS HGF ⊢
       have c0 := HXF.out.c 0 _ rfl
       have c1' := HXF.out.c 1 _ rfl
       have c2' := HXF.out.c 2 _ rfl
       refine bodyPost_ret (v := .agg #[.int .i64 p, .slice o1 k0 c1, .slice o2 q0 c2]) (by simp [results, Tryz.results99, go_sem, c0, c1', c2']) rfl ?_
       have hOT := HO.out.symm.trans (rdWit_yes HQ.out HCC.out HMM.out ⟨HCQ.out, by rw [Int.toNat_natCast, HKN.out, ← HM.out]; exact HN9.out⟩)
       rw [HKN.out] at hOT
       have hlt1 : (rest.take k0).length = k0 := by rw [List.length_take, ← HM.out]; omega
       have hlt2 : (rest.drop (k0 + 1)).length = q0 := by rw [List.length_drop, ← HM.out, HN9.out]
       have hN2o := HN2.out
       have hs2 := HSZ2.out
       have hb4 := HB4.out.size
       refine RdP.mk (x := (p, rest.take k0, rest.drop (k0 + 1))) hOT (fun W' hW' => ?_) ?_ HGF.out
       ·have hne : ∀ j, W.heap.size + 1 ≤ j → j < w2.heap.size → W'.heap[j]? = w2.heap[j]? := fun j h1 h2 => by
         rw [hW' j ⟨by omega, by rw [HSS.out]; exact h2⟩, HGS.out j (by omega)]
        have q1 := own_blk (W' := W') HO12.out (fun j hj h1 h2 => hne j (by omega) h1)
        have q2 := own_blk (W' := W') HO2.out (fun j hj h1 h2 => hne j (by omega) h1)
        have q1' : W'.ownsRow W7.heap.size 2 1 (.slice o1 (rest.take k0).length c1) (rest.take k0).length (pflat (rest.take k0)) := by rw [hlt1]; exact q1
        have q2' : W'.ownsRow w1.heap.size 2 1 (.slice o2 (rest.drop (k0 + 1)).length c2) (rest.drop (k0 + 1)).length (pflat (rest.drop (k0 + 1))) := by rw [hlt2]; exact q2
        obtain ⟨o1', c1', e1, s1⟩ := own_nums q1'
        obtain ⟨o2', c2', e2, s2⟩ := own_nums q2'
        injection e1 with e1 _ _
        injection e2 with e2 _ _
        subst e1 e2
        exact ⟨o1, c1, o2, c2, by simp only [hlt1, hlt2], s1, s2⟩
       ·obtain ⟨⟨s, hs1, hs2, hs3⟩, hs4⟩ := HS2.out.keep HBW2.out
        exact ⟨⟨s, ⟨(HGS.out b (by omega)).trans hs1.h⟩, hs2, hs3⟩, hs4⟩
      ·clear hn9
       have hb1 : ((q0 : Int) == (n9 : Int)) = false := by rw [beq_eq_false_iff_ne]; intro h; exact he (by omega)
       have hb2 : decide (q0 = n9) = false := decide_eq_false he
       have HND := Lib.hid (need_no W5)
       have HOT := Lib.hid (HO.out.symm.trans (rdWit_no3 HQ.out HCC.out HMM.out (fun h => he (by have := h.2; rw [Int.toNat_natCast, HKN.out, ← HM.out] at this; rw [this, HN9.out]))))
       have HGF := Lib.hid (grown_call HG.out HB4.out)
       go_wp2_with fail
       refine HQC.out.mono ?_
       rintro e W6 ⟨rfl, hw6⟩
       subst hw6
       go_wp2_with fail
       refine HND.out.mono ?_
       rintro e W7 ⟨rfl, hw7⟩
       subst hw7
       go_wp2
       exact ⟨rfl, RdP.mkno HOT.out HGF.out⟩
     ·have hcc : Calls Tryz.prog 67 #[.int .i64 mm] W5 (fun e W' => e = .panicked [{ v := .iface 133 (.agg #[]), recovered := false }] ∧ W' = W5) := (count64 mm W5).mono fun e W' h => by rw [if_neg hc] at h; exact h
      have HQC := Lib.hid hcc
      have HOT := Lib.hid (HO.out.symm.trans (rdWit_no3 HQ.out HCC.out HMM.out (fun h => hc h.1)))
      have HGF := Lib.hid (grown_call HG.out HB4.out)
      clear hcc hc
      go_wp2_with fail
      refine HQC.out.mono ?_
      rintro e W6 ⟨rfl, hw6⟩
      subst hw6
      go_wp2
      exact ⟨rfl, RdP.mkno HOT.out HGF.out⟩
    ·have hd : decide ((k0 : Int) < (m : Int)) = false := decide_eq_false (by omega)
     have hd2 : decide (k0 < m) = false := decide_eq_false hlt
     have HND := Lib.hid (need_no w)
     generalize (if cap = 2 then some (⟨g, off, none⟩ : Addr) else some ⟨g, off + 2, none⟩) = rv
     have HOT := Lib.hid (HO.out.symm.trans (rdWit_no2 HQ.out (fun h => by have := h.2; rw [HKN.out, ← HM.out] at this; omega)))
     have HGF := Lib.hid (grown_call HG.out HB4.out)
     go_wp2_with fail
     refine HND.out.mono ?_
     rintro e W5 ⟨rfl, hw5⟩
     subst hw5
     go_wp2
     exact ⟨rfl, RdP.mkno HOT.out HGF.out⟩
end Go.Proofs.Ng
end

