/-
  Texts put together: Ch Ci.
-/
import Derived.Test.YtlpcihfkkgifkaaGreatDoorZFormatTrajectoriesCard9
import Derived.Defers
import Derived.Recover
set_option linter.unusedVariables false
section
/-
  Walks: ParsePath.
-/
namespace Go.Proofs.Ng
open Go.RowKit

/-- The first error of a text that should be of a kind. -/
def openN (s : List UInt8) (k : Nat) : Int := if 1048576 < s.length then 4301 else if kindN s = k then 0 else 4302
set_option maxRecDepth 100000 in
set_option maxHeartbeats 2000000 in
theorem opening37 (s : ByteArray) (k : Nat) (W : World) (hs : s.size ≤ 9223372036854775807) : Calls Tryz.prog 37 #[.string s, .int .i64 (k : Nat)] W (fun e W' => e = .returned (.int .i64 (openN s.data.toList k)) ∧ W' = W) := by
  have hsz : s.data.toList.length = s.size := by rw [Array.length_toList]; rfl
  unfold openN
  rw [hsz]
  have HK := Lib.hid (kind11 s W)
  clear hsz
  by_cases h1 : 1048576 < s.size
  · rw [if_pos h1]
    have hd : decide ((1048576 : Int) < (s.size : Int)) = true := decide_eq_true (by omega)
    go_enter Tryz.func37, Tryz.ntmps37
    go_wp2
    go_ret
    exact ⟨rfl, rfl⟩
  · rw [if_neg h1]
    have hd : decide ((1048576 : Int) < (s.size : Int)) = false := decide_eq_false (by omega)
    by_cases h2 : kindN s.data.toList = k
    · rw [if_pos h2]
      rw [h2] at HK
      have hq : ((k : Int) != (k : Int)) = false := by simp
      clear h2
      go_enter Tryz.func37, Tryz.ntmps37
      go_wp2_with fail
      refine HK.out.mono ?_
      rintro e X ⟨rfl, hX⟩
      subst hX
      go_wp2
      go_ret
      exact ⟨rfl, rfl⟩
    · rw [if_neg h2]
      have hq : ((kindN s.data.toList : Int) != (k : Int)) = true := by simp; omega
      generalize kindN s.data.toList = j at HK hq
      clear h2
      go_enter Tryz.func37, Tryz.ntmps37
      go_wp2_with fail
      refine HK.out.mono ?_
      rintro e X ⟨rfl, hX⟩
      subst hX
      go_wp2
      go_ret
      exact ⟨rfl, rfl⟩
theorem catch38_idle (p q : Addr) (w : World) :
    CallsD Tryz.prog 38 #[.pointer (some p), .pointer (some q)] .returning w fun e u' w' => e = .returned (.tuple #[]) ∧ u' = .returning ∧ w' = w := by
  refine callsD_of_wpS Tryz.func38 rfl fun c₀ cs hu => ?_
  apply wpS_seq
  apply wpS_region
  simp [wpOpsS, go_sem, recoverD, hu, Tryz.ntmps38, Exit.thenS]
  refine wpS_cond (t := false) (by simp [Act.eval, Array.replicate]) ?_
  simp only [Bool.false_eq_true, if_false]
  refine wpS_of_wp (wp_skip ?_)
  cases c₀
  simp_all [bodyPostS, results, Tryz.results38]
theorem Bx.other {W : World} {n b : Nat} {cs : List Value} {ty : TypeId} (h : Bx W n cs ty) (hne : n ≠ b) (i : Nat) (v : Value) : Bx (W.setCell ⟨b, i, none⟩ v) n cs ty := ⟨(Below.heap_setCell W ⟨b, i, none⟩ v n hne).trans h.h⟩
set_option maxRecDepth 100000 in
set_option maxHeartbeats 2000000 in
theorem catch38_panic (b2 b3 : Nat) (x y : Value) (n : Int) (older : List PanicEntry) (w : World) (h2 : Bx w b2 [x, y] 25) (h3 : Bx w b3 [.int .i64 n] 30) (hne : b3 ≠ b2) :
    CallsD Tryz.prog 38 #[.pointer (some ⟨b2, 0, none⟩), .pointer (some ⟨b3, 0, none⟩)] (.panicking ({ v := .iface 117 (.agg #[]), recovered := false } :: older)) w fun e u' w' =>
      e = .returned (.tuple #[]) ∧ u' = .panicking ({ v := .iface 117 (.agg #[]), recovered := true } :: older) ∧ w' = ((w.setCell ⟨b2, 0, none⟩ (.slice none 0 0)).setCell ⟨b2, 1, none⟩ (.slice none 0 0)).setCell ⟨b3, 0, none⟩ (.int .i64 4301) := by
  have c0 := h2.c 0 _ rfl
  have c1 := h2.c 1 _ rfl
  have f0 := h2.f 0
  have f1 := h2.f 1
  have l2 := h2.lt
  have hA := h2.put1 (.slice none 0 0)
  have c1A := hA.c 1 _ rfl
  have f1A := hA.f 1
  have h3B : Bx ((w.setCell ⟨b2, 0, none⟩ (.slice none 0 0)).setCell ⟨b2, 1, none⟩ (.slice none 0 0)) b3 [.int .i64 n] 30 := (h3.other hne 0 _).other hne 1 _
  have d0B := h3B.c 0 _ rfl
  have e0B := h3B.f 0
  refine callsD_of_wpS Tryz.func38 rfl fun c₀ cs hu => ?_
  apply wpS_seq
  apply wpS_region
  simp [wpOpsS, go_sem, recoverD, hu, Tryz.ntmps38, Exit.thenS]
  refine wpS_cond (t := true) (by simp [Act.eval, Array.replicate]) ?_
  simp only [if_true]
  apply wpS_region
  simp [wpOpsS, go_sem, c0, c1, f0, f1, l2, c1A, f1A, d0B, e0B, bodyPostS, results, Tryz.results38]
/-- What the code's reader answers: the path and the error. -/
def parseRes (s : List UInt8) : Fm.PathD × Int := if 1048576 < s.length then (⟨[], []⟩, 4301) else if kindN s = 1 then (match Fm.parseP s with | some p => (p, 0) | none => (⟨[], []⟩, 4301)) else (⟨[], []⟩, 4302)
/-- A value and an error. -/
def ParP {A : Type} (V : Value → A → World → Prop) (x : A × Int) (W : World) (e : Ending) (W' : World) : Prop := ∃ v, e = .returned (.tuple #[v, .int .i64 x.2]) ∧ New W.heap.size W' (V v x.1) ∧ Below W.heap.size W W'
theorem pathV_nil (W : World) : PathV (.agg #[.slice none 0 0, .slice none 0 0]) ⟨[], []⟩ W := ⟨none, 0, none, 0, rfl, ⟨[], rfl, fun h => absurd rfl h, fun k r x h => by simp at h⟩, ⟨[], rfl, fun h => absurd rfl h, fun k r x h => by simp at h⟩⟩
theorem fin17 {X W : World} {n : Nat} {a c : Value} {code : Int} {res : Fm.PathD × Int} {p : Fm.PathD} (h2 : Bx X n [a, c] 25) (h3 : Bx X (n + 1) [.int .i64 code] 30) (hr : res = (p, code)) (hV : New W.heap.size X (PathV (.agg #[a, c]) p)) (hb : Below W.heap.size W X) :
    X.cell? ⟨n, 0, none⟩ = some a ∧ X.cell? ⟨n, 1, none⟩ = some c ∧ X.cell? ⟨n + 1, 0, none⟩ = some (.int .i64 code) ∧ ParP PathV res W (.returned (.tuple #[.agg #[a, c], .int .i64 code])) X := by
  subst hr
  exact ⟨h2.c 0 _ rfl, h2.c 1 _ rfl, h3.c 0 _ rfl, _, rfl, hV, hb⟩
set_option maxRecDepth 100000 in
set_option maxHeartbeats 8000000 in
theorem parsePath17 (s : ByteArray) (W : World) (hs : s.size ≤ 9223372036854775807) (hL : LibW W) : Calls Tryz.prog 17 #[.string s] W (ParP PathV (parseRes s.data.toList) W) := by
  have hmf : ∀ (fn : Fn) (first cap : Array Value) (w : World), (Instr.makeFunc fn first cap).run Tryz.prog w = .ok (.func fn first cap) w := fun _ _ _ _ => rfl
  generalize hR : parseRes s.data.toList = res
  unfold parseRes at hR
  have hsz : s.data.toList.length = s.size := by rw [Array.length_toList]; rfl
  have hb1 : Below W.heap.size W ((W.alloc (.cells #[.slice none 0 0, .slice none 0 0] 25)).alloc (.cells #[.int .i64 0] 30)) := ((Below.refl _ _).alloc (Nat.le_refl _) _).alloc (by simp) _
  have hz : ((W.alloc (.cells #[.slice none 0 0, .slice none 0 0] 25)).alloc (.cells #[.int .i64 0] 30)).heap.size = W.heap.size + 2 := by simp
  have hsz1 : (W.alloc (.cells #[.slice none 0 0, .slice none 0 0] 25)).heap.size = W.heap.size + 1 := by simp
  have HX2 := Lib.hid ((Bx.new W [.slice none 0 0, .slice none 0 0] 25).keep ((Below.refl _ (W.alloc (.cells #[.slice none 0 0, .slice none 0 0] 25))).alloc (Nat.le_refl _) (.cells #[.int .i64 0] 30)))
  have HX3 := Lib.hid (Bx.new (W.alloc (.cells #[.slice none 0 0, .slice none 0 0] 25)) [.int .i64 0] 30)
  rw [hsz1] at HX3
  have HL := Lib.hid (hL.keep hb1)
  have HB := Lib.hid hb1
  have HZ := Lib.hid hz
  have HS8 : Hid (8 ≤ W.heap.size) := Lib.hid hL.gt
  clear hb1 hz hsz1 hL
  go_enter_defers Tryz.func17, Tryz.ntmps17
  go_wp2_with fail
  generalize ((W.alloc (.cells #[.slice none 0 0, .slice none 0 0] 25)).alloc (.cells #[.int .i64 0] 30)) = W1 at HX2 HX3 HL HB HZ ⊢
  obtain ⟨n2, hn2⟩ : ∃ n, n = W.heap.size := ⟨_, rfl⟩
  have HN2 := Lib.hid hn2
  rw [← hn2] at HX2 HX3 HZ HS8 ⊢
  clear hn2
  refine (opening37 s 1 W1 hs).mono ?_
  rintro e W2 ⟨rfl, hw⟩
  subst hw
  unfold openN
  rw [hsz]
  by_cases h1 : 1048576 < s.size
  · rw [if_pos h1]
    rw [hsz, if_pos h1] at hR
    have HR := Lib.hid hR
    clear hR h1
    have c0 := HX2.out.c 0 _ rfl
    have c1 := HX2.out.c 1 _ rfl
    have f0 := HX2.out.f 0
    have f1 := HX2.out.f 1
    have l2 := HX2.out.lt
    have hA := HX2.out.put1 (.slice none 0 0)
    have c1A := hA.c 1 _ rfl
    have f1A := hA.f 1
    have hne : n2 + 1 ≠ n2 := by omega
    have h3B := (HX3.out.other hne 0 (.slice none 0 0)).other hne 1 (.slice none 0 0)
    have d0B := h3B.c 0 _ rfl
    have e0B := h3B.f 0
    clear hA h3B
    go_wp2
    have HF := Lib.hid (fin17 (X := ((W2.setCell ⟨n2, 0, none⟩ (.slice none 0 0)).setCell ⟨n2, 1, none⟩ (.slice none 0 0)).setCell ⟨n2 + 1, 0, none⟩ (.int .i64 4301)) (n := n2) (W := W) (res := res) (p := ⟨[], []⟩) (code := 4301) ((((HX2.out.put1 _).put2 _).other (by omega) 0 _)) (((HX3.out.other hne 0 _).other hne 1 _).put _) HR.out.symm (fun X _ => pathV_nil X) (((HB.out.setCell (p := ⟨n2, 0, none⟩) (Nat.le_of_eq HN2.out.symm) _).setCell (p := ⟨n2, 1, none⟩) (Nat.le_of_eq HN2.out.symm) _).setCell (p := ⟨n2 + 1, 0, none⟩) (by have := HN2.out; show W.heap.size ≤ n2 + 1; omega) _))
    clear c0 c1 f0 f1 l2 c1A f1A d0B e0B
    generalize ((W2.setCell ⟨n2, 0, none⟩ (.slice none 0 0)).setCell ⟨n2, 1, none⟩ (.slice none 0 0)).setCell ⟨n2 + 1, 0, none⟩ (.int .i64 4301) = X at HF ⊢
    obtain ⟨c0, c1, d0, hP⟩ := HF.out
    simp [bodyPostD, Leaves, settle, results, Tryz.results17, go_sem, c0, c1, d0]
    exact hP
  · rw [if_neg h1]
    rw [hsz, if_neg h1] at hR
    by_cases hk : kindN s.data.toList = 1
    · rw [if_pos hk]
      rw [if_pos hk, Fm.parseP_R] at hR
      have HR := Lib.hid hR
      clear hR hk
      have hb5 : Below W2.heap.size W2 (W2.alloc (.cells #[.string s] 79)) := (Below.refl _ _).alloc (Nat.le_refl _) _
      have HS : Hid (RdS (W2.alloc (.cells #[.string s] 79)) W2.heap.size (Fm.linesT s.data.toList).1 (Fm.linesT s.data.toList).2) := Lib.hid ⟨⟨s, Bx.new W2 [.string s] 79, rfl, by omega⟩, by have := HZ.out; have := HS8.out; omega⟩
      have HX25 := Lib.hid (HX2.out.keep hb5)
      have HX35 := Lib.hid (HX3.out.keep hb5)
      have HL5 := Lib.hid (HL.out.keep hb5)
      have HB5 := Lib.hid (below_call HB.out hb5)
      clear hb5
      go_wp2_with fail
      have hbn : n2 + 2 ≤ W2.heap.size := by have := HZ.out; omega
      generalize W2.alloc (.cells #[.string s] 79) = W3 at HS HX25 HX35 HL5 HB5 ⊢
      generalize W2.heap.size = b at HS hbn ⊢
      have HC := Lib.hid (path39 W3 b _ _ HS.out HL5.out)
      refine HC.out.mono ?_
      rintro e W4 h4
      cases hq : Fm.rdPathR (Fm.linesT s.data.toList).1 with
      | none =>
        rw [hq] at h4
        have HRN : Hid (res = (⟨[], []⟩, 4301)) := Lib.hid (by rw [← HR.out, hq])
        obtain ⟨rfl, hG⟩ := h4.no
        have hx2 := HX25.out.grown hG (by omega)
        have hx3 := HX35.out.grown hG (by omega)
        have HB6 : Hid (Below W.heap.size W W4) := Lib.hid (HB5.out.trans ⟨hG.os, hG.tape, hG.output, hG.size, fun k hk => hG.block k (Nat.lt_of_lt_of_le hk HB5.out.size) (fun e => by have := HN2.out; injection e with e; omega)⟩)
        clear h4 hG HC hq
        unfold malP
        go_wp2
        refine leaves_cons (f := 38) (args := #[.pointer (some ⟨n2, 0, none⟩), .pointer (some ⟨n2 + 1, 0, none⟩)]) (by simp) (by simp [go_sem]) ?_
        refine (catch38_panic n2 (n2 + 1) _ _ _ [] W4 hx2 hx3 (by omega)).mono ?_
        rintro e u' w'' ⟨rfl, rfl, rfl⟩
        have HF := Lib.hid (fin17 (X := ((W4.setCell ⟨n2, 0, none⟩ (.slice none 0 0)).setCell ⟨n2, 1, none⟩ (.slice none 0 0)).setCell ⟨n2 + 1, 0, none⟩ (.int .i64 4301)) (n := n2) (W := W) (res := res) (p := ⟨[], []⟩) (code := 4301) ((((hx2.put1 _).put2 _).other (b := n2 + 1) (by omega) 0 _)) (((hx3.other (b := n2) (by omega) 0 _).other (b := n2) (by omega) 1 _).put _) HRN.out (fun X _ => pathV_nil X) (((HB6.out.setCell (p := ⟨n2, 0, none⟩) (Nat.le_of_eq HN2.out.symm) _).setCell (p := ⟨n2, 1, none⟩) (Nat.le_of_eq HN2.out.symm) _).setCell (p := ⟨n2 + 1, 0, none⟩) (by have := HN2.out; show W.heap.size ≤ n2 + 1; omega) _))
        clear hx2 hx3
        generalize ((W4.setCell ⟨n2, 0, none⟩ (.slice none 0 0)).setCell ⟨n2, 1, none⟩ (.slice none 0 0)).setCell ⟨n2 + 1, 0, none⟩ (.int .i64 4301) = X at HF ⊢
        obtain ⟨c0, c1, d0, hP⟩ := HF.out
        simp [Leaves, settle, results, Tryz.results17, go_sem, c0, c1, d0]
        exact hP
      | some pr =>
        obtain ⟨p, r⟩ := pr
        rw [hq] at h4
        obtain ⟨v, rfl, hN, hS, hG⟩ := h4.yes
        obtain ⟨op, np, oe, ne, rfl, -, -⟩ := hN.now
        have hx2 := HX25.out.grown hG (by omega)
        have hx3 := HX35.out.grown hG (by omega)
        have HB4 : Hid (Below W.heap.size W W4) := Lib.hid (HB5.out.trans ⟨hG.os, hG.tape, hG.output, hG.size, fun k hk => hG.block k (Nat.lt_of_lt_of_le hk HB5.out.size) (fun e => by have := HN2.out; injection e with e; omega)⟩)
        have HNW := Lib.hid hN
        have HLW := Lib.hid (HL5.out.keepG hG (by have := HS8.out; omega))
        have HS4 : Hid (RdS ((W4.setCell ⟨n2, 0, none⟩ (.slice op p.pts.length np)).setCell ⟨n2, 1, none⟩ (.slice oe p.edges.length ne)) b r (Fm.linesT s.data.toList).2) := Lib.hid ((hS.other (n := n2) _ (by omega)).other (n := n2) _ (by omega))
        have HX26 := Lib.hid ((hx2.put1 (.slice op p.pts.length np)).put2 (.slice oe p.edges.length ne))
        have HX36 := Lib.hid ((hx3.other (b := n2) (by omega) 0 (.slice op p.pts.length np)).other (b := n2) (by omega) 1 (.slice oe p.edges.length ne))
        have HW3 := Lib.hid hG.size
        have HBT := Lib.hid HS.out.lt
        have HLE : Hid (n2 + 2 ≤ W3.heap.size) := Lib.hid HX35.out.lt
        have c0 := hx2.c 0 _ rfl
        have c1 := hx2.c 1 _ rfl
        have f0 := hx2.f 0
        have f1 := hx2.f 1
        have l2 := hx2.lt
        have hA := hx2.put1 (.slice op p.pts.length np)
        have c1A := hA.c 1 _ rfl
        have f1A := hA.f 1
        clear h4 hN hS hG HC hx2 hx3 hA
        go_wp2_with fail
        have hbel : Below n2 W4 ((W4.setCell ⟨n2, 0, none⟩ (.slice op p.pts.length np)).setCell ⟨n2, 1, none⟩ (.slice oe p.edges.length ne)) := (((Below.refl _ _).setCell (p := ⟨n2, 0, none⟩) (Nat.le_refl _) _).setCell (p := ⟨n2, 1, none⟩) (Nat.le_refl _) _)
        have hblk : ∀ k, k ≠ n2 → ((W4.setCell ⟨n2, 0, none⟩ (.slice op p.pts.length np)).setCell ⟨n2, 1, none⟩ (.slice oe p.edges.length ne)).heap[k]? = W4.heap[k]? := fun k hk => (Below.heap_setCell _ ⟨n2, 1, none⟩ _ k hk).trans (Below.heap_setCell _ ⟨n2, 0, none⟩ _ k hk)
        have HL6 := Lib.hid (HLW.out.low (hbel.mono HS8.out))
        have HBL := Lib.hid hblk
        have HB6 : Hid (Below W.heap.size W ((W4.setCell ⟨n2, 0, none⟩ (.slice op p.pts.length np)).setCell ⟨n2, 1, none⟩ (.slice oe p.edges.length ne))) := Lib.hid (HB4.out.trans (hbel.mono (Nat.le_of_eq HN2.out.symm)))
        have hsz6 : ((W4.setCell ⟨n2, 0, none⟩ (.slice op p.pts.length np)).setCell ⟨n2, 1, none⟩ (.slice oe p.edges.length ne)).heap.size = W4.heap.size := by simp [World.setCell]
        have HSZ6 := Lib.hid hsz6
        clear hbel hblk c0 c1 f0 f1 l2 c1A f1A hsz6
        generalize ((W4.setCell ⟨n2, 0, none⟩ (.slice op p.pts.length np)).setCell ⟨n2, 1, none⟩ (.slice oe p.edges.length ne)) = W6 at HS4 HX26 HX36 HL6 HBL HB6 HSZ6 ⊢
        refine (finish40 W6 b r _ HS4.out HL6.out).mono ?_
        rintro e W7 ⟨he, hG7⟩
        have hx2 := HX26.out.grown hG7 (by omega)
        have hx3 := HX36.out.grown hG7 (by omega)
        cases hend : Fm.rdEnd r (Fm.linesT s.data.toList).2 with
        | false =>
          rw [hend] at he
          have HRN : Hid (res = (⟨[], []⟩, 4301)) := Lib.hid (by rw [← HR.out, hq]; simp only; rw [hend]; rfl)
          have HB4 := HB6
          have HB6 : Hid (Below W.heap.size W W7) := Lib.hid (HB4.out.trans ⟨hG7.os, hG7.tape, hG7.output, hG7.size, fun k hk => hG7.block k (Nat.lt_of_lt_of_le hk HB4.out.size) (fun e => by have := HN2.out; injection e with e; omega)⟩)
          simp only [Bool.false_eq_true, if_false] at he
          subst he
          clear hG7 hend hq
          unfold malP
          go_wp2
          refine leaves_cons (f := 38) (args := #[.pointer (some ⟨n2, 0, none⟩), .pointer (some ⟨n2 + 1, 0, none⟩)]) (by simp) (by simp [go_sem]) ?_
          refine (catch38_panic n2 (n2 + 1) _ _ _ [] W7 hx2 hx3 (by omega)).mono ?_
          rintro e u' w'' ⟨rfl, rfl, rfl⟩
          have HF := Lib.hid (fin17 (X := ((W7.setCell ⟨n2, 0, none⟩ (.slice none 0 0)).setCell ⟨n2, 1, none⟩ (.slice none 0 0)).setCell ⟨n2 + 1, 0, none⟩ (.int .i64 4301)) (n := n2) (W := W) (res := res) (p := ⟨[], []⟩) (code := 4301) ((((hx2.put1 _).put2 _).other (b := n2 + 1) (by omega) 0 _)) (((hx3.other (b := n2) (by omega) 0 _).other (b := n2) (by omega) 1 _).put _) HRN.out (fun X _ => pathV_nil X) (((HB6.out.setCell (p := ⟨n2, 0, none⟩) (Nat.le_of_eq HN2.out.symm) _).setCell (p := ⟨n2, 1, none⟩) (Nat.le_of_eq HN2.out.symm) _).setCell (p := ⟨n2 + 1, 0, none⟩) (by have := HN2.out; show W.heap.size ≤ n2 + 1; omega) _))
          clear hx2 hx3
          generalize ((W7.setCell ⟨n2, 0, none⟩ (.slice none 0 0)).setCell ⟨n2, 1, none⟩ (.slice none 0 0)).setCell ⟨n2 + 1, 0, none⟩ (.int .i64 4301) = X at HF ⊢
          obtain ⟨c0, c1, d0, hP⟩ := HF.out
          simp [Leaves, settle, results, Tryz.results17, go_sem, c0, c1, d0]
          exact hP
        | true =>
          rw [hend] at he
          simp only [if_true] at he
          subst he
          have HRN : Hid (res = (p, 0)) := Lib.hid (by rw [← HR.out, hq]; simp only; rw [hend]; rfl)
          have HB7 : Hid (Below W.heap.size W W7) := Lib.hid (HB6.out.trans ⟨hG7.os, hG7.tape, hG7.output, hG7.size, fun k hk => hG7.block k (Nat.lt_of_lt_of_le hk HB6.out.size) (fun e => by have := HN2.out; injection e with e; omega)⟩)
          have HN7 : Hid (∀ X : World, (∀ k, k ≠ n2 → k ≠ n2 + 1 → W.heap.size ≤ k → k < W7.heap.size → X.heap[k]? = W7.heap[k]?) → PathV (.agg #[.slice op p.pts.length np, .slice oe p.edges.length ne]) p X) := Lib.hid (fun X hX => HNW.out X fun k hk => by
            have h1 := hk.1; have h2 := hk.2
            have h3 := HLE.out
            have h4 : k < W6.heap.size := by rw [HSZ6.out]; exact h2
            rw [hX k (by omega) (by omega) (by have := HB5.out.size; omega) (Nat.lt_of_lt_of_le h4 hG7.size), hG7.block k h4 (fun e => by have h5 := HBT.out; injection e with e; omega), HBL.out k (by omega)])
          clear hG7 hend hq
          have c0 := hx2.c 0 _ rfl
          have c1 := hx2.c 1 _ rfl
          have f0 := hx2.f 0
          have f1 := hx2.f 1
          have l2 := hx2.lt
          have hA := hx2.put1 (.slice op p.pts.length np)
          have c1A := hA.c 1 _ rfl
          have f1A := hA.f 1
          have hB := (hx3.other (b := n2) (by omega) 0 (.slice op p.pts.length np)).other (b := n2) (by omega) 1 (.slice oe p.edges.length ne)
          have d0 := hB.c 0 _ rfl
          have g0 := hB.f 0
          clear hA hB
          go_wp2
          have HF := Lib.hid (fin17 (X := ((W7.setCell ⟨n2, 0, none⟩ (.slice op p.pts.length np)).setCell ⟨n2, 1, none⟩ (.slice oe p.edges.length ne)).setCell ⟨n2 + 1, 0, none⟩ (.int .i64 0)) (n := n2) (W := W) (res := res) (p := p) (code := 0) ((((hx2.put1 _).put2 _).other (b := n2 + 1) (by omega) 0 _)) (((hx3.other (b := n2) (by omega) 0 _).other (b := n2) (by omega) 1 _).put _) HRN.out (fun X hX => HN7.out X fun k h1 h2 h5 h3 => by
            rw [hX k ⟨h5, by simp [World.setCell]; exact h3⟩]
            exact (Below.heap_setCell _ ⟨n2 + 1, 0, none⟩ _ k h2).trans ((Below.heap_setCell _ ⟨n2, 1, none⟩ _ k h1).trans (Below.heap_setCell _ ⟨n2, 0, none⟩ _ k h1))) (((HB7.out.setCell (p := ⟨n2, 0, none⟩) (Nat.le_of_eq HN2.out.symm) _).setCell (p := ⟨n2, 1, none⟩) (Nat.le_of_eq HN2.out.symm) _).setCell (p := ⟨n2 + 1, 0, none⟩) (by have := HN2.out; show W.heap.size ≤ n2 + 1; omega) _))
          clear hx2 hx3 c0 c1 f0 f1 l2 c1A f1A d0 g0
          generalize ((W7.setCell ⟨n2, 0, none⟩ (.slice op p.pts.length np)).setCell ⟨n2, 1, none⟩ (.slice oe p.edges.length ne)).setCell ⟨n2 + 1, 0, none⟩ (.int .i64 0) = X at HF ⊢
          refine leaves_cons (f := 38) (args := #[.pointer (some ⟨n2, 0, none⟩), .pointer (some ⟨n2 + 1, 0, none⟩)]) (by simp) (by simp [go_sem]) ?_
          refine (catch38_idle ⟨n2, 0, none⟩ ⟨n2 + 1, 0, none⟩ X).mono ?_
          rintro e u' w'' ⟨rfl, rfl, rfl⟩
          obtain ⟨c0, c1, d0, hP⟩ := HF.out
          simp [Leaves, settle, results, Tryz.results17, go_sem, c0, c1, d0]
          exact hP
    · rw [if_neg hk]
      rw [if_neg hk] at hR
      have HR := Lib.hid hR
      clear hR hk
      have c0 := HX2.out.c 0 _ rfl
      have c1 := HX2.out.c 1 _ rfl
      have f0 := HX2.out.f 0
      have f1 := HX2.out.f 1
      have l2 := HX2.out.lt
      have hA := HX2.out.put1 (.slice none 0 0)
      have c1A := hA.c 1 _ rfl
      have f1A := hA.f 1
      have hne : n2 + 1 ≠ n2 := by omega
      have h3B := (HX3.out.other hne 0 (.slice none 0 0)).other hne 1 (.slice none 0 0)
      have d0B := h3B.c 0 _ rfl
      have e0B := h3B.f 0
      clear hA h3B
      go_wp2
      have HF := Lib.hid (fin17 (X := ((W2.setCell ⟨n2, 0, none⟩ (.slice none 0 0)).setCell ⟨n2, 1, none⟩ (.slice none 0 0)).setCell ⟨n2 + 1, 0, none⟩ (.int .i64 4302)) (n := n2) (W := W) (res := res) (p := ⟨[], []⟩) (code := 4302) ((((HX2.out.put1 _).put2 _).other (by omega) 0 _)) (((HX3.out.other hne 0 _).other hne 1 _).put _) HR.out.symm (fun X _ => pathV_nil X) (((HB.out.setCell (p := ⟨n2, 0, none⟩) (Nat.le_of_eq HN2.out.symm) _).setCell (p := ⟨n2, 1, none⟩) (Nat.le_of_eq HN2.out.symm) _).setCell (p := ⟨n2 + 1, 0, none⟩) (by have := HN2.out; show W.heap.size ≤ n2 + 1; omega) _))
      clear c0 c1 f0 f1 l2 c1A f1A d0B e0B
      generalize ((W2.setCell ⟨n2, 0, none⟩ (.slice none 0 0)).setCell ⟨n2, 1, none⟩ (.slice none 0 0)).setCell ⟨n2 + 1, 0, none⟩ (.int .i64 4302) = X at HF ⊢
      obtain ⟨c0, c1, d0, hP⟩ := HF.out
      simp [bodyPostD, Leaves, settle, results, Tryz.results17, go_sem, c0, c1, d0]
      exact hP
end Go.Proofs.Ng
end

section
/-
  Walks: the reference's way to read a word. Printed by gen_ci.py.
-/
namespace Go.Proofs.Ng
open Go.RowKit

/-- How the reference reads a word. -/
def SpP (o : Option Int) (W : World) (e : Ending) (W' : World) : Prop := (∃ x b, e = .returned (.tuple #[.int .i64 x, .bool b]) ∧ b = o.isSome ∧ ∀ n, o = some n → x = n) ∧ Below W.heap.size W W'
theorem SpP.no {o : Option Int} {W W' : World} {x : Int} {b : Bool} (h : o = none) (hb : b = false) (hw : Below W.heap.size W W') : SpP o W (.returned (.tuple #[.int .i64 x, .bool b])) W' := by
  subst h hb
  exact ⟨⟨x, false, rfl, rfl, fun n e => by cases e⟩, hw⟩
theorem SpP.yes {o : Option Int} {W W' : World} {x n : Int} {b : Bool} (h : o = some n) (hx : x = n) (hb : b = true) (hw : Below W.heap.size W W') : SpP o W (.returned (.tuple #[.int .i64 x, .bool b])) W' := by
  subst h hb hx
  exact ⟨⟨x, true, rfl, rfl, fun n e => by injection e⟩, hw⟩
theorem neg_prefix (s : List UInt8) : Lib.hasPrefix s [45] = Fm.negB s := by
  cases s with
  | nil => rfl
  | cons b r =>
    unfold Lib.hasPrefix Fm.negB
    simp [List.isPrefixOf]
    by_cases h : b = 45
    · subst h; simp
    · have h2 : b.toNat ≠ 45 := fun e => h (UInt8.toNat_inj.1 (by rw [e]; rfl))
      simp [h2]
      exact fun e => h e.symm
theorem ba_get (d : ByteArray) (k : Nat) (h : k < d.size) : d.data.toList[k]? = some (d[k]'h) := by
  rw [Array.getElem?_toList]
  exact Array.getElem?_eq_getElem (xs := d.data) h
theorem pow19 : (10 : Nat) ^ 18 = 1000000000000000000 := by decide
theorem val_le {l : List UInt8} {k : Nat} (hl : l.length = k) (hk : k ≤ 18) (hd : ∀ c ∈ l, Fm.digB c = true) : Fm.valD 0 l < 1000000000000000000 := by
  have h := Fm.valD_lt l 0 0 hd (by decide)
  rw [Nat.zero_add, hl] at h
  have h2 : 10 ^ k ≤ 10 ^ 18 := Nat.pow_le_pow_right (by decide) hk
  rw [pow19] at h2
  omega
set_option maxRecDepth 100000 in
set_option maxHeartbeats 8000000 in
theorem spelled84 (s : ByteArray) (W : World) (hs : s.size ≤ 1048576) : Calls Tryz.prog 84 #[.string s] W (SpP (Fm.spelledL s.data.toList) W) := by
  generalize hO : Fm.spelledL s.data.toList = o
  have HPX := Lib.hid (prefix27 s ⟨#[45]⟩ W)
  unfold Fm.spelledL at hO
  have hsl : s.data.toList.length = s.size := by rw [Array.length_toList]; rfl
  cases hn : Fm.negB s.data.toList with
  | false =>
    rw [hn] at hO
    simp only [Bool.false_eq_true, if_false] at hO
    have HNO : Hid (¬ Fm.okD s.data.toList s.data.toList = true → o = none) := Lib.hid (fun h => by rw [← hO, if_neg (fun e => h e.1)])
    have HYES : Hid (Fm.okD s.data.toList s.data.toList = true → o = if Fm.valD 0 s.data.toList < 9223372036854775808 then some (Fm.valD 0 s.data.toList : Int) else none) := Lib.hid (fun h => by
      rw [← hO]
      by_cases hv : Fm.valD 0 s.data.toList < 9223372036854775808
      · rw [if_pos ⟨h, hv⟩, if_pos hv]
      · rw [if_neg (fun e => hv e.2), if_neg hv])
    clear hO
    have hp : Lib.hasPrefix s.data.toList [45] = false := by rw [neg_prefix]; exact hn
    have hdl := hsl
    go_enter Tryz.func84, Tryz.ntmps84
    go_wp2_with fail
    refine HPX.out.mono ?_
    rintro e W1 ⟨rfl, hw⟩
    subst hw
    rw [hp]
    go_upto_region 5 with fail
    clear HPX hn hp hsl
    by_cases h0 : s.data.toList = []
    · have e1 : (s.toList == ([] : List UInt8)) = true := by rw [ByteArray.toList_eq, h0]; rfl
      have HON := Lib.hid (HNO.out (fun h => (Fm.okD_un h).1 h0))
      clear h0
      go_wp2
      go_ret2
      exact SpP.no HON.out rfl (Below.refl _ _)
    · have e1 : (s.toList == ([] : List UInt8)) = false := by rw [ByteArray.toList_eq, beq_eq_false_iff_ne]; exact h0
      by_cases h19 : 19 < s.size
      · have e2 : decide ((19 : Int) < (s.size : Int)) = true := decide_eq_true (by omega)
        have HON := Lib.hid (HNO.out (fun h => by have := (Fm.okD_un h).2.1; omega))
        clear h0
        go_wp2
        go_ret2
        exact SpP.no HON.out rfl (Below.refl _ _)
      · have e2 : decide ((19 : Int) < (s.size : Int)) = false := decide_eq_false (by omega)
        have e3 : (0 : Int) < (s.size : Int) := by have := List.length_pos_iff.2 h0; omega
        have e4 : 0 < s.size := by have := List.length_pos_iff.2 h0; omega
        have HHD : Hid (s.data.toList.head?.map (·.toNat) = some (s[0]'e4).toNat) := Lib.hid (by rw [List.head?_eq_getElem?, ba_get s 0 e4]; rfl)
        have HH0 := Lib.hid h0
        by_cases hz : (((s[0]'e4).toNat : Nat) : Int) = 48
        · by_cases hs0 : s.data.toList.map (·.toNat) = [48]
          · have e5 : (s.toList == [48]) = true := by
              rw [ByteArray.toList_eq]
              cases hl : s.data.toList with
              | nil => rw [hl] at hs0; simp at hs0
              | cons a t =>
                rw [hl] at hs0
                simp at hs0
                obtain ⟨ha, rfl⟩ := hs0
                have : a = 48 := UInt8.toNat_inj.1 (by rw [ha]; rfl)
                rw [this]
                rfl
            have HOK : Hid ((∀ c ∈ s.data.toList, Fm.digB c = true) → Fm.okD s.data.toList s.data.toList = true) := Lib.hid (fun h => Fm.okD_mk HH0.out (by omega) (fun _ => hs0) h)
            have HS0' := Lib.hid hs0
            clear h0 hs0
            go_wp2_with fail
            clear e1 e2 e3 hz
            go_loopw [6, 7] (fun n i W => ∃ k : Nat, k ≤ s.size ∧ i = .int .i64 (k : Nat) ∧ n = .int .u64 (Fm.valD 0 (s.data.toList.take k) : Nat) ∧ (∀ c ∈ s.data.toList.take k, Fm.digB c = true) ∧ W = W1) (fun _ i _ => s.size - (intOf i).toNat)
            case atStart => exact ⟨0, Nat.zero_le _, rfl, rfl, by simp, rfl⟩
            case round =>
              obtain ⟨k, hk, rfl, rfl, hdg, rfl⟩ := hrel
              by_cases hlt : k < s.size
              · have HC := Lib.hid (ba_get s k hlt)
                have hk1 : (k : Int) < (s.size : Int) := by omega
                have hvk := val_le (l := s.data.toList.take k) (k := k) (by rw [List.length_take]; omega) (by omega) hdg
                have HDG := Lib.hid hdg
                have HTK : Hid (s.data.toList.take (k + 1) = s.data.toList.take k ++ [s[k]'hlt]) := Lib.hid (by rw [List.take_add_one, HC.out]; rfl)
                clear hdg
                by_cases hdig : Fm.digB (s[k]'hlt) = true
                · have hdd := hdig
                  unfold Fm.digB at hdd
                  rw [decide_eq_true_eq] at hdd
                  have hd1 : decide ((((s[k]'hlt).toNat : Nat) : Int) < 48) = false := decide_eq_false (by omega)
                  have hd2 : decide ((57 : Int) < (((s[k]'hlt).toNat : Nat) : Int)) = false := decide_eq_false (by omega)
                  have hd3 : (48 : Int) ≤ (((s[k]'hlt).toNat : Nat) : Int) := by omega
                  have HNV : Hid (((Fm.valD 0 (s.data.toList.take (k + 1)) : Nat) : Int) = 10 * ((Fm.valD 0 (s.data.toList.take k) : Nat) : Int) + ((((s[k]'hlt).toNat : Nat) : Int) - 48)) := Lib.hid (by rw [HTK.out, Fm.valD_snoc]; omega)
                  have HDN : Hid (∀ c ∈ s.data.toList.take (k + 1), Fm.digB c = true) := Lib.hid (by
                    rw [HTK.out]
                    intro c hc
                    rw [List.mem_append, List.mem_singleton] at hc
                    rcases hc with hc | rfl
                    · exact HDG.out c hc
                    · exact hdig)
                  generalize Fm.valD 0 (s.data.toList.take k) = v at hvk HNV ⊢
                  have hw1 : IntKind.u64.wrap (10 * (v : Int)) = 10 * (v : Int) := IntWalk.u64_in _ (by omega)
                  have hw2 : IntKind.u8.wrap ((((s[k]'hlt).toNat : Nat) : Int) - 48) = (((s[k]'hlt).toNat : Nat) : Int) - 48 := IntWalk.u8_in _ (by omega)
                  have hw3 : IntKind.u64.wrap ((((s[k]'hlt).toNat : Nat) : Int) - 48) = (((s[k]'hlt).toNat : Nat) : Int) - 48 := IntWalk.u64_in _ (by omega)
                  have hw4 : IntKind.u64.wrap (10 * (v : Int) + ((((s[k]'hlt).toNat : Nat) : Int) - 48)) = 10 * (v : Int) + ((((s[k]'hlt).toNat : Nat) : Int) - 48) := IntWalk.u64_in _ (by omega)
                  clear hdig hdd
                  go_wp2_with fail
                  go_roundw
                  case rel => exact ⟨k + 1, by omega, by simp, by rw [HNV.out], HDN.out, by first | rfl | trivial⟩
                  case measure => simp [intOf]; omega
                · have HON := Lib.hid (HNO.out (fun h => hdig ((Fm.okD_un h).2.2.2 _ (List.mem_of_getElem? HC.out))))
                  have hdd := hdig
                  unfold Fm.digB at hdd
                  rw [decide_eq_true_eq] at hdd
                  by_cases hl48 : (((s[k]'hlt).toNat : Nat) : Int) < 48
                  · have hd1 : decide ((((s[k]'hlt).toNat : Nat) : Int) < 48) = true := decide_eq_true hl48
                    clear hdig hdd
                    go_wp2
                    go_ret2
                    exact SpP.no HON.out rfl (Below.refl _ _)
                  · have hd1 : decide ((((s[k]'hlt).toNat : Nat) : Int) < 48) = false := decide_eq_false hl48
                    have hd2 : decide ((57 : Int) < (((s[k]'hlt).toNat : Nat) : Int)) = true := decide_eq_true (by omega)
                    clear hdig hdd
                    go_wp2
                    go_ret2
                    exact SpP.no HON.out rfl (Below.refl _ _)
              · have hke : k = s.size := by omega
                subst hke
                rw [List.take_of_length_le (by omega)] at hdg ⊢
                have hy := HYES.out (HOK.out hdg)
                have hvv : Fm.valD 0 s.data.toList < 18446744073709551616 := by
                  have h := Fm.valD_lt s.data.toList 0 0 hdg (by decide)
                  rw [Nat.zero_add] at h
                  have h2 : 10 ^ s.data.toList.length ≤ 10 ^ 19 := Nat.pow_le_pow_right (by decide) (by omega)
                  have h3 : (10 : Nat) ^ 19 = 10000000000000000000 := by decide
                  omega
                generalize Fm.valD 0 s.data.toList = v at hy hvv ⊢
                by_cases hv : v < 9223372036854775808
                · rw [if_pos hv] at hy
                  have HY := Lib.hid hy
                  have hd : decide ((v : Int) < 9223372036854775808) = true := decide_eq_true (by omega)
                  have HV := Lib.hid hv
                  clear hy hv hdg
                  go_wp2
                  go_ret2
                  exact SpP.yes HY.out (by have := HV.out; unfold wrap64; omega) (by first | rfl | exact hd) (Below.refl _ _)
                · rw [if_neg hv] at hy
                  have HY := Lib.hid hy
                  have hd : decide ((v : Int) < 9223372036854775808) = false := decide_eq_false (by omega)
                  clear hy hv hdg
                  go_wp2
                  go_ret2
                  exact SpP.no HY.out (by first | rfl | exact hd) (Below.refl _ _)
          · have e5 : (s.toList == [48]) = false := by
              rw [ByteArray.toList_eq, beq_eq_false_iff_ne]
              intro h
              rw [h] at hs0
              exact hs0 rfl
            have HON := Lib.hid (HNO.out (fun h => hs0 ((Fm.okD_un h).2.2.1 (by rw [HHD.out]; have : (s[0]'e4).toNat = 48 := by omega
                                                                                rw [this]))))
            clear h0 hs0
            go_wp2
            go_ret2
            exact SpP.no HON.out rfl (Below.refl _ _)
        · have HOK : Hid ((∀ c ∈ s.data.toList, Fm.digB c = true) → Fm.okD s.data.toList s.data.toList = true) := Lib.hid (fun h => Fm.okD_mk HH0.out (by omega) (fun e => absurd e (by rw [HHD.out]; intro e2; injection e2 with e2; omega)) h)
          clear h0
          go_wp2_with fail
          clear e1 e2 e3 hz
          go_loopw [6, 7] (fun n i W => ∃ k : Nat, k ≤ s.size ∧ i = .int .i64 (k : Nat) ∧ n = .int .u64 (Fm.valD 0 (s.data.toList.take k) : Nat) ∧ (∀ c ∈ s.data.toList.take k, Fm.digB c = true) ∧ W = W1) (fun _ i _ => s.size - (intOf i).toNat)
          case atStart => exact ⟨0, Nat.zero_le _, rfl, rfl, by simp, rfl⟩
          case round =>
            obtain ⟨k, hk, rfl, rfl, hdg, rfl⟩ := hrel
            by_cases hlt : k < s.size
            · have HC := Lib.hid (ba_get s k hlt)
              have hk1 : (k : Int) < (s.size : Int) := by omega
              have hvk := val_le (l := s.data.toList.take k) (k := k) (by rw [List.length_take]; omega) (by omega) hdg
              have HDG := Lib.hid hdg
              have HTK : Hid (s.data.toList.take (k + 1) = s.data.toList.take k ++ [s[k]'hlt]) := Lib.hid (by rw [List.take_add_one, HC.out]; rfl)
              clear hdg
              by_cases hdig : Fm.digB (s[k]'hlt) = true
              · have hdd := hdig
                unfold Fm.digB at hdd
                rw [decide_eq_true_eq] at hdd
                have hd1 : decide ((((s[k]'hlt).toNat : Nat) : Int) < 48) = false := decide_eq_false (by omega)
                have hd2 : decide ((57 : Int) < (((s[k]'hlt).toNat : Nat) : Int)) = false := decide_eq_false (by omega)
                have hd3 : (48 : Int) ≤ (((s[k]'hlt).toNat : Nat) : Int) := by omega
                have HNV : Hid (((Fm.valD 0 (s.data.toList.take (k + 1)) : Nat) : Int) = 10 * ((Fm.valD 0 (s.data.toList.take k) : Nat) : Int) + ((((s[k]'hlt).toNat : Nat) : Int) - 48)) := Lib.hid (by rw [HTK.out, Fm.valD_snoc]; omega)
                have HDN : Hid (∀ c ∈ s.data.toList.take (k + 1), Fm.digB c = true) := Lib.hid (by
                  rw [HTK.out]
                  intro c hc
                  rw [List.mem_append, List.mem_singleton] at hc
                  rcases hc with hc | rfl
                  · exact HDG.out c hc
                  · exact hdig)
                generalize Fm.valD 0 (s.data.toList.take k) = v at hvk HNV ⊢
                have hw1 : IntKind.u64.wrap (10 * (v : Int)) = 10 * (v : Int) := IntWalk.u64_in _ (by omega)
                have hw2 : IntKind.u8.wrap ((((s[k]'hlt).toNat : Nat) : Int) - 48) = (((s[k]'hlt).toNat : Nat) : Int) - 48 := IntWalk.u8_in _ (by omega)
                have hw3 : IntKind.u64.wrap ((((s[k]'hlt).toNat : Nat) : Int) - 48) = (((s[k]'hlt).toNat : Nat) : Int) - 48 := IntWalk.u64_in _ (by omega)
                have hw4 : IntKind.u64.wrap (10 * (v : Int) + ((((s[k]'hlt).toNat : Nat) : Int) - 48)) = 10 * (v : Int) + ((((s[k]'hlt).toNat : Nat) : Int) - 48) := IntWalk.u64_in _ (by omega)
                clear hdig hdd
                go_wp2_with fail
                go_roundw
                case rel => exact ⟨k + 1, by omega, by simp, by rw [HNV.out], HDN.out, by first | rfl | trivial⟩
                case measure => simp [intOf]; omega
              · have HON := Lib.hid (HNO.out (fun h => hdig ((Fm.okD_un h).2.2.2 _ (List.mem_of_getElem? HC.out))))
                have hdd := hdig
                unfold Fm.digB at hdd
                rw [decide_eq_true_eq] at hdd
                by_cases hl48 : (((s[k]'hlt).toNat : Nat) : Int) < 48
                · have hd1 : decide ((((s[k]'hlt).toNat : Nat) : Int) < 48) = true := decide_eq_true hl48
                  clear hdig hdd
                  go_wp2
                  go_ret2
                  exact SpP.no HON.out rfl (Below.refl _ _)
                · have hd1 : decide ((((s[k]'hlt).toNat : Nat) : Int) < 48) = false := decide_eq_false hl48
                  have hd2 : decide ((57 : Int) < (((s[k]'hlt).toNat : Nat) : Int)) = true := decide_eq_true (by omega)
                  clear hdig hdd
                  go_wp2
                  go_ret2
                  exact SpP.no HON.out rfl (Below.refl _ _)
            · have hke : k = s.size := by omega
              subst hke
              rw [List.take_of_length_le (by omega)] at hdg ⊢
              have hy := HYES.out (HOK.out hdg)
              have hvv : Fm.valD 0 s.data.toList < 18446744073709551616 := by
                have h := Fm.valD_lt s.data.toList 0 0 hdg (by decide)
                rw [Nat.zero_add] at h
                have h2 : 10 ^ s.data.toList.length ≤ 10 ^ 19 := Nat.pow_le_pow_right (by decide) (by omega)
                have h3 : (10 : Nat) ^ 19 = 10000000000000000000 := by decide
                omega
              generalize Fm.valD 0 s.data.toList = v at hy hvv ⊢
              by_cases hv : v < 9223372036854775808
              · rw [if_pos hv] at hy
                have HY := Lib.hid hy
                have hd : decide ((v : Int) < 9223372036854775808) = true := decide_eq_true (by omega)
                have HV := Lib.hid hv
                clear hy hv hdg
                go_wp2
                go_ret2
                exact SpP.yes HY.out (by have := HV.out; unfold wrap64; omega) (by first | rfl | exact hd) (Below.refl _ _)
              · rw [if_neg hv] at hy
                have HY := Lib.hid hy
                have hd : decide ((v : Int) < 9223372036854775808) = false := decide_eq_false (by omega)
                clear hy hv hdg
                go_wp2
                go_ret2
                exact SpP.no HY.out (by first | rfl | exact hd) (Below.refl _ _)
  | true =>
    rw [hn] at hO
    simp only [if_true] at hO
    have hp : Lib.hasPrefix s.data.toList [45] = true := by rw [neg_prefix]; exact hn
    obtain ⟨a0, t0, hl0⟩ : ∃ a t, s.data.toList = a :: t := by
      cases hl : s.data.toList with
      | nil => rw [hl] at hn; cases hn
      | cons a t => exact ⟨a, t, rfl⟩
    have hs1 : (1 : Int) ≤ (s.size : Int) := by rw [hl0, List.length_cons] at hsl; omega
    have HS0 : Hid (¬ s.data.toList.map (·.toNat) = [48]) := Lib.hid (fun h => by
      unfold Fm.negB at hn
      rw [decide_eq_true_eq] at hn
      rw [hl0] at h hn
      simp at h hn
      omega)
    have hdd : (s.extract 1 s.size).data.toList = s.data.toList.tail := by
      rw [hl0, List.tail_cons]
      have hl1 : t0.length = s.size - 1 := by rw [hl0, List.length_cons] at hsl; omega
      simp [hl0]
      exact List.take_of_length_le (by omega)
    go_enter Tryz.func84, Tryz.ntmps84
    go_wp2_with fail
    refine HPX.out.mono ?_
    rintro e W1 ⟨rfl, hw⟩
    subst hw
    rw [hp]
    go_upto_region 5 with fail
    generalize s.extract 1 s.size = d at hdd ⊢
    have hdl : d.data.toList.length = d.size := by rw [Array.length_toList]; rfl
    have HNO : Hid (¬ Fm.okD d.data.toList s.data.toList = true → o = none) := Lib.hid (fun h => by rw [hdd] at h; rw [← hO, if_neg (fun e => h e.1)])
    have HYES : Hid (Fm.okD d.data.toList s.data.toList = true → o = if Fm.valD 0 d.data.toList ≤ 9223372036854775808 then some (-(Fm.valD 0 d.data.toList : Int)) else none) := Lib.hid (fun h => by
      rw [← hO, hdd]
      rw [hdd] at h
      by_cases hv : Fm.valD 0 s.data.toList.tail ≤ 9223372036854775808
      · rw [if_pos ⟨h, hv⟩, if_pos hv]
      · rw [if_neg (fun e => hv e.2), if_neg hv])
    clear HPX hn hp hsl hO hs1 hl0 hdd hs
    by_cases h0 : d.data.toList = []
    · have e1 : (d.toList == ([] : List UInt8)) = true := by rw [ByteArray.toList_eq, h0]; rfl
      have HON := Lib.hid (HNO.out (fun h => (Fm.okD_un h).1 h0))
      clear h0
      go_wp2
      go_ret2
      exact SpP.no HON.out rfl (Below.refl _ _)
    · have e1 : (d.toList == ([] : List UInt8)) = false := by rw [ByteArray.toList_eq, beq_eq_false_iff_ne]; exact h0
      by_cases h19 : 19 < d.size
      · have e2 : decide ((19 : Int) < (d.size : Int)) = true := decide_eq_true (by omega)
        have HON := Lib.hid (HNO.out (fun h => by have := (Fm.okD_un h).2.1; omega))
        clear h0
        go_wp2
        go_ret2
        exact SpP.no HON.out rfl (Below.refl _ _)
      · have e2 : decide ((19 : Int) < (d.size : Int)) = false := decide_eq_false (by omega)
        have e3 : (0 : Int) < (d.size : Int) := by have := List.length_pos_iff.2 h0; omega
        have e4 : 0 < d.size := by have := List.length_pos_iff.2 h0; omega
        have HHD : Hid (d.data.toList.head?.map (·.toNat) = some (d[0]'e4).toNat) := Lib.hid (by rw [List.head?_eq_getElem?, ba_get d 0 e4]; rfl)
        have HH0 := Lib.hid h0
        by_cases hz : (((d[0]'e4).toNat : Nat) : Int) = 48
        · by_cases hs0 : s.data.toList.map (·.toNat) = [48]
          · have e5 : (s.toList == [48]) = true := by
              rw [ByteArray.toList_eq]
              cases hl : s.data.toList with
              | nil => rw [hl] at hs0; simp at hs0
              | cons a t =>
                rw [hl] at hs0
                simp at hs0
                obtain ⟨ha, rfl⟩ := hs0
                have : a = 48 := UInt8.toNat_inj.1 (by rw [ha]; rfl)
                rw [this]
                rfl
            have HOK : Hid ((∀ c ∈ d.data.toList, Fm.digB c = true) → Fm.okD d.data.toList s.data.toList = true) := Lib.hid (fun h => Fm.okD_mk HH0.out (by omega) (fun _ => hs0) h)
            have HS0' := Lib.hid hs0
            clear h0 hs0
            go_wp2_with fail
            clear e1 e2 e3 hz
            go_loopw [6, 7] (fun n i W => ∃ k : Nat, k ≤ d.size ∧ i = .int .i64 (k : Nat) ∧ n = .int .u64 (Fm.valD 0 (d.data.toList.take k) : Nat) ∧ (∀ c ∈ d.data.toList.take k, Fm.digB c = true) ∧ W = W1) (fun _ i _ => d.size - (intOf i).toNat)
            case atStart => exact ⟨0, Nat.zero_le _, rfl, rfl, by simp, rfl⟩
            case round =>
              obtain ⟨k, hk, rfl, rfl, hdg, rfl⟩ := hrel
              by_cases hlt : k < d.size
              · have HC := Lib.hid (ba_get d k hlt)
                have hk1 : (k : Int) < (d.size : Int) := by omega
                have hvk := val_le (l := d.data.toList.take k) (k := k) (by rw [List.length_take]; omega) (by omega) hdg
                have HDG := Lib.hid hdg
                have HTK : Hid (d.data.toList.take (k + 1) = d.data.toList.take k ++ [d[k]'hlt]) := Lib.hid (by rw [List.take_add_one, HC.out]; rfl)
                clear hdg
                by_cases hdig : Fm.digB (d[k]'hlt) = true
                · have hdd := hdig
                  unfold Fm.digB at hdd
                  rw [decide_eq_true_eq] at hdd
                  have hd1 : decide ((((d[k]'hlt).toNat : Nat) : Int) < 48) = false := decide_eq_false (by omega)
                  have hd2 : decide ((57 : Int) < (((d[k]'hlt).toNat : Nat) : Int)) = false := decide_eq_false (by omega)
                  have hd3 : (48 : Int) ≤ (((d[k]'hlt).toNat : Nat) : Int) := by omega
                  have HNV : Hid (((Fm.valD 0 (d.data.toList.take (k + 1)) : Nat) : Int) = 10 * ((Fm.valD 0 (d.data.toList.take k) : Nat) : Int) + ((((d[k]'hlt).toNat : Nat) : Int) - 48)) := Lib.hid (by rw [HTK.out, Fm.valD_snoc]; omega)
                  have HDN : Hid (∀ c ∈ d.data.toList.take (k + 1), Fm.digB c = true) := Lib.hid (by
                    rw [HTK.out]
                    intro c hc
                    rw [List.mem_append, List.mem_singleton] at hc
                    rcases hc with hc | rfl
                    · exact HDG.out c hc
                    · exact hdig)
                  generalize Fm.valD 0 (d.data.toList.take k) = v at hvk HNV ⊢
                  have hw1 : IntKind.u64.wrap (10 * (v : Int)) = 10 * (v : Int) := IntWalk.u64_in _ (by omega)
                  have hw2 : IntKind.u8.wrap ((((d[k]'hlt).toNat : Nat) : Int) - 48) = (((d[k]'hlt).toNat : Nat) : Int) - 48 := IntWalk.u8_in _ (by omega)
                  have hw3 : IntKind.u64.wrap ((((d[k]'hlt).toNat : Nat) : Int) - 48) = (((d[k]'hlt).toNat : Nat) : Int) - 48 := IntWalk.u64_in _ (by omega)
                  have hw4 : IntKind.u64.wrap (10 * (v : Int) + ((((d[k]'hlt).toNat : Nat) : Int) - 48)) = 10 * (v : Int) + ((((d[k]'hlt).toNat : Nat) : Int) - 48) := IntWalk.u64_in _ (by omega)
                  clear hdig hdd
                  go_wp2_with fail
                  go_roundw
                  case rel => exact ⟨k + 1, by omega, by simp, by rw [HNV.out], HDN.out, by first | rfl | trivial⟩
                  case measure => simp [intOf]; omega
                · have HON := Lib.hid (HNO.out (fun h => hdig ((Fm.okD_un h).2.2.2 _ (List.mem_of_getElem? HC.out))))
                  have hdd := hdig
                  unfold Fm.digB at hdd
                  rw [decide_eq_true_eq] at hdd
                  by_cases hl48 : (((d[k]'hlt).toNat : Nat) : Int) < 48
                  · have hd1 : decide ((((d[k]'hlt).toNat : Nat) : Int) < 48) = true := decide_eq_true hl48
                    clear hdig hdd
                    go_wp2
                    go_ret2
                    exact SpP.no HON.out rfl (Below.refl _ _)
                  · have hd1 : decide ((((d[k]'hlt).toNat : Nat) : Int) < 48) = false := decide_eq_false hl48
                    have hd2 : decide ((57 : Int) < (((d[k]'hlt).toNat : Nat) : Int)) = true := decide_eq_true (by omega)
                    clear hdig hdd
                    go_wp2
                    go_ret2
                    exact SpP.no HON.out rfl (Below.refl _ _)
              · have hke : k = d.size := by omega
                subst hke
                rw [List.take_of_length_le (by omega)] at hdg ⊢
                have hy := HYES.out (HOK.out hdg)
                have hvv : Fm.valD 0 d.data.toList < 18446744073709551616 := by
                  have h := Fm.valD_lt d.data.toList 0 0 hdg (by decide)
                  rw [Nat.zero_add] at h
                  have h2 : 10 ^ d.data.toList.length ≤ 10 ^ 19 := Nat.pow_le_pow_right (by decide) (by omega)
                  have h3 : (10 : Nat) ^ 19 = 10000000000000000000 := by decide
                  omega
                generalize Fm.valD 0 d.data.toList = v at hy hvv ⊢
                by_cases hv : v ≤ 9223372036854775808
                · rw [if_pos hv] at hy
                  have HY := Lib.hid hy
                  have hd : decide ((v : Int) ≤ 9223372036854775808) = true := decide_eq_true (by omega)
                  have HV := Lib.hid hv
                  clear hy hv hdg
                  go_wp2
                  go_ret2
                  exact SpP.yes HY.out (by have := HV.out; unfold wrap64; omega) (by first | rfl | exact hd) (Below.refl _ _)
                · rw [if_neg hv] at hy
                  have HY := Lib.hid hy
                  have hd : decide ((v : Int) ≤ 9223372036854775808) = false := decide_eq_false (by omega)
                  clear hy hv hdg
                  go_wp2
                  go_ret2
                  exact SpP.no HY.out (by first | rfl | exact hd) (Below.refl _ _)
          · have e5 : (s.toList == [48]) = false := by
              rw [ByteArray.toList_eq, beq_eq_false_iff_ne]
              intro h
              rw [h] at hs0
              exact hs0 rfl
            have HON := Lib.hid (HNO.out (fun h => hs0 ((Fm.okD_un h).2.2.1 (by rw [HHD.out]; have : (d[0]'e4).toNat = 48 := by omega
                                                                                rw [this]))))
            clear h0 hs0
            go_wp2
            go_ret2
            exact SpP.no HON.out rfl (Below.refl _ _)
        · have HOK : Hid ((∀ c ∈ d.data.toList, Fm.digB c = true) → Fm.okD d.data.toList s.data.toList = true) := Lib.hid (fun h => Fm.okD_mk HH0.out (by omega) (fun e => absurd e (by rw [HHD.out]; intro e2; injection e2 with e2; omega)) h)
          clear h0
          go_wp2_with fail
          clear e1 e2 e3 hz
          go_loopw [6, 7] (fun n i W => ∃ k : Nat, k ≤ d.size ∧ i = .int .i64 (k : Nat) ∧ n = .int .u64 (Fm.valD 0 (d.data.toList.take k) : Nat) ∧ (∀ c ∈ d.data.toList.take k, Fm.digB c = true) ∧ W = W1) (fun _ i _ => d.size - (intOf i).toNat)
          case atStart => exact ⟨0, Nat.zero_le _, rfl, rfl, by simp, rfl⟩
          case round =>
            obtain ⟨k, hk, rfl, rfl, hdg, rfl⟩ := hrel
            by_cases hlt : k < d.size
            · have HC := Lib.hid (ba_get d k hlt)
              have hk1 : (k : Int) < (d.size : Int) := by omega
              have hvk := val_le (l := d.data.toList.take k) (k := k) (by rw [List.length_take]; omega) (by omega) hdg
              have HDG := Lib.hid hdg
              have HTK : Hid (d.data.toList.take (k + 1) = d.data.toList.take k ++ [d[k]'hlt]) := Lib.hid (by rw [List.take_add_one, HC.out]; rfl)
              clear hdg
              by_cases hdig : Fm.digB (d[k]'hlt) = true
              · have hdd := hdig
                unfold Fm.digB at hdd
                rw [decide_eq_true_eq] at hdd
                have hd1 : decide ((((d[k]'hlt).toNat : Nat) : Int) < 48) = false := decide_eq_false (by omega)
                have hd2 : decide ((57 : Int) < (((d[k]'hlt).toNat : Nat) : Int)) = false := decide_eq_false (by omega)
                have hd3 : (48 : Int) ≤ (((d[k]'hlt).toNat : Nat) : Int) := by omega
                have HNV : Hid (((Fm.valD 0 (d.data.toList.take (k + 1)) : Nat) : Int) = 10 * ((Fm.valD 0 (d.data.toList.take k) : Nat) : Int) + ((((d[k]'hlt).toNat : Nat) : Int) - 48)) := Lib.hid (by rw [HTK.out, Fm.valD_snoc]; omega)
                have HDN : Hid (∀ c ∈ d.data.toList.take (k + 1), Fm.digB c = true) := Lib.hid (by
                  rw [HTK.out]
                  intro c hc
                  rw [List.mem_append, List.mem_singleton] at hc
                  rcases hc with hc | rfl
                  · exact HDG.out c hc
                  · exact hdig)
                generalize Fm.valD 0 (d.data.toList.take k) = v at hvk HNV ⊢
                have hw1 : IntKind.u64.wrap (10 * (v : Int)) = 10 * (v : Int) := IntWalk.u64_in _ (by omega)
                have hw2 : IntKind.u8.wrap ((((d[k]'hlt).toNat : Nat) : Int) - 48) = (((d[k]'hlt).toNat : Nat) : Int) - 48 := IntWalk.u8_in _ (by omega)
                have hw3 : IntKind.u64.wrap ((((d[k]'hlt).toNat : Nat) : Int) - 48) = (((d[k]'hlt).toNat : Nat) : Int) - 48 := IntWalk.u64_in _ (by omega)
                have hw4 : IntKind.u64.wrap (10 * (v : Int) + ((((d[k]'hlt).toNat : Nat) : Int) - 48)) = 10 * (v : Int) + ((((d[k]'hlt).toNat : Nat) : Int) - 48) := IntWalk.u64_in _ (by omega)
                clear hdig hdd
                go_wp2_with fail
                go_roundw
                case rel => exact ⟨k + 1, by omega, by simp, by rw [HNV.out], HDN.out, by first | rfl | trivial⟩
                case measure => simp [intOf]; omega
              · have HON := Lib.hid (HNO.out (fun h => hdig ((Fm.okD_un h).2.2.2 _ (List.mem_of_getElem? HC.out))))
                have hdd := hdig
                unfold Fm.digB at hdd
                rw [decide_eq_true_eq] at hdd
                by_cases hl48 : (((d[k]'hlt).toNat : Nat) : Int) < 48
                · have hd1 : decide ((((d[k]'hlt).toNat : Nat) : Int) < 48) = true := decide_eq_true hl48
                  clear hdig hdd
                  go_wp2
                  go_ret2
                  exact SpP.no HON.out rfl (Below.refl _ _)
                · have hd1 : decide ((((d[k]'hlt).toNat : Nat) : Int) < 48) = false := decide_eq_false hl48
                  have hd2 : decide ((57 : Int) < (((d[k]'hlt).toNat : Nat) : Int)) = true := decide_eq_true (by omega)
                  clear hdig hdd
                  go_wp2
                  go_ret2
                  exact SpP.no HON.out rfl (Below.refl _ _)
            · have hke : k = d.size := by omega
              subst hke
              rw [List.take_of_length_le (by omega)] at hdg ⊢
              have hy := HYES.out (HOK.out hdg)
              have hvv : Fm.valD 0 d.data.toList < 18446744073709551616 := by
                have h := Fm.valD_lt d.data.toList 0 0 hdg (by decide)
                rw [Nat.zero_add] at h
                have h2 : 10 ^ d.data.toList.length ≤ 10 ^ 19 := Nat.pow_le_pow_right (by decide) (by omega)
                have h3 : (10 : Nat) ^ 19 = 10000000000000000000 := by decide
                omega
              generalize Fm.valD 0 d.data.toList = v at hy hvv ⊢
              by_cases hv : v ≤ 9223372036854775808
              · rw [if_pos hv] at hy
                have HY := Lib.hid hy
                have hd : decide ((v : Int) ≤ 9223372036854775808) = true := decide_eq_true (by omega)
                have HV := Lib.hid hv
                clear hy hv hdg
                go_wp2
                go_ret2
                exact SpP.yes HY.out (by have := HV.out; unfold wrap64; omega) (by first | rfl | exact hd) (Below.refl _ _)
              · rw [if_neg hv] at hy
                have HY := Lib.hid hy
                have hd : decide ((v : Int) ≤ 9223372036854775808) = false := decide_eq_false (by omega)
                clear hy hv hdg
                go_wp2
                go_ret2
                exact SpP.no HY.out (by first | rfl | exact hd) (Below.refl _ _)
end Go.Proofs.Ng
end

