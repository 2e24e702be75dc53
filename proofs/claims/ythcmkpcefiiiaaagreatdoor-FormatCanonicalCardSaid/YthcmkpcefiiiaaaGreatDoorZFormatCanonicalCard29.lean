/-
  Texts put together: Tv Dc Dd Cu De Df Eb.
-/
import Derived.Test.YthcmkpcefiiiaaaGreatDoorZFormatCanonicalCard28
import Derived.Test.YthcmkpcefiiiaaaGreatDoorZFormatCanonicalCard20
import Derived.Deep.QuietTactic
import Derived.BigQuiet
import Derived.Test.YthcmkpcefiiiaaaGreatDoorZFormatCanonicalCard23
import Derived.Test.YthcmkpcefiiiaaaGreatDoorZFormatCanonicalCard2
import Derived.Test.YthcmkpcefiiiaaaGreatDoorZFormatCanonicalCard17
set_option linter.unusedVariables false
section
/-
 Walks: ParseCut. Printed by gen_tv.py out of ParsePath's.
-/
namespace Go.Proofs.Ng
open Go.RowKit
theorem catch43_idle (p q : Addr) (w : World) :
  CallsD Tryz.prog 43 #[.pointer (some p), .pointer (some q)] .returning w fun e u' w' => e = .returned (.tuple #[]) ∧ u' = .returning ∧ w' = w := by
 refine callsD_of_wpS Tryz.func43 rfl fun c₀ cs hu => ?_
 apply wpS_seq
 apply wpS_region
 simp [wpOpsS, go_sem, recoverD, hu, Tryz.ntmps43, Exit.thenS]
 refine wpS_cond (t := false) (by simp [Act.eval, Array.replicate]) ?_
 simp only [Bool.false_eq_true, if_false]
 refine wpS_of_wp (wp_skip ?_)
 cases c₀
 simp_all [bodyPostS, results, Tryz.results43]
set_option maxRecDepth 100000 in
set_option maxHeartbeats 2000000 in
theorem catch43_panic (b2 b3 : Nat) (x y : Value) (n : Int) (older : List PanicEntry) (w : World) (h2 : Bx w b2 [x, y] 36) (h3 : Bx w b3 [.int .i64 n] 23) (hne : b3 ≠ b2) :
  CallsD Tryz.prog 43 #[.pointer (some ⟨b2, 0, none⟩), .pointer (some ⟨b3, 0, none⟩)] (.panicking ({ v := .iface 133 (.agg #[]), recovered := false } :: older)) w fun e u' w' =>
   e = .returned (.tuple #[]) ∧ u' = .panicking ({ v := .iface 133 (.agg #[]), recovered := true } :: older) ∧ w' = ((w.setCell ⟨b2, 0, none⟩ (.slice none 0 0)).setCell ⟨b2, 1, none⟩ (.slice none 0 0)).setCell ⟨b3, 0, none⟩ (.int .i64 4301) := by
 have c0 := h2.c 0 _ rfl
 have c1 := h2.c 1 _ rfl
 have f0 := h2.f 0
 have f1 := h2.f 1
 have l2 := h2.lt
 have hA := h2.put1 (.slice none 0 0)
 have c1A := hA.c 1 _ rfl
 have f1A := hA.f 1
 have h3B : Bx ((w.setCell ⟨b2, 0, none⟩ (.slice none 0 0)).setCell ⟨b2, 1, none⟩ (.slice none 0 0)) b3 [.int .i64 n] 23 := (h3.other hne 0 _).other hne 1 _
 have d0B := h3B.c 0 _ rfl
 have e0B := h3B.f 0
 refine callsD_of_wpS Tryz.func43 rfl fun c₀ cs hu => ?_
 apply wpS_seq
 apply wpS_region
 simp [wpOpsS, go_sem, recoverD, hu, Tryz.ntmps43, Exit.thenS]
 refine wpS_cond (t := true) (by simp [Act.eval, Array.replicate]) ?_
 simp only [if_true]
 apply wpS_region
 simp [wpOpsS, go_sem, c0, c1, f0, f1, l2, c1A, f1A, d0B, e0B, bodyPostS, results, Tryz.results43]
/-- What the code's reader answers: the tree and the error. -/
def parseResC (s : List UInt8) : Fm.TreeD × Int := if 1048576 < s.length then (⟨[], []⟩, 4301) else if kindN s = 2 then (match Fm.parseC s with | some p => (p, 0) | none => (⟨[], []⟩, 4301)) else (⟨[], []⟩, 4302)
theorem treV_nil (W : World) : TreV (.agg #[.slice none 0 0, .slice none 0 0]) ⟨[], []⟩ W := ⟨none, 0, none, 0, rfl, fun h => absurd rfl h, ⟨[], rfl, fun h => absurd rfl h, fun k r x h => by simp at h⟩⟩
theorem cellT_two_le (c : Fm.CellD) : 2 ≤ (Fm.cellT c).length := by
 unfold Fm.cellT
 split
 ·simp only [List.length_append, lineT_eq, Fm.kwLeaf]; simp; omega
 ·simp only [List.length_append, lineT_eq, Fm.kwSplit]; simp; omega
theorem flT_two {l : List Fm.CellD} : 2 * l.length ≤ (flT Fm.cellT l).length := by
 induction l with
 | nil => simp
 | cons c l ih =>
  have := cellT_two_le c
  unfold flT at ih ⊢
  rw [List.map_cons, List.flatten_cons, List.length_append, List.length_cons]
  omega
theorem tree_small {ls r : List (List UInt8)} {t : Fm.TreeD} (h : Fm.rdTree ls = some (t, r)) (hl : (Fm.nlF ls).length ≤ 1048576) : t.root.length ≤ 1000000 ∧ t.cells.length ≤ 1000000 := by
 rw [Fm.rdTree_un h, treeT_eq, List.length_append, List.length_append, List.length_append] at hl
 have h1 := flT_two (l := t.cells)
 have h2 := numsT_ge (t.root.map Fm.pairL).flatten
 have h3 := Fm.flat_len t.root
 have h4 : (Fm.lineT Fm.kwRoot (t.root.map Fm.pairL).flatten).length = 4 + (numsT (t.root.map Fm.pairL).flatten).length + 1 := by rw [lineT_eq, List.length_append, List.length_append]; rfl
 omega
theorem fin14 {X W : World} {n : Nat} {a c : Value} {code : Int} {res : Fm.TreeD × Int} {p : Fm.TreeD} (h2 : Bx X n [a, c] 36) (h3 : Bx X (n + 1) [.int .i64 code] 23) (hr : res = (p, code)) (hV : New W.heap.size X (TreV (.agg #[a, c]) p)) (hb : Below W.heap.size W X) :
  X.cell? ⟨n, 0, none⟩ = some a ∧ X.cell? ⟨n, 1, none⟩ = some c ∧ X.cell? ⟨n + 1, 0, none⟩ = some (.int .i64 code) ∧ ParP TreV res W (.returned (.tuple #[.agg #[a, c], .int .i64 code])) X := by
 subst hr
 exact ⟨h2.c 0 _ rfl, h2.c 1 _ rfl, h3.c 0 _ rfl, _, rfl, hV, hb⟩
set_option maxRecDepth 100000 in
set_option maxHeartbeats 8000000 in
theorem parseCut14 (s : ByteArray) (W : World) (hs : s.size ≤ 9223372036854775807) (hL : LibW W) : Calls Tryz.prog 14 #[.string s] W (ParP TreV (parseResC s.data.toList) W) := by
 have hmf : ∀ (fn : Fn) (first cap : Array Value) (w : World), (Instr.makeFunc fn first cap).run Tryz.prog w = .ok (.func fn first cap) w := fun _ _ _ _ => rfl
 generalize hR : parseResC s.data.toList = res
 unfold parseResC at hR
 have hsz : s.data.toList.length = s.size := by rw [Array.length_toList]; rfl
 have hb1 : Below W.heap.size W ((W.alloc (.cells #[.slice none 0 0, .slice none 0 0] 36)).alloc (.cells #[.int .i64 0] 23)) := ((Below.refl _ _).alloc (Nat.le_refl _) _).alloc (by simp) _
 have hz : ((W.alloc (.cells #[.slice none 0 0, .slice none 0 0] 36)).alloc (.cells #[.int .i64 0] 23)).heap.size = W.heap.size + 2 := by simp
 have hsz1 : (W.alloc (.cells #[.slice none 0 0, .slice none 0 0] 36)).heap.size = W.heap.size + 1 := by simp
 have HX2 := Lib.hid ((Bx.new W [.slice none 0 0, .slice none 0 0] 36).keep ((Below.refl _ (W.alloc (.cells #[.slice none 0 0, .slice none 0 0] 36))).alloc (Nat.le_refl _) (.cells #[.int .i64 0] 23)))
 have HX3 := Lib.hid (Bx.new (W.alloc (.cells #[.slice none 0 0, .slice none 0 0] 36)) [.int .i64 0] 23)
 rw [hsz1] at HX3
 have HL := Lib.hid (hL.keep hb1)
 have HB := Lib.hid hb1
 have HZ := Lib.hid hz
 have HS8 : Hid (8 ≤ W.heap.size) := Lib.hid hL.gt
 clear hb1 hz hsz1 hL
 go_enter_defers Tryz.func14, Tryz.ntmps14
 go_wp2_with fail
 generalize ((W.alloc (.cells #[.slice none 0 0, .slice none 0 0] 36)).alloc (.cells #[.int .i64 0] 23)) = W1 at HX2 HX3 HL HB HZ ⊢
 obtain ⟨n2, hn2⟩ : ∃ n, n = W.heap.size := ⟨_, rfl⟩
 have HN2 := Lib.hid hn2
 rw [← hn2] at HX2 HX3 HZ HS8 ⊢
 clear hn2
 refine (opening37 s 2 W1 hs).mono ?_
 rintro e W2 ⟨rfl, hw⟩
 subst hw
 unfold openN
 rw [hsz]
 by_cases h1 : 1048576 < s.size
 ·rw [if_pos h1]
  rw [hsz, if_pos h1] at hR
  have HR := Lib.hid hR
  clear hR h1
  have c0 := HX2.out.c 0 _ rfl
  have c1 := HX2.out.c 1 _ rfl
  have f0 := HX2.out.f 0
  have f1 := HX2.out.f 1
  have l2 := HX2.out.lt
  have hA := HX2.out.put1 (.slice none 0 0)
  have c1A := hA.c 1 _ rfl
  have f1A := hA.f 1
  have hne : n2 + 1 ≠ n2 := by omega
  have h3B := (HX3.out.other hne 0 (.slice none 0 0)).other hne 1 (.slice none 0 0)
  have d0B := h3B.c 0 _ rfl
  have e0B := h3B.f 0
  clear hA h3B
  go_wp2
  have HF := Lib.hid (fin14 (X := ((W2.setCell ⟨n2, 0, none⟩ (.slice none 0 0)).setCell ⟨n2, 1, none⟩ (.slice none 0 0)).setCell ⟨n2 + 1, 0, none⟩ (.int .i64 4301)) (n := n2) (W := W) (res := res) (p := ⟨[], []⟩) (code := 4301) ((((HX2.out.put1 _).put2 _).other (by omega) 0 _)) (((HX3.out.other hne 0 _).other hne 1 _).put _) HR.out.symm (fun X _ => treV_nil X) (((HB.out.setCell (p := ⟨n2, 0, none⟩) (Nat.le_of_eq HN2.out.symm) _).setCell (p := ⟨n2, 1, none⟩) (Nat.le_of_eq HN2.out.symm) _).setCell (p := ⟨n2 + 1, 0, none⟩) (by have := HN2.out; show W.heap.size ≤ n2 + 1; omega) _))
  clear c0 c1 f0 f1 l2 c1A f1A d0B e0B
  generalize ((W2.setCell ⟨n2, 0, none⟩ (.slice none 0 0)).setCell ⟨n2, 1, none⟩ (.slice none 0 0)).setCell ⟨n2 + 1, 0, none⟩ (.int .i64 4301) = X at HF ⊢
  obtain ⟨c0, c1, d0, hP⟩ := HF.out
  simp [bodyPostD, Leaves, settle, results, Tryz.results14, go_sem, c0, c1, d0]
  exact hP
 ·rw [if_neg h1]
  rw [hsz, if_neg h1] at hR
  by_cases hk : kindN s.data.toList = 2
  ·rw [if_pos hk]
   rw [if_pos hk] at hR
   unfold Fm.parseC at hR
   have HR := Lib.hid hR
   clear hR hk
   have hb5 : Below W2.heap.size W2 (W2.alloc (.cells #[.string s] 96)) := (Below.refl _ _).alloc (Nat.le_refl _) _
   have HS : Hid (RdS (W2.alloc (.cells #[.string s] 96)) W2.heap.size (Fm.linesT s.data.toList).1 (Fm.linesT s.data.toList).2) := Lib.hid ⟨⟨s, Bx.new W2 [.string s] 96, rfl, by omega⟩, by have := HZ.out; have := HS8.out; omega⟩
   have HX25 := Lib.hid (HX2.out.keep hb5)
   have HX35 := Lib.hid (HX3.out.keep hb5)
   have HL5 := Lib.hid (HL.out.keep hb5)
   have HB5 := Lib.hid (below_call HB.out hb5)
   clear hb5
   go_wp2_with fail
   have hbn : n2 + 2 ≤ W2.heap.size := by have := HZ.out; omega
   generalize W2.alloc (.cells #[.string s] 96) = W3 at HS HX25 HX35 HL5 HB5 ⊢
   generalize W2.heap.size = b at HS hbn ⊢
   have HC := Lib.hid (tree44 W3 b _ _ HS.out HL5.out)
   refine HC.out.mono ?_
   rintro e W4 h4
   cases hq : Fm.rdTree (Fm.linesT s.data.toList).1 with
   | none =>
    rw [hq] at h4
    have HRN : Hid (res = (⟨[], []⟩, 4301)) := Lib.hid (by rw [← HR.out, hq])
    obtain ⟨rfl, hG⟩ := h4.no
    have hx2 := HX25.out.grown hG (by omega)
    have hx3 := HX35.out.grown hG (by omega)
    have HB6 : Hid (Below W.heap.size W W4) := Lib.hid (HB5.out.trans ⟨hG.os, hG.tape, hG.output, hG.size, fun k hk => hG.block k (Nat.lt_of_lt_of_le hk HB5.out.size) (fun e => by have := HN2.out; injection e with e; omega)⟩)
    clear h4 hG HC hq
    unfold malP
    go_wp2
    refine leaves_cons (f := 43) (args := #[.pointer (some ⟨n2, 0, none⟩), .pointer (some ⟨n2 + 1, 0, none⟩)]) (by simp) (by simp [go_sem]) ?_
    refine (catch43_panic n2 (n2 + 1) _ _ _ [] W4 hx2 hx3 (by omega)).mono ?_
    rintro e u' w'' ⟨rfl, rfl, rfl⟩
    have HF := Lib.hid (fin14 (X := ((W4.setCell ⟨n2, 0, none⟩ (.slice none 0 0)).setCell ⟨n2, 1, none⟩ (.slice none 0 0)).setCell ⟨n2 + 1, 0, none⟩ (.int .i64 4301)) (n := n2) (W := W) (res := res) (p := ⟨[], []⟩) (code := 4301) ((((hx2.put1 _).put2 _).other (b := n2 + 1) (by omega) 0 _)) (((hx3.other (b := n2) (by omega) 0 _).other (b := n2) (by omega) 1 _).put _) HRN.out (fun X _ => treV_nil X) (((HB6.out.setCell (p := ⟨n2, 0, none⟩) (Nat.le_of_eq HN2.out.symm) _).setCell (p := ⟨n2, 1, none⟩) (Nat.le_of_eq HN2.out.symm) _).setCell (p := ⟨n2 + 1, 0, none⟩) (by have := HN2.out; show W.heap.size ≤ n2 + 1; omega) _))
    clear hx2 hx3
    generalize ((W4.setCell ⟨n2, 0, none⟩ (.slice none 0 0)).setCell ⟨n2, 1, none⟩ (.slice none 0 0)).setCell ⟨n2 + 1, 0, none⟩ (.int .i64 4301) = X at HF ⊢
    obtain ⟨c0, c1, d0, hP⟩ := HF.out
    simp [Leaves, settle, results, Tryz.results14, go_sem, c0, c1, d0]
    exact hP
   | some pr =>
    obtain ⟨p, r⟩ := pr
    rw [hq] at h4
    obtain ⟨v, rfl, hN, hS, hG⟩ := h4.yes
    obtain ⟨op, np, oe, ne, rfl, -, -⟩ := hN.now
    have hx2 := HX25.out.grown hG (by omega)
    have hx3 := HX35.out.grown hG (by omega)
    have HB4 : Hid (Below W.heap.size W W4) := Lib.hid (HB5.out.trans ⟨hG.os, hG.tape, hG.output, hG.size, fun k hk => hG.block k (Nat.lt_of_lt_of_le hk HB5.out.size) (fun e => by have := HN2.out; injection e with e; omega)⟩)
    have HNW := Lib.hid hN
    have HLW := Lib.hid (HL5.out.keepG hG (by have := HS8.out; omega))
    have HS4 : Hid (RdS ((W4.setCell ⟨n2, 0, none⟩ (.slice op p.root.length np)).setCell ⟨n2, 1, none⟩ (.slice oe p.cells.length ne)) b r (Fm.linesT s.data.toList).2) := Lib.hid ((hS.other (n := n2) _ (by omega)).other (n := n2) _ (by omega))
    have HX26 := Lib.hid ((hx2.put1 (.slice op p.root.length np)).put2 (.slice oe p.cells.length ne))
    have HX36 := Lib.hid ((hx3.other (b := n2) (by omega) 0 (.slice op p.root.length np)).other (b := n2) (by omega) 1 (.slice oe p.cells.length ne))
    have HW3 := Lib.hid hG.size
    have HBT := Lib.hid HS.out.lt
    have HLE : Hid (n2 + 2 ≤ W3.heap.size) := Lib.hid HX35.out.lt
    have c0 := hx2.c 0 _ rfl
    have c1 := hx2.c 1 _ rfl
    have f0 := hx2.f 0
    have f1 := hx2.f 1
    have l2 := hx2.lt
    have hA := hx2.put1 (.slice op p.root.length np)
    have c1A := hA.c 1 _ rfl
    have f1A := hA.f 1
    clear h4 hN hS hG HC hx2 hx3 hA
    go_wp2_with fail
    have hbel : Below n2 W4 ((W4.setCell ⟨n2, 0, none⟩ (.slice op p.root.length np)).setCell ⟨n2, 1, none⟩ (.slice oe p.cells.length ne)) := (((Below.refl _ _).setCell (p := ⟨n2, 0, none⟩) (Nat.le_refl _) _).setCell (p := ⟨n2, 1, none⟩) (Nat.le_refl _) _)
    have hblk : ∀ k, k ≠ n2 → ((W4.setCell ⟨n2, 0, none⟩ (.slice op p.root.length np)).setCell ⟨n2, 1, none⟩ (.slice oe p.cells.length ne)).heap[k]? = W4.heap[k]? := fun k hk => (Below.heap_setCell _ ⟨n2, 1, none⟩ _ k hk).trans (Below.heap_setCell _ ⟨n2, 0, none⟩ _ k hk)
    have HL6 := Lib.hid (HLW.out.low (hbel.mono HS8.out))
    have HBL := Lib.hid hblk
    have HB6 : Hid (Below W.heap.size W ((W4.setCell ⟨n2, 0, none⟩ (.slice op p.root.length np)).setCell ⟨n2, 1, none⟩ (.slice oe p.cells.length ne))) := Lib.hid (HB4.out.trans (hbel.mono (Nat.le_of_eq HN2.out.symm)))
    have hsz6 : ((W4.setCell ⟨n2, 0, none⟩ (.slice op p.root.length np)).setCell ⟨n2, 1, none⟩ (.slice oe p.cells.length ne)).heap.size = W4.heap.size := by simp [World.setCell]
    have HSZ6 := Lib.hid hsz6
    clear hbel hblk c0 c1 f0 f1 l2 c1A f1A hsz6
    generalize ((W4.setCell ⟨n2, 0, none⟩ (.slice op p.root.length np)).setCell ⟨n2, 1, none⟩ (.slice oe p.cells.length ne)) = W6 at HS4 HX26 HX36 HL6 HBL HB6 HSZ6 ⊢
    refine (finish40 W6 b r _ HS4.out HL6.out).mono ?_
    rintro e W7 ⟨he, hG7⟩
    have hx2 := HX26.out.grown hG7 (by omega)
    have hx3 := HX36.out.grown hG7 (by omega)
    cases hend : Fm.rdEnd r (Fm.linesT s.data.toList).2 with
    | false =>
     rw [hend] at he
     have HRN : Hid (res = (⟨[], []⟩, 4301)) := Lib.hid (by rw [← HR.out, hq]; simp [hend])
     have HB4 := HB6
     have HB6 : Hid (Below W.heap.size W W7) := Lib.hid (HB4.out.trans ⟨hG7.os, hG7.tape, hG7.output, hG7.size, fun k hk => hG7.block k (Nat.lt_of_lt_of_le hk HB4.out.size) (fun e => by have := HN2.out; injection e with e; omega)⟩)
     simp only [Bool.false_eq_true, if_false] at he
     subst he
     clear hG7 hend hq
     unfold malP
     go_wp2
     refine leaves_cons (f := 43) (args := #[.pointer (some ⟨n2, 0, none⟩), .pointer (some ⟨n2 + 1, 0, none⟩)]) (by simp) (by simp [go_sem]) ?_
     refine (catch43_panic n2 (n2 + 1) _ _ _ [] W7 hx2 hx3 (by omega)).mono ?_
     rintro e u' w'' ⟨rfl, rfl, rfl⟩
     have HF := Lib.hid (fin14 (X := ((W7.setCell ⟨n2, 0, none⟩ (.slice none 0 0)).setCell ⟨n2, 1, none⟩ (.slice none 0 0)).setCell ⟨n2 + 1, 0, none⟩ (.int .i64 4301)) (n := n2) (W := W) (res := res) (p := ⟨[], []⟩) (code := 4301) ((((hx2.put1 _).put2 _).other (b := n2 + 1) (by omega) 0 _)) (((hx3.other (b := n2) (by omega) 0 _).other (b := n2) (by omega) 1 _).put _) HRN.out (fun X _ => treV_nil X) (((HB6.out.setCell (p := ⟨n2, 0, none⟩) (Nat.le_of_eq HN2.out.symm) _).setCell (p := ⟨n2, 1, none⟩) (Nat.le_of_eq HN2.out.symm) _).setCell (p := ⟨n2 + 1, 0, none⟩) (by have := HN2.out; show W.heap.size ≤ n2 + 1; omega) _))
     clear hx2 hx3
     generalize ((W7.setCell ⟨n2, 0, none⟩ (.slice none 0 0)).setCell ⟨n2, 1, none⟩ (.slice none 0 0)).setCell ⟨n2 + 1, 0, none⟩ (.int .i64 4301) = X at HF ⊢
     obtain ⟨c0, c1, d0, hP⟩ := HF.out
     simp [Leaves, settle, results, Tryz.results14, go_sem, c0, c1, d0]
     exact hP
    | true =>
     rw [hend] at he
     simp only [if_true] at he
     subst he
     have HB7 : Hid (Below W.heap.size W W7) := Lib.hid (HB6.out.trans ⟨hG7.os, hG7.tape, hG7.output, hG7.size, fun k hk => hG7.block k (Nat.lt_of_lt_of_le hk HB6.out.size) (fun e => by have := HN2.out; injection e with e; omega)⟩)
     have HN7 : Hid (∀ X : World, (∀ k, k ≠ n2 → k ≠ n2 + 1 → W.heap.size ≤ k → k < W7.heap.size → X.heap[k]? = W7.heap[k]?) → TreV (.agg #[.slice op p.root.length np, .slice oe p.cells.length ne]) p X) := Lib.hid (fun X hX => HNW.out X fun k hk => by
      have h1 := hk.1; have h2 := hk.2
      have h3 := HLE.out
      have h4 : k < W6.heap.size := by rw [HSZ6.out]; exact h2
      rw [hX k (by omega) (by omega) (by have := HB5.out.size; omega) (Nat.lt_of_lt_of_le h4 hG7.size), hG7.block k h4 (fun e => by have h5 := HBT.out; injection e with e; omega), HBL.out k (by omega)])
     have hlow : ∀ X, Below W7.heap.size W7 X → TreeAt X (.agg #[.slice op p.root.length np, .slice oe p.cells.length ne]) p := fun X hX => (HN7.out X fun k _ _ _ h4 => hX.block k h4).at
     have hsm := tree_small hq (by have := (Fm.lines_un s.data.toList); have h5 := congrArg List.length this; rw [List.length_append, hsz] at h5; omega)
     have c0 := hx2.c 0 _ rfl
     have c1 := hx2.c 1 _ rfl
     have l2 := hx2.lt
     have HV := Lib.hid (valid46 W7 _ p (hlow W7 (Below.refl _ _)) hsm.1 hsm.2)
     have HX27 := Lib.hid hx2
     have HX37 := Lib.hid hx3
     have HEN := Lib.hid (And.intro hq hend)
     clear hG7 hend hq hlow hsm hx2 hx3
     go_wp2_with fail
     refine HV.out.mono ?_
     clear HV c0 c1 l2
     rintro e W8 ⟨rfl, hb8⟩
     have hx2 := HX27.out.keep hb8
     have hx3 := HX37.out.keep hb8
     have HB8 := Lib.hid (below_call HB7.out hb8)
     have HN8 : Hid (∀ X : World, (∀ k, k ≠ n2 → k ≠ n2 + 1 → W.heap.size ≤ k → k < W8.heap.size → X.heap[k]? = W8.heap[k]?) → TreV (.agg #[.slice op p.root.length np, .slice oe p.cells.length ne]) p X) := Lib.hid (fun X hX => HN7.out X fun k h1 h2 h3 h4 => (hX k h1 h2 h3 (Nat.lt_of_lt_of_le h4 hb8.size)).trans (hb8.block k h4))
     clear hb8 HX27 HX37 HB7 HN7
     have HB7 := HB8
     have HN7 := HN8
     cases hvt : Fm.validT p with
     | false =>
      have HRN : Hid (res = (⟨[], []⟩, 4301)) := Lib.hid (by rw [← HR.out, HEN.out.1]; simp [hvt])
      have HB6 := HB7
      have HND := Lib.hid (need_no W8)
      go_wp2_with fail
      refine HND.out.mono ?_
      rintro e W9 ⟨rfl, hw9⟩
      subst hw9
      clear HND
      go_wp2
      refine leaves_cons (f := 43) (args := #[.pointer (some ⟨n2, 0, none⟩), .pointer (some ⟨n2 + 1, 0, none⟩)]) (by simp) (by simp [go_sem]) ?_
      refine (catch43_panic n2 (n2 + 1) _ _ _ [] W9 hx2 hx3 (by omega)).mono ?_
      rintro e u' w'' ⟨rfl, rfl, rfl⟩
      have HF := Lib.hid (fin14 (X := ((W9.setCell ⟨n2, 0, none⟩ (.slice none 0 0)).setCell ⟨n2, 1, none⟩ (.slice none 0 0)).setCell ⟨n2 + 1, 0, none⟩ (.int .i64 4301)) (n := n2) (W := W) (res := res) (p := ⟨[], []⟩) (code := 4301) ((((hx2.put1 _).put2 _).other (b := n2 + 1) (by omega) 0 _)) (((hx3.other (b := n2) (by omega) 0 _).other (b := n2) (by omega) 1 _).put _) HRN.out (fun X _ => treV_nil X) (((HB6.out.setCell (p := ⟨n2, 0, none⟩) (Nat.le_of_eq HN2.out.symm) _).setCell (p := ⟨n2, 1, none⟩) (Nat.le_of_eq HN2.out.symm) _).setCell (p := ⟨n2 + 1, 0, none⟩) (by have := HN2.out; show W.heap.size ≤ n2 + 1; omega) _))
      clear hx2 hx3
      generalize ((W9.setCell ⟨n2, 0, none⟩ (.slice none 0 0)).setCell ⟨n2, 1, none⟩ (.slice none 0 0)).setCell ⟨n2 + 1, 0, none⟩ (.int .i64 4301) = X at HF ⊢
      obtain ⟨c0, c1, d0, hP⟩ := HF.out
      simp [Leaves, settle, results, Tryz.results14, go_sem, c0, c1, d0]
      exact hP
     | true =>
      have HRN : Hid (res = (p, 0)) := Lib.hid (by rw [← HR.out, HEN.out.1]; simp [HEN.out.2, hvt])
      have HND := Lib.hid (need_yes W8)
      have c0 := hx2.c 0 _ rfl
      have c1 := hx2.c 1 _ rfl
      have l2 := hx2.lt
      go_wp2_with fail
      refine HND.out.mono ?_
      rintro e W9 ⟨rfl, hw9⟩
      subst hw9
      clear HND c0 c1 l2
      have c0 := hx2.c 0 _ rfl
      have c1 := hx2.c 1 _ rfl
      have f0 := hx2.f 0
      have f1 := hx2.f 1
      have l2 := hx2.lt
      have hA := hx2.put1 (.slice op p.root.length np)
      have c1A := hA.c 1 _ rfl
      have f1A := hA.f 1
      have hB := (hx3.other (b := n2) (by omega) 0 (.slice op p.root.length np)).other (b := n2) (by omega) 1 (.slice oe p.cells.length ne)
      have d0 := hB.c 0 _ rfl
      have g0 := hB.f 0
      clear hA hB
      go_wp2
      have HF := Lib.hid (fin14 (X := ((W9.setCell ⟨n2, 0, none⟩ (.slice op p.root.length np)).setCell ⟨n2, 1, none⟩ (.slice oe p.cells.length ne)).setCell ⟨n2 + 1, 0, none⟩ (.int .i64 0)) (n := n2) (W := W) (res := res) (p := p) (code := 0) ((((hx2.put1 _).put2 _).other (b := n2 + 1) (by omega) 0 _)) (((hx3.other (b := n2) (by omega) 0 _).other (b := n2) (by omega) 1 _).put _) HRN.out (fun X hX => HN7.out X fun k h1 h2 h5 h3 => by
       rw [hX k ⟨h5, by simp [World.setCell]; exact h3⟩]
       exact (Below.heap_setCell _ ⟨n2 + 1, 0, none⟩ _ k h2).trans ((Below.heap_setCell _ ⟨n2, 1, none⟩ _ k h1).trans (Below.heap_setCell _ ⟨n2, 0, none⟩ _ k h1))) (((HB7.out.setCell (p := ⟨n2, 0, none⟩) (Nat.le_of_eq HN2.out.symm) _).setCell (p := ⟨n2, 1, none⟩) (Nat.le_of_eq HN2.out.symm) _).setCell (p := ⟨n2 + 1, 0, none⟩) (by have := HN2.out; show W.heap.size ≤ n2 + 1; omega) _))
      clear hx2 hx3 c0 c1 f0 f1 l2 c1A f1A d0 g0
      generalize ((W9.setCell ⟨n2, 0, none⟩ (.slice op p.root.length np)).setCell ⟨n2, 1, none⟩ (.slice oe p.cells.length ne)).setCell ⟨n2 + 1, 0, none⟩ (.int .i64 0) = X at HF ⊢
      refine leaves_cons (f := 43) (args := #[.pointer (some ⟨n2, 0, none⟩), .pointer (some ⟨n2 + 1, 0, none⟩)]) (by simp) (by simp [go_sem]) ?_
      refine (catch43_idle ⟨n2, 0, none⟩ ⟨n2 + 1, 0, none⟩ X).mono ?_
      rintro e u' w'' ⟨rfl, rfl, rfl⟩
      obtain ⟨c0, c1, d0, hP⟩ := HF.out
      simp [Leaves, settle, results, Tryz.results14, go_sem, c0, c1, d0]
      exact hP
  ·rw [if_neg hk]
   rw [if_neg hk] at hR
   have HR := Lib.hid hR
   clear hR hk
   have c0 := HX2.out.c 0 _ rfl
   have c1 := HX2.out.c 1 _ rfl
   have f0 := HX2.out.f 0
   have f1 := HX2.out.f 1
   have l2 := HX2.out.lt
   have hA := HX2.out.put1 (.slice none 0 0)
   have c1A := hA.c 1 _ rfl
   have f1A := hA.f 1
   have hne : n2 + 1 ≠ n2 := by omega
   have h3B := (HX3.out.other hne 0 (.slice none 0 0)).other hne 1 (.slice none 0 0)
   have d0B := h3B.c 0 _ rfl
   have e0B := h3B.f 0
   clear hA h3B
   go_wp2
   have HF := Lib.hid (fin14 (X := ((W2.setCell ⟨n2, 0, none⟩ (.slice none 0 0)).setCell ⟨n2, 1, none⟩ (.slice none 0 0)).setCell ⟨n2 + 1, 0, none⟩ (.int .i64 4302)) (n := n2) (W := W) (res := res) (p := ⟨[], []⟩) (code := 4302) ((((HX2.out.put1 _).put2 _).other (by omega) 0 _)) (((HX3.out.other hne 0 _).other hne 1 _).put _) HR.out.symm (fun X _ => treV_nil X) (((HB.out.setCell (p := ⟨n2, 0, none⟩) (Nat.le_of_eq HN2.out.symm) _).setCell (p := ⟨n2, 1, none⟩) (Nat.le_of_eq HN2.out.symm) _).setCell (p := ⟨n2 + 1, 0, none⟩) (by have := HN2.out; show W.heap.size ≤ n2 + 1; omega) _))
   clear c0 c1 f0 f1 l2 c1A f1A d0B e0B
   generalize ((W2.setCell ⟨n2, 0, none⟩ (.slice none 0 0)).setCell ⟨n2, 1, none⟩ (.slice none 0 0)).setCell ⟨n2 + 1, 0, none⟩ (.int .i64 4302) = X at HF ⊢
   obtain ⟨c0, c1, d0, hP⟩ := HF.out
   simp [bodyPostD, Leaves, settle, results, Tryz.results14, go_sem, c0, c1, d0]
   exact hP
end Go.Proofs.Ng
end

section
/-
 Walks: a document with a change.
-/
namespace Go.Proofs.Ng
open Go.RowKit
theorem round26 (n k : Int) (h3 : 0 < k) (h4 : k ≤ 9223372036854775807) (w : World) : Calls Tryz.prog 8 #[.int .i64 n, .int .i64 k] w (fun e w' => e = .returned (.int .i64 (n % k)) ∧ w' = w) :=
 (round_any n k w h3 h4).mono fun _ _ ⟨h, h'⟩ => ⟨h, h'.symm⟩
theorem cat_any (a b : ByteArray) (h : a.size + b.size ≤ 9223372036854775807) : ∃ u : ByteArray, u.size = a.size + b.size ∧ ∀ W, (Op.stringOp .add a b).run Tryz.prog W = .ok (.string u) W :=
 ⟨a ++ b, by simp, fun W => run_string_add_sum (w := W) a b h⟩
theorem cut_any (s : ByteArray) (i j : Nat) (h1 : i ≤ j) (h2 : j ≤ s.size) : ∃ u : ByteArray, u.size = j - i ∧ ∀ W, (Instr.slice 9 (.string s) (some (.int .i64 (i : Nat))) (some (.int .i64 (j : Nat))) none).run Tryz.prog W = .ok (.string u) W :=
 ⟨s.extract i j, by simp; omega, fun W => by
  have := run_slice_string (P := Tryz.prog) W 9 s .i64 .i64 (i : Int) (j : Int) under9 (by omega) (by omega) (by omega)
  simpa using this⟩
theorem to_any (s : ByteArray) (j : Nat) (h2 : j ≤ s.size) : ∃ u : ByteArray, u.size = j ∧ ∀ W, (Instr.slice 9 (.string s) none (some (.int .i64 (j : Nat))) none).run Tryz.prog W = .ok (.string u) W :=
 ⟨s.extract 0 j, by simp; omega, fun W => by
  have := run_slice_string_h (P := Tryz.prog) W 9 s under9 .i64 (j : Int) (by omega) (by omega)
  simpa using this⟩
theorem frm_any (s : ByteArray) (i : Nat) (h2 : i ≤ s.size) : ∃ u : ByteArray, u.size = s.size - i ∧ ∀ W, (Instr.slice 9 (.string s) (some (.int .i64 (i : Nat))) none none).run Tryz.prog W = .ok (.string u) W :=
 ⟨s.extract i s.size, by simp, fun W => by
  have := run_slice_string_l (P := Tryz.prog) W 9 s under9 .i64 (i : Int) (by omega) (by omega)
  simpa using this⟩
set_option maxRecDepth 100000 in
set_option maxHeartbeats 4000000 in
theorem damaged10 (s : ByteArray) (how at' x : Int) (hs : s.size ≤ 2000000) : ∃ t : ByteArray, t.size ≤ s.size + 1 ∧ ∀ w, Calls Tryz.prog 24 #[.string s, .int .i64 how, .int .i64 at', .int .i64 x] w (fun e W' => e = .returned (.string t) ∧ Below w.heap.size w W') := by
 by_cases h0 : s.size = 0
 ·refine ⟨s, by omega, fun w => ?_⟩
  have h0' : ((s.size : Int) == 0) = true := by simp [h0]
  go_enter Tryz.func24, Tryz.ntmps24
  go_wp2_with fail
  go_ret
  exact ⟨rfl, Below.refl _ _⟩
 ·have h0' : ((s.size : Int) == 0) = false := beq_false_of_ne (by omega)
  have HR := Lib.hid (fun (n k : Int) (h3 : 0 < k) (h4 : k ≤ 9223372036854775807) (w : World) => round26 n k h3 h4 w)
  obtain ⟨k, hk⟩ : ∃ k : Nat, at' % (s.size : Int) = (k : Int) := ⟨(at' % (s.size : Int)).toNat, by have := Int.emod_nonneg at' (b := (s.size : Int)) (by omega); omega⟩
  have hks : k < s.size := by have := Int.emod_lt_of_pos at' (b := (s.size : Int)) (by omega); omega
  obtain ⟨y, hy⟩ : ∃ y : Nat, x % 11 = (y : Int) := ⟨(x % 11).toNat, by omega⟩
  have hy11 : y < 11 := by omega
  obtain ⟨h, hh⟩ : ∃ h : Nat, how % 5 = (h : Int) := ⟨(how % 5).toNat, by omega⟩
  have hh5 : h < 5 := by omega
  have HK := Lib.hid hk
  have HY := Lib.hid hy
  have HH := Lib.hid hh
  clear hk hy hh
  obtain ⟨c, hcs, hc⟩ := cut_any ⟨#[32, 48, 45, 57, 10, 101, 110, 100, 120, 43, 49]⟩ y (y + 1) (by omega) (show y + 1 ≤ 11 by omega)
  obtain ⟨s1, hs1, hr1⟩ := to_any s k (by omega)
  obtain ⟨s2, hs2, hr2⟩ := frm_any s k (by omega)
  obtain ⟨s3, hs3, hr3⟩ := frm_any s (k + 1) (by omega)
  obtain ⟨u13, hu13, hr13⟩ := cat_any s1 s3 (by omega)
  obtain ⟨u1, hu1, hrc1⟩ := cat_any s1 c (by omega)
  obtain ⟨u2, hu2, hrc2⟩ := cat_any u1 s2 (by omega)
  obtain ⟨u3, hu3, hrc3⟩ := cat_any u1 s3 (by omega)
  obtain ⟨u4, hu4, hrc4⟩ := cat_any s c (by omega)
  simp only [Int.natCast_add, Int.cast_ofNat_Int] at hc hr3
  have hw1 : IntKind.i64.wrap ((y : Int) + 1) = (y : Int) + 1 := IntWalk.i64_in _ (by omega)
  have hw2 : IntKind.i64.wrap ((k : Int) + 1) = (k : Int) + 1 := IntWalk.i64_in _ (by omega)
  obtain ⟨t, ht⟩ : ∃ t, t = (if h = 0 then u13 else if h = 1 then u2 else if h = 2 then u3 else if h = 3 then s1 else u4) := ⟨_, rfl⟩
  refine ⟨t, ?_, fun w => ?_⟩
  ·rw [ht]
   split
   ·omega
   ·split
    ·omega
    ·split
     ·omega
     ·split <;> omega
  have HT := Lib.hid ht
  clear ht hu13 hu1 hu2 hu3 hu4 hcs hs1 hs2 hs3
  go_enter Tryz.func24, Tryz.ntmps24
  go_wp2_with fail
  refine (HR.out at' s.size (by omega) (by omega) w).mono ?_
  rintro e W1 ⟨rfl, hw⟩
  subst hw
  rw [HK.out]
  go_wp2_with fail
  refine (HR.out x 11 (by omega) (by omega) W1).mono ?_
  rintro e W2 ⟨rfl, hw⟩
  subst hw
  rw [HY.out]
  go_wp2_with fail
  refine (HR.out x 11 (by omega) (by omega) W2).mono ?_
  rintro e W3 ⟨rfl, hw⟩
  subst hw
  rw [HY.out]
  go_wp2_with fail
  refine (HR.out how 5 (by omega) (by omega) W3).mono ?_
  rintro e W4 ⟨rfl, hw⟩
  subst hw
  rw [HH.out]
  have HB : Hid (∀ n, Below W4.heap.size W4 (W4.drewN n)) := Lib.hid (fun n => below_drew W4 n)
  have HB0 := Lib.hid (Below.refl W4.heap.size W4)
  by_cases e0 : h = 0
  ·subst e0
   go_wp2_with fail
   go_quiet (fail)
   have HB1 := Lib.hid (HB.out nq)
   generalize W4.drewN nq = V at HB1 ⊢
   go_wp2
   go_ret
   exact ⟨by rw [HT.out]; rfl, HB1.out⟩
  ·by_cases e1 : h = 1
   ·subst e1
    go_wp2_with fail
    go_quiet (fail)
    have HB1 := Lib.hid (HB.out nq)
    generalize W4.drewN nq = V at HB1 ⊢
    go_wp2
    go_ret
    exact ⟨by rw [HT.out]; rfl, HB1.out⟩
   ·by_cases e2 : h = 2
    ·subst e2
     go_wp2_with fail
     go_quiet (fail)
     have HB1 := Lib.hid (HB.out nq)
     generalize W4.drewN nq = V at HB1 ⊢
     go_wp2
     go_ret
     exact ⟨by rw [HT.out]; rfl, HB1.out⟩
    ·by_cases e3 : h = 3
     ·subst e3
      go_wp2
      go_ret
      exact ⟨by rw [HT.out]; rfl, HB0.out⟩
     ·have e4 : h = 4 := by omega
      subst e4
      go_wp2
      go_ret
      exact ⟨by rw [HT.out]; rfl, HB0.out⟩
end Go.Proofs.Ng
end

section
/-
 Walks: small paths.
-/
namespace Go.Proofs.Ng
open Go.RowKit
def sumW {A : Type} (f : A → Nat) (l : List A) : Nat := (l.map f).sum
theorem sumW_le {A : Type} (f : A → Nat) {B : Nat} : ∀ {l : List A}, (∀ x ∈ l, f x ≤ B) → sumW f l ≤ l.length * B
 | [], _ => by simp [sumW]
 | x :: l, h => by
  have h1 := sumW_le f (l := l) (fun y hy => h y (by simp [hy]))
  have h2 := h x (by simp)
  simp only [sumW, List.map_cons, List.sum_cons, List.length_cons] at *
  rw [Nat.add_mul]; omega
def edgeW (e : Fm.EdgeD) : Nat := e.table.length + e.uses.length + sumW (fun u : Fm.UseD => u.nums.length) e.uses
/-- A small path. -/
structure SmP (p : Fm.PathD) : Prop where
 np : p.pts.length ≤ 12
 ne : p.edges.length ≤ 12
 cnt : sumW List.length p.pts + sumW edgeW p.edges < 400
end Go.Proofs.Ng
end

section
/-
 Walks: the law's paths.
-/
namespace Go.Proofs.Ng
open Go.RowKit
theorem flT_mem {A : Type} {f : A → List UInt8} {x : A} : ∀ {l : List A}, x ∈ l → (f x).length ≤ (flT f l).length
 | y :: l, h => by
  rcases List.mem_cons.1 h with rfl | h
  ·simp only [flT, List.map_cons, List.flatten_cons, List.length_append]; omega
  ·have := flT_mem (f := f) h
   simp only [flT, List.map_cons, List.flatten_cons, List.length_append] at this ⊢; omega
theorem lineT_ge (kw : List UInt8) (ns : List Int) : ns.length ≤ (Fm.lineT kw ns).length := by
 have h := flT_ge (f := Fm.numT) (fun x => by simp [Fm.numT]) ns
 rw [lineT_eq, List.length_append, List.length_append]
 have e : numsT ns = flT Fm.numT ns := rfl
 rw [e]
 omega
theorem small_of_doc {p : Fm.PathD} (h : (Fm.docT p).length ≤ 1000000000) : PathSmall p := by
 have hl : (Fm.pathT p).length ≤ 1000000000 := by unfold Fm.docT at h; rw [List.length_append] at h; omega
 rw [pathT_eq, List.length_append, List.length_append] at hl
 refine ⟨?_, fun q hq => ?_, ?_, fun e he => ?_⟩
 ·have := flT_ge (f := Fm.lineT Fm.kwPoint) (fun x => lineT_pos _ _) p.pts; omega
 ·have h1 := flT_mem (f := Fm.lineT Fm.kwPoint) hq
  have h2 := lineT_ge Fm.kwPoint q
  omega
 ·have := flT_ge (f := Fm.edgeT) edgeT_pos p.edges; omega
 ·have h1 := flT_mem (f := Fm.edgeT) he
  rw [edgeT_eq, List.length_append, List.length_append] at h1
  have h2 := flT_ge (f := normT) (fun x => lineT_pos _ _) e.table
  have h3 := flT_ge (f := Fm.useT) (fun x => lineT_pos _ _) e.uses
  refine ⟨by omega, by omega, fun u hu => ?_⟩
  have h4 := flT_mem (f := Fm.useT) hu
  have h5 := lineT_ge Fm.kwUse (u.depth :: u.index :: u.nums)
  have h6 : Fm.useT u = Fm.lineT Fm.kwUse (u.depth :: u.index :: u.nums) := rfl
  rw [h6] at h4
  simp only [List.length_cons] at h5
  omega
end Go.Proofs.Ng
end

section
/-
 Plain law: documents of small paths are short.
-/
namespace Go.Proofs.Ng
open Go.RowKit
/-- All numbers of a path are int64. -/
structure In64 (p : Fm.PathD) : Prop where
 pt : ∀ q ∈ p.pts, ∀ n ∈ q, Fm.inR64 n
 ed : ∀ e ∈ p.edges, (∀ v ∈ e.table, ∀ n ∈ Fm.vecL v, Fm.inR64 n) ∧ ∀ u ∈ e.uses, ∀ n ∈ u.depth :: u.index :: u.nums, Fm.inR64 n
theorem flT_sum {A : Type} (f : A → List UInt8) : ∀ l : List A, (flT f l).length = sumW (fun x => (f x).length) l
 | [] => rfl
 | x :: l => by
  have := flT_sum f l
  simp only [flT, sumW, List.map_cons, List.flatten_cons, List.length_append, List.sum_cons] at *
  omega
theorem sumW_lin {A : Type} (f g : A → Nat) (a b : Nat) : ∀ {l : List A}, (∀ x ∈ l, f x ≤ a + b * g x) → sumW f l ≤ a * l.length + b * sumW g l
 | [], _ => by simp [sumW]
 | x :: l, h => by
  have h1 := sumW_lin f g a b (l := l) (fun y hy => h y (by simp [hy]))
  have h2 := h x (by simp)
  simp only [sumW, List.map_cons, List.sum_cons, List.length_cons] at *
  rw [Nat.mul_add, Nat.mul_add]; omega
theorem sumW_mem {A : Type} (f : A → Nat) {x : A} : ∀ {l : List A}, x ∈ l → f x ≤ sumW f l
 | y :: l, h => by
  rcases List.mem_cons.1 h with rfl | h
  ·simp only [sumW, List.map_cons, List.sum_cons]; omega
  ·have := sumW_mem f h
   simp only [sumW, List.map_cons, List.sum_cons] at *; omega
theorem lineT_le (kw : List UInt8) {ns : List Int} (h : ∀ n ∈ ns, Fm.inR64 n) : (Fm.lineT kw ns).length ≤ kw.length + 21 * ns.length + 1 := by
 have e : numsT ns = flT Fm.numT ns := rfl
 have h1 : (numsT ns).length ≤ ns.length * 21 := by
  rw [e, flT_sum]
  refine sumW_le _ (fun n hn => ?_)
  have := itoa_le (h n hn)
  simp only [Fm.numT, List.length_cons]
  omega
 rw [lineT_eq, List.length_append, List.length_append, List.length_cons, List.length_nil]
 omega
theorem useT_le {u : Fm.UseD} (h : ∀ n ∈ u.depth :: u.index :: u.nums, Fm.inR64 n) : (Fm.useT u).length ≤ 46 + 21 * u.nums.length := by
 have := lineT_le Fm.kwUse h
 have e : Fm.useT u = Fm.lineT Fm.kwUse (u.depth :: u.index :: u.nums) := rfl
 rw [e]
 simp only [List.length_cons, show Fm.kwUse.length = 3 from rfl] at this
 omega
theorem edgeT_le {e : Fm.EdgeD} (hw : edgeW e < 400) (h1 : ∀ v ∈ e.table, ∀ n ∈ Fm.vecL v, Fm.inR64 n) (h2 : ∀ u ∈ e.uses, ∀ n ∈ u.depth :: u.index :: u.nums, Fm.inR64 n) : (Fm.edgeT e).length ≤ 47 + 70 * edgeW e := by
 have hW : edgeW e = e.table.length + e.uses.length + sumW (fun u : Fm.UseD => u.nums.length) e.uses := rfl
 have a1 := lineT_le Fm.kwEdge (ns := [((e.table.length : Nat) : Int), ((e.uses.length : Nat) : Int)]) (by
  intro n hn
  simp only [List.mem_cons, List.not_mem_nil, or_false] at hn
  rcases hn with rfl | rfl <;> (unfold Fm.inR64; omega))
 have a2 : (flT normT e.table).length ≤ 70 * e.table.length + 0 * sumW (fun _ => 0) e.table := by
  rw [flT_sum]
  refine sumW_lin _ _ 70 0 (fun v hv => ?_)
  have := lineT_le Fm.kwNormal (h1 v hv)
  have e2 : normT v = Fm.lineT Fm.kwNormal (Fm.vecL v) := rfl
  rw [e2]
  simp only [show Fm.kwNormal.length = 6 from rfl, show (Fm.vecL v).length = 3 from rfl] at this
  omega
 have a3 : (flT Fm.useT e.uses).length ≤ 46 * e.uses.length + 21 * sumW (fun u : Fm.UseD => u.nums.length) e.uses := by
  rw [flT_sum]
  exact sumW_lin _ _ 46 21 (fun u hu => useT_le (h2 u hu))
 rw [edgeT_eq, List.length_append, List.length_append]
 simp only [show Fm.kwEdge.length = 4 from rfl, List.length_cons, List.length_nil] at a1
 omega
theorem docT_le {p : Fm.PathD} (hs : SmP p) (h : In64 p) : (Fm.docT p).length ≤ 1000000 := by
 have h1 := hs.np
 have h2 := hs.ne
 have h3 := hs.cnt
 have a1 := lineT_le Fm.kwPath (ns := [((p.pts.length : Nat) : Int)]) (by
  intro n hn
  rw [List.mem_singleton] at hn
  subst hn
  unfold Fm.inR64; omega)
 have a2 : (flT (Fm.lineT Fm.kwPoint) p.pts).length ≤ 6 * p.pts.length + 21 * sumW List.length p.pts := by
  rw [flT_sum]
  refine sumW_lin _ _ 6 21 (fun q hq => ?_)
  have := lineT_le Fm.kwPoint (h.pt q hq)
  simp only [show Fm.kwPoint.length = 5 from rfl] at this
  omega
 have a3 : (flT Fm.edgeT p.edges).length ≤ 47 * p.edges.length + 70 * sumW edgeW p.edges := by
  rw [flT_sum]
  refine sumW_lin _ _ 47 70 (fun e he => ?_)
  have hw := sumW_mem edgeW he
  exact edgeT_le (by omega) (h.ed e he).1 (h.ed e he).2
 unfold Fm.docT
 rw [List.length_append, pathT_eq, List.length_append, List.length_append]
 simp only [show Fm.kwPath.length = 4 from rfl, List.length_cons, List.length_nil] at a1
 have a4 : (Fm.lineT Fm.kwEnd []).length = 4 := rfl
 omega
theorem pathOk_of {p : Fm.PathD} (hs : SmP p) (h : In64 p) : Fm.PathOk p := by
 have h1 := hs.np
 have h3 := hs.cnt
 refine ⟨h.pt, by omega, fun e he => ⟨?_, ?_, (h.ed e he).1, (h.ed e he).2⟩⟩
 ·have := sumW_mem edgeW he
  have e2 : edgeW e = e.table.length + e.uses.length + sumW (fun u : Fm.UseD => u.nums.length) e.uses := rfl
  omega
 ·have := sumW_mem edgeW he
  have e2 : edgeW e = e.table.length + e.uses.length + sumW (fun u : Fm.UseD => u.nums.length) e.uses := rfl
  omega
theorem mk_small {p : Fm.PathD} (h : MkPath p) : SmP p := by
 refine ⟨by have := h.np; omega, by have := h.ne; omega, ?_⟩
 have a1 := sumW_le List.length (l := p.pts) (B := 3) (fun q hq => (h.pt q hq).1)
 have a2 := sumW_le edgeW (l := p.edges) (B := 8) (fun e he => by
  obtain ⟨b1, -, b3, b4⟩ := h.ed e he
  have b5 := sumW_le (fun u : Fm.UseD => u.nums.length) (l := e.uses) (B := 2) (fun u hu => (b4 u hu).1)
  have e2 : edgeW e = e.table.length + e.uses.length + sumW (fun u : Fm.UseD => u.nums.length) e.uses := rfl
  omega)
 have := h.np
 have := h.ne
 omega
theorem mk_in {p : Fm.PathD} (h : MkPath p) : In64 p := ⟨fun q hq => (h.pt q hq).2, fun e he => ⟨(h.ed e he).2.1, fun u hu => ((h.ed e he).2.2.2 u hu).2⟩⟩
end Go.Proofs.Ng
end

section
/-
 Walks: the law's awake.
-/
namespace Go.Proofs.Ng
open Go.RowKit
theorem sl_of_bx {W : World} {b n : Nat} {rows : List (List Value)} {ty : TypeId} (h : Bx W b rows.flatten ty) (hn : ∀ r ∈ rows, r.length = n) : Sl W (some ⟨b, 0, none⟩) n rows :=
 fun _ => ⟨b, 0, rfl, ⟨h.lt, fun i r hi k v hv => by rw [Nat.zero_add]; exact h.c _ _ (flat_get rows n hn i r hi k v hv)⟩⟩
/-- The path of the example. -/
def p0 : Fm.PathD := ⟨[[0], [5]], [⟨[], [⟨0, 0, []⟩]⟩]⟩
def s0 : List UInt8 := [112, 97, 116, 104, 32, 50, 10, 112, 111, 105, 110, 116, 32, 48, 10, 112, 111, 105, 110, 116, 32, 53, 10, 101, 100, 103, 101, 32, 48, 32, 49, 10, 117, 115, 101, 32, 48, 32, 48, 10, 101, 110, 100, 10]
theorem doc0 : Fm.docT p0 = s0 := by kernel_rfl
theorem right0 : Fm.rightP p0 = true := by kernel_rfl
theorem mk0 : MkPath p0 := by
 refine ⟨by decide, ?_, by decide, ?_, right0⟩
 ·intro q hq
  simp [p0] at hq
  rcases hq with rfl | rfl <;> exact ⟨by decide, by intro n hn; simp at hn; subst hn; unfold Fm.inR64; omega⟩
 ·intro e he
  simp [p0] at he
  subst he
  refine ⟨by decide, (fun v hv => by cases hv), by decide, ?_⟩
  intro u hu
  simp at hu
  subst hu
  exact ⟨by decide, by intro n hn; simp at hn; subst hn; unfold Fm.inR64; omega⟩
theorem fmt0 : Fm.formatP p0 = some s0 := by
 rw [formatP_yes right0 (by rw [doc0]; decide), doc0]
theorem kind0 : kindN s0 = 1 := by kernel_rfl
theorem parse0 : parseRes s0 = (p0, 0) := by
 unfold parseRes
 rw [if_neg (by decide), if_pos kind0]
 have h : Fm.parseP s0 = some p0 := by
  rw [← doc0]
  exact Fm.doc_parse (pathOk_of (mk_small mk0) (mk_in mk0)) right0
 rw [h]
/-- The blocks of the example. -/
theorem made0 (w : World) (W : World) (h0 : W = (((((w.alloc (.cells #[.int .i64 0] 2)).alloc (.cells #[.int .i64 5] 2)).alloc (.cells #[.slice (some ⟨w.heap.size, 0, none⟩) 1 1, .slice (some ⟨w.heap.size + 1, 0, none⟩) 1 1] 68)).alloc (.cells #[.int .i64 0, .int .i64 0, .slice none 0 0] 75)).alloc (.cells #[.slice none 0 0, .slice (some ⟨w.heap.size + 1 + 1 + 1, 0, none⟩) 1 1] 73))) :
  PathAt W (.agg #[.slice (some ⟨w.heap.size + 1 + 1, 0, none⟩) 2 2, .slice (some ⟨w.heap.size + 1 + 1 + 1 + 1, 0, none⟩) 1 1]) p0 ∧ Below w.heap.size w W ∧ W.heap.size = w.heap.size + 1 + 1 + 1 + 1 + 1 := by
 have b1 : Below w.heap.size w (w.alloc (.cells #[.int .i64 0] 2)) := (Below.refl _ _).alloc (Nat.le_refl _) _
 have x1 := Bx.new w [.int .i64 0] 2
 have z1 : (w.alloc (.cells #[.int .i64 0] 2)).heap.size = w.heap.size + 1 := by simp
 simp only [List.toArray] at x1
 generalize w.alloc (.cells #[.int .i64 0] 2) = w1 at *
 have b2 : Below w1.heap.size w1 (w1.alloc (.cells #[.int .i64 5] 2)) := (Below.refl _ _).alloc (Nat.le_refl _) _
 have x2 := Bx.new w1 [.int .i64 5] 2
 have z2 : (w1.alloc (.cells #[.int .i64 5] 2)).heap.size = w1.heap.size + 1 := by simp
 simp only [List.toArray] at x2
 generalize w1.alloc (.cells #[.int .i64 5] 2) = w2 at *
 have b3 : Below w2.heap.size w2 (w2.alloc (.cells #[.slice (some ⟨w.heap.size, 0, none⟩) 1 1, .slice (some ⟨w.heap.size + 1, 0, none⟩) 1 1] 68)) := (Below.refl _ _).alloc (Nat.le_refl _) _
 have x3 := Bx.new w2 [.slice (some ⟨w.heap.size, 0, none⟩) 1 1, .slice (some ⟨w.heap.size + 1, 0, none⟩) 1 1] 68
 have z3 : (w2.alloc (.cells #[.slice (some ⟨w.heap.size, 0, none⟩) 1 1, .slice (some ⟨w.heap.size + 1, 0, none⟩) 1 1] 68)).heap.size = w2.heap.size + 1 := by simp
 simp only [List.toArray] at x3
 generalize w2.alloc (.cells #[.slice (some ⟨w.heap.size, 0, none⟩) 1 1, .slice (some ⟨w.heap.size + 1, 0, none⟩) 1 1] 68) = w3 at *
 have b4 : Below w3.heap.size w3 (w3.alloc (.cells #[.int .i64 0, .int .i64 0, .slice none 0 0] 75)) := (Below.refl _ _).alloc (Nat.le_refl _) _
 have x4 := Bx.new w3 [.int .i64 0, .int .i64 0, .slice none 0 0] 75
 have z4 : (w3.alloc (.cells #[.int .i64 0, .int .i64 0, .slice none 0 0] 75)).heap.size = w3.heap.size + 1 := by simp
 simp only [List.toArray] at x4
 generalize w3.alloc (.cells #[.int .i64 0, .int .i64 0, .slice none 0 0] 75) = w4 at *
 have b5 : Below w4.heap.size w4 (w4.alloc (.cells #[.slice none 0 0, .slice (some ⟨w.heap.size + 1 + 1 + 1, 0, none⟩) 1 1] 73)) := (Below.refl _ _).alloc (Nat.le_refl _) _
 have z5 : (w4.alloc (.cells #[.slice none 0 0, .slice (some ⟨w.heap.size + 1 + 1 + 1, 0, none⟩) 1 1] 73)).heap.size = w4.heap.size + 1 := by simp
 have x5 := Bx.new w4 [.slice none 0 0, .slice (some ⟨w.heap.size + 1 + 1 + 1, 0, none⟩) 1 1] 73
 simp only [List.toArray] at x5
 generalize w4.alloc (.cells #[.slice none 0 0, .slice (some ⟨w.heap.size + 1 + 1 + 1, 0, none⟩) 1 1] 73) = w5 at *
 subst h0
 have e2 : w1.heap.size = w.heap.size + 1 := z1
 have e3 : w2.heap.size = w.heap.size + 1 + 1 := by omega
 have e4 : w3.heap.size = w.heap.size + 1 + 1 + 1 := by omega
 have e5 : w4.heap.size = w.heap.size + 1 + 1 + 1 + 1 := by omega
 rw [e2] at x2
 rw [e3] at x3
 rw [e4] at x4
 rw [e5] at x5
 have y1 := (((x1.keep b2).keep b3).keep b4).keep b5
 have y2 := ((x2.keep b3).keep b4).keep b5
 have y3 := (x3.keep b4).keep b5
 have y4 := x4.keep b5
 refine ⟨⟨_, _, _, _, rfl, ⟨[.slice (some ⟨w.heap.size, 0, none⟩) 1 1, .slice (some ⟨w.heap.size + 1, 0, none⟩) 1 1], rfl, sl_of_bx (ty := 68) y3 (by simp), fun k v xs hv hx => ?_⟩,
  ⟨[[.slice none 0 0, .slice (some ⟨w.heap.size + 1 + 1 + 1, 0, none⟩) 1 1]], rfl, sl_of_bx (ty := 73) x5 (by simp), fun k r e hr he => ?_⟩⟩, below_call (below_call (below_call (below_call b1 b2) b3) b4) b5, by omega⟩
 ·match k, hv, hx with
  | 0, hv, hx =>
   simp [p0] at hv hx
   subst hv hx
   exact ⟨_, _, rfl, sl_of_bx (rows := pvals [0]) (ty := 2) y1 (pvals_one _)⟩
  | 1, hv, hx =>
   simp [p0] at hv hx
   subst hv hx
   exact ⟨_, _, rfl, sl_of_bx (rows := pvals [5]) (ty := 2) y2 (pvals_one _)⟩
  | k + 2, hv, hx => simp at hv
 ·match k, hr, he with
  | 0, hr, he =>
   simp [p0] at hr he
   subst hr he
   refine ⟨none, 0, some ⟨w.heap.size + 1 + 1 + 1, 0, none⟩, 1, rfl, fun h => absurd rfl h, ⟨[[.int .i64 0, .int .i64 0, .slice none 0 0]], rfl, sl_of_bx (ty := 75) y4 (by simp), fun k r u hr hu => ?_⟩⟩
   match k, hr, hu with
   | 0, hr, hu =>
    simp at hr hu
    subst hr hu
    exact ⟨none, 0, rfl, fun h => absurd rfl h⟩
   | k + 1, hr, hu => simp at hr
  | k + 1, hr, he => simp at hr
set_option maxRecDepth 100000 in
set_option maxHeartbeats 8000000 in
theorem awake6 (w : World) (hL : LibW w) : Calls Tryz.prog 16 #[] w (BoolP true w) := by
 obtain ⟨hp, hb, hz⟩ := made0 w _ rfl
 have HP := Lib.hid hp
 have HB := Lib.hid hb
 have HL := Lib.hid hL
 have HZ := Lib.hid hz
 clear hp hb hL hz
 go_enter Tryz.func16, Tryz.ntmps16
 go_upto_region 2 with fail
 generalize (((((w.alloc (.cells #[.int .i64 0] 2)).alloc (.cells #[.int .i64 5] 2)).alloc (.cells #[.slice (some ⟨w.heap.size, 0, none⟩) 1 1, .slice (some ⟨w.heap.size + 1, 0, none⟩) 1 1] 68)).alloc (.cells #[.int .i64 0, .int .i64 0, .slice none 0 0] 75)).alloc (.cells #[.slice none 0 0, .slice (some ⟨w.heap.size + 1 + 1 + 1, 0, none⟩) 1 1] 73)) = W5 at HP HB HZ ⊢
 generalize (some (⟨w.heap.size + 1 + 1, 0, none⟩ : Addr)) = oa at HP ⊢
 generalize (some (⟨w.heap.size + 1 + 1 + 1 + 1, 0, none⟩ : Addr)) = ob at HP ⊢
 have hb1 : Below W5.heap.size W5 (W5.alloc (.cells #[.slice oa 2 2, .slice ob 1 1] 29)) := (Below.refl _ _).alloc (Nat.le_refl _) _
 have hx := Bx.new W5 [.slice oa 2 2, .slice ob 1 1] 29
 rw [HZ.out] at hx
 have HX := Lib.hid hx
 have HB1 := Lib.hid (below_call HB.out hb1)
 have HP1 := Lib.hid (HP.out.keep hb1)
 clear hx hb1 HP HB HZ
 generalize W5.alloc (.cells #[.slice oa 2 2, .slice ob 1 1] 29) = W1 at HX HB1 HP1 ⊢
 generalize w.heap.size + 1 + 1 + 1 + 1 + 1 = n5 at HX ⊢
 have c0 := HX.out.c 0 _ rfl
 have c1 := HX.out.c 1 _ rfl
 have cl := HX.out.lt
 have HC := Lib.hid (formatPath16 W1 _ p0 HP1.out (pathOk_of (mk_small mk0) (mk_in mk0)) (by rw [doc0]; decide) (tab_size HL.out.tabs HB1.out))
 rw [fmt0, show fmtV (some s0) = .tuple #[.string ⟨s0.toArray⟩, .int .i64 0] from rfl] at HC
 have HS : Hid (parseRes (⟨s0.toArray⟩ : ByteArray).data.toList = (p0, 0)) := Lib.hid parse0
 have HK : Hid (kindN (⟨s0.toArray⟩ : ByteArray).data.toList = 1) := Lib.hid kind0
 have hsz : (⟨s0.toArray⟩ : ByteArray).size ≤ 9223372036854775807 := by decide
 have hq1 : ((⟨s0.toArray⟩ : ByteArray).toList == [112, 97, 116, 104, 32, 50, 10, 112, 111, 105, 110, 116, 32, 48, 10, 112, 111, 105, 110, 116, 32, 53, 10, 101, 100, 103, 101, 32, 48, 32, 49, 10, 117, 115, 101, 32, 48, 32, 48, 10, 101, 110, 100, 10]) = true := by rw [ByteArray.toList_eq]; decide
 generalize (⟨s0.toArray⟩ : ByteArray) = bs at HC HS HK hsz hq1
 go_wp2_with fail
 refine HC.out.mono ?_
 clear HC
 rintro e W2 ⟨rfl, hb⟩
 have HX2 := Lib.hid (HX.out.keep hb)
 have HB2 := Lib.hid (below_call HB1.out hb)
 have HP2 := Lib.hid (HP1.out.keep hb)
 clear hb HX HB1 HP1 c0 c1 cl
 have HC := Lib.hid (parsePath17 bs W2 hsz (HL.out.low (HB2.out.mono HL.out.gt)))
 rw [HS.out] at HC
 go_wp2_with fail
 refine HC.out.mono ?_
 clear HC
 rintro e W3 ⟨v3, rfl, hn3, hb4⟩
 have hp3 := hn3.now.at
 obtain ⟨oq, nq, of, nf, rfl, -, -⟩ := hn3.now
 have hX3 := HX2.out.keep hb4
 have hB3 := below_call HB2.out hb4
 have hP3 := HP2.out.keep hb4
 have hb5 : Below W3.heap.size W3 (W3.alloc (.cells #[.slice oq p0.pts.length nq, .slice of p0.edges.length nf] 29)) := (Below.refl _ _).alloc (Nat.le_refl _) _
 have HX4 := Lib.hid (hX3.keep hb5)
 have HY4 := Lib.hid (Bx.new W3 [.slice oq p0.pts.length nq, .slice of p0.edges.length nf] 29)
 have HB4 := Lib.hid (below_call hB3 hb5)
 have H18 := Lib.hid (samePath18 _ _ _ p0 (hP3.keep hb5) (hp3.keep hb5) (small_of_doc (by rw [doc0]; decide)))
 clear hb5 hX3 hB3 hP3 hp3 hn3 hb4 HX2 HB2 HP2
 go_upto_region 4 with fail
 generalize W3.alloc (.cells #[.slice oq p0.pts.length nq, .slice of p0.edges.length nf] 29) = W4 at HX4 HY4 HB4 H18 ⊢
 generalize W3.heap.size = n4 at HY4 ⊢
 have c0 := HX4.out.c 0 _ rfl
 have c1 := HX4.out.c 1 _ rfl
 have cl := HX4.out.lt
 have d0 := HY4.out.c 0 _ rfl
 have d1 := HY4.out.c 1 _ rfl
 have dl := HY4.out.lt
 go_wp2_with fail
 refine H18.out.mono ?_
 clear H18 c0 c1 cl d0 d1 dl HX4 HY4
 rintro e W6 ⟨rfl, hb⟩
 have HB6 := Lib.hid (below_call HB4.out hb)
 have HC := Lib.hid (kind11 bs W6)
 rw [HK.out] at HC
 clear hb HB4
 go_wp2_with fail
 refine HC.out.mono ?_
 clear HC
 rintro e W7 ⟨rfl, hw⟩
 subst hw
 go_wp2
 go_ret
 exact boolP_mk rfl HB6.out
end Go.Proofs.Ng
end

section
/-
 Walks: FormatTrajectory.
-/
namespace Go.Proofs.Ng
open Go.RowKit
theorem formatTr_yes {t : Fm.TrajD} (h : Fm.rightP t.path = true) (he : t.profs.length = t.path.edges.length) (hl : (Fm.docTr t).length ≤ 1048576) : Fm.formatTr t = some (Fm.docTr t) := by
 unfold Fm.formatTr; rw [if_pos ⟨by unfold Fm.rightT; rw [h, decide_eq_true he]; rfl, hl⟩]
theorem formatTr_no {t : Fm.TrajD} (h : Fm.rightP t.path = false) : Fm.formatTr t = none := by
 unfold Fm.formatTr; rw [if_neg (fun e => by have := e.1; unfold Fm.rightT at this; rw [h] at this; cases this)]
theorem formatTr_no2 {t : Fm.TrajD} (h : t.profs.length ≠ t.path.edges.length) : Fm.formatTr t = none := by
 unfold Fm.formatTr; rw [if_neg (fun e => by have := e.1; unfold Fm.rightT at this; rw [Bool.and_eq_true, decide_eq_true_eq] at this; exact h this.2)]
/-- The cells of a trajectory. -/
def trC (t : Fm.TrajD) (op oe f : Option Addr) (np ne nf : Nat) : List Value := [.slice op t.path.pts.length np, .slice oe t.path.edges.length ne, .int .i64 t.grav.1, .int .i64 t.grav.2.1, .int .i64 t.grav.2.2, .int .i64 t.grid, .slice f t.profs.length nf]
theorem TrajAt.path {W : World} {v : Value} {t : Fm.TrajD} (h : TrajAt W v t) : ∃ op np oe ne f nf, v = .agg (trC t op oe f np ne nf).toArray ∧ PathAt W (.agg #[.slice op t.path.pts.length np, .slice oe t.path.edges.length ne]) t.path ∧ Profs W f t.profs := by
 obtain ⟨op, np, oe, ne, f, nf, e, h1, h2, h3⟩ := h
 exact ⟨op, np, oe, ne, f, nf, e, ⟨op, np, oe, ne, rfl, h1, h2⟩, h3⟩
theorem traj_sizes {t : Fm.TrajD} (hr : Fm.TrajOk t) (hl : (Fm.docTr t).length ≤ 1048576) : t.path.pts.length ≤ 1000000000 ∧ t.path.edges.length ≤ 1000000000 ∧ t.profs.length ≤ 1048576 ∧ (Fm.trajT t).length ≤ 1048576 := by
 have hlt : (Fm.trajT t).length ≤ 1048576 := by unfold Fm.docTr at hl; rw [List.length_append] at hl; omega
 have h0 := hlt
 rw [trajT_eq] at hlt
 simp only [List.length_append] at hlt
 have h1 := flT_ge profT_pos t.profs
 have h2 := flT_ge edgeT_pos t.path.edges
 rw [pathT_eq] at hlt
 simp only [List.length_append] at hlt
 have := hr.path.np
 omega
set_option maxRecDepth 100000 in
set_option maxHeartbeats 4000000 in
theorem formatTraj30 (w : World) (pv : Value) (p : Fm.TrajD) (hP : TrajAt w pv p) (hr : Fm.TrajOk p) (hl : (Fm.docTr p).length ≤ 1048576) (htab : TabW w.heap.size w) :
  Calls Tryz.prog 20 #[pv] w (fun e W' => e = .returned (fmtV (Fm.formatTr p)) ∧ Below w.heap.size w W') := by
 obtain ⟨hm1, hm2, hm3, hlt⟩ := traj_sizes hr hl
 have hP0 := hP
 obtain ⟨op, np, oe, ne, f, nf, rfl, hPt, hEd, -⟩ := hP
 have hb1 : Below w.heap.size w (w.alloc (.cells #[.slice op p.path.pts.length np, .slice oe p.path.edges.length ne, .int .i64 p.grav.1, .int .i64 p.grav.2.1, .int .i64 p.grav.2.2, .int .i64 p.grid, .slice f p.profs.length nf] 43)) := (Below.refl _ _).alloc (Nat.le_refl _) _
 have hbx := Bx.new w [.slice op p.path.pts.length np, .slice oe p.path.edges.length ne, .int .i64 p.grav.1, .int .i64 p.grav.2.1, .int .i64 p.grav.2.2, .int .i64 p.grid, .slice f p.profs.length nf] 43
 have hPP : PathAt w (.agg #[.slice op p.path.pts.length np, .slice oe p.path.edges.length ne]) p.path := ⟨op, np, oe, ne, rfl, hPt, hEd⟩
 have H34 := Lib.hid (rightForm34 _ _ p.path (hPP.keep hb1) hm1 hm2)
 have HP := Lib.hid hP0
 have HX := Lib.hid hbx
 have HB := Lib.hid hb1
 have HT := Lib.hid htab
 have HR := Lib.hid hr
 clear hP0 hb1 hbx htab hr hPP hPt hEd
 go_enter Tryz.func20, Tryz.ntmps20
 go_upto_region 1 with fail
 generalize w.alloc (.cells #[.slice op p.path.pts.length np, .slice oe p.path.edges.length ne, .int .i64 p.grav.1, .int .i64 p.grav.2.1, .int .i64 p.grav.2.2, .int .i64 p.grid, .slice f p.profs.length nf] 43) = wx at HX HB H34 ⊢
 obtain ⟨n, hn⟩ : ∃ n, n = w.heap.size := ⟨_, rfl⟩
 have HN := Lib.hid hn
 rw [← hn] at HX ⊢
 clear hn
 have c0 := HX.out.c 0 _ rfl
 have c1 := HX.out.c 1 _ rfl
 have clt := HX.out.lt
 cases hf : Fm.rightP p.path with
 | false =>
  have HF := Lib.hid (formatTr_no hf)
  rw [hf] at H34
  clear hf
  go_wp2_with fail
  refine H34.out.mono ?_
  rintro e W1 ⟨rfl, hb2⟩
  have HB2 := Lib.hid (below_call HB.out hb2)
  clear hb2 H34
  go_wp2
  go_ret2
  exact ⟨by rw [HF.out]; rfl, HB2.out⟩
 | true =>
  rw [hf] at H34
  by_cases heq : p.profs.length = p.path.edges.length
  ·have hF := formatTr_yes hf heq hl
   have HFF := Lib.hid hF
   have hd : ((p.profs.length : Int) != (p.path.edges.length : Int)) = false := by rw [heq]; simp
   clear hF hf heq
   go_wp2_with fail
   refine H34.out.mono ?_
   clear H34
   rintro e W1 ⟨rfl, hb2⟩
   have HX1 := Lib.hid (HX.out.keep hb2)
   have HB2 := Lib.hid (below_call HB.out hb2)
   clear hb2 HX HB c0 c1 clt
   have c0 := HX1.out.c 0 _ rfl
   have c1 := HX1.out.c 1 _ rfl
   have c2 := HX1.out.c 2 _ rfl
   have c3 := HX1.out.c 3 _ rfl
   have c4 := HX1.out.c 4 _ rfl
   have c5 := HX1.out.c 5 _ rfl
   have c6 := HX1.out.c 6 _ rfl
   have clt := HX1.out.lt
   have hb3 : Below W1.heap.size W1 (W1.alloc (.cells #[.slice none 0 0] 104)) := (Below.refl _ _).alloc (Nat.le_refl _) _
   have hW : WrS (W1.alloc (.cells #[.slice none 0 0] 104)) w.heap.size W1.heap.size [] (.slice none 0 0) := ⟨(Bx.new W1 [.slice none 0 0] 104).h, World.ownsRow_nil _ _ _ _, HB2.out.size⟩
   have hB3 := below_call HB2.out hb3
   have HB3 := Lib.hid hB3
   have H49 := Lib.hid (trajectory49 w _ W1.heap.size [] _ p hB3 HP.out ⟨_, hW⟩ HR.out (by rw [List.length_nil]; omega) HT.out)
   clear hb3 hW hB3
   go_wp2_with fail
   refine H49.out.mono ?_
   clear H49 c0 c1 c2 c3 c4 c5 c6 clt hd
   rintro e W2 ⟨rfl, v2, hW2, hF2⟩
   have HB4 := Lib.hid (HB3.out.trans hF2.bel)
   have H36 := Lib.hid (document36 W2 w.heap.size W1.heap.size _ ⟨_, hW2⟩ (by rw [List.nil_append]; exact hl) (HT.out.on HB4.out))
   clear hW2 hF2
   go_wp2_with fail
   refine H36.out.mono ?_
   clear H36
   rintro e W3 ⟨rfl, hb5⟩
   have HB5 := Lib.hid (HB4.out.trans hb5)
   clear hb5
   rw [List.nil_append]
   unfold fmtV
   go_wp2
   go_ret2
   exact ⟨by rw [HFF.out]; rfl, HB5.out⟩
  ·have HF := Lib.hid (formatTr_no2 heq)
   have hd : ((p.profs.length : Int) != (p.path.edges.length : Int)) = true := by simp; omega
   clear hf heq
   go_wp2_with fail
   refine H34.out.mono ?_
   clear H34
   rintro e W1 ⟨rfl, hb2⟩
   have HX1 := Lib.hid (HX.out.keep hb2)
   have HB2 := Lib.hid (below_call HB.out hb2)
   clear hb2 HX HB c0 c1 clt
   have c1 := HX1.out.c 1 _ rfl
   have c6 := HX1.out.c 6 _ rfl
   have clt := HX1.out.lt
   go_wp2
   go_ret2
   exact ⟨by rw [HF.out]; rfl, HB2.out⟩
end Go.Proofs.Ng
end

