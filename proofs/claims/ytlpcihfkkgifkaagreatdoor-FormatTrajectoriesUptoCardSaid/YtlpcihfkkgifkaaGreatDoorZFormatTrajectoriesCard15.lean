/-
  Texts put together: Cp Cq Cr Cs Da.
-/
import Derived.Test.YtlpcihfkkgifkaaGreatDoorZFormatTrajectoriesCard14
import Derived.StillTailTactics
import Derived.Laws.Closers25b
set_option linter.unusedVariables false
section
/-
  Walks: the reference's reader: open, ends; ParsePath.
-/
namespace Go.Proofs.Ng
open Go.RowKit

theorem suffix72 (s p : ByteArray) (w : World) (hs : s.size ≤ 9223372036854775807) : Calls Tryz.prog 72 #[.string s, .string p] w (fun e w' => e = .returned (.bool (Lib.hasSuffix s.data.toList p.data.toList)) ∧ w' = w) :=
  Any.strings_HasSuffix Tryz.suffixL s p w hs
theorem suffix_nl (s : List UInt8) : Lib.hasSuffix s [10] = true ↔ ∃ r, s = r ++ [10] := by
  unfold Lib.hasSuffix
  rw [List.isSuffixOf_iff_suffix]
  constructor
  · rintro ⟨r, h⟩
    exact ⟨r, h.symm⟩
  · rintro ⟨r, h⟩
    exact ⟨r, h.symm⟩
/-- What open answers: the error, the text ahead of the last newline. -/
def openRes (s : List UInt8) (k : Nat) : Int × Option (List UInt8) := if 1048576 < s.length then (4301, none) else if kindN s = k then (if Lib.hasSuffix s [10] = true then (0, some s.dropLast) else (4301, none)) else (4302, none)
def OpenQ (x : Int × Option (List UInt8)) (W : World) (e : Ending) (W' : World) : Prop :=
  (match x.2 with
  | some r => ∃ b gL, e = .returned (.tuple #[.pointer (some ⟨b, 0, none⟩), .int .i64 0]) ∧ W.heap.size ≤ b ∧ W.heap.size ≤ gL ∧ RfS W' b gL (Fm.splitC 10 r) (Fm.splitC 10 r) false
  | none => e = .returned (.tuple #[.pointer none, .int .i64 x.1])) ∧ Below W.heap.size W W'
theorem OpenQ.no {x : Int × Option (List UInt8)} {W W' : World} {c : Int} (h : x = (c, none)) (hb : Below W.heap.size W W') : OpenQ x W (.returned (.tuple #[.pointer none, .int .i64 c])) W' := by
  subst h
  exact ⟨rfl, hb⟩
set_option maxRecDepth 100000 in
set_option maxHeartbeats 4000000 in
theorem open44 (s : ByteArray) (k : Nat) (W : World) (hs : s.size ≤ 9223372036854775807) (hL : LibW W) : Calls Tryz.prog 44 #[.string s, .int .i64 (k : Nat)] W (OpenQ (openRes s.data.toList k) W) := by
  have hsz : s.data.toList.length = s.size := by rw [Array.length_toList]; rfl
  generalize hR : openRes s.data.toList k = res
  unfold openRes at hR
  rw [hsz] at hR
  have HK := Lib.hid (kindOf12 s W)
  have HL := Lib.hid hL
  clear hL
  by_cases h1 : 1048576 < s.size
  · have hd : decide ((1048576 : Int) < (s.size : Int)) = true := decide_eq_true (by omega)
    rw [if_pos h1] at hR
    have HR := Lib.hid hR
    clear hR
    go_enter Tryz.func44, Tryz.ntmps44
    go_wp2
    go_ret2
    exact OpenQ.no HR.out.symm (Below.refl _ _)
  · have hd : decide ((1048576 : Int) < (s.size : Int)) = false := decide_eq_false (by omega)
    rw [if_neg h1] at hR
    by_cases h2 : kindN s.data.toList = k
    · have hq : ((k : Int) != (k : Int)) = false := by simp
      rw [if_pos h2] at hR
      rw [h2] at HK
      clear h2
      cases hsf : Lib.hasSuffix s.data.toList [10] with
      | true =>
        rw [hsf] at hR
        simp only [if_true] at hR
        obtain ⟨r, hr⟩ := (suffix_nl _).1 hsf
        have hrl : r.length + 1 = s.size := by rw [← hsz, hr]; simp
        have hsx : (1 : Int) ≤ (s.size : Int) := by omega
        have hw1 : IntKind.i64.wrap ((s.size : Int) - 1) = (s.size : Int) - 1 := IntWalk.i64_in _ (by omega)
        have hx1 : (0 : Int) ≤ (s.size : Int) - 1 := by omega
        have hx2 : (s.size : Int) - 1 ≤ (s.size : Int) := by omega
        have HR : Hid (res = (0, some r)) := Lib.hid (by rw [← hR, hr, List.dropLast_concat])
        have HRR := Lib.hid hr
        have HSF := Lib.hid hsf
        clear hR hr hsf
        go_enter Tryz.func44, Tryz.ntmps44
        go_wp2_with fail
        refine HK.out.mono ?_
        rintro e W1 ⟨rfl, hb1⟩
        have HB1 := Lib.hid hb1
        have HL1 := Lib.hid (HL.out.keep hb1)
        clear hb1 HK
        go_wp2_with fail
        refine (suffix72 s ⟨#[10]⟩ W1 hs).mono ?_
        rintro e W2 ⟨rfl, hw⟩
        subst hw
        rw [HSF.out]
        go_wp2_with fail
        have hxd : (s.extract 0 (s.size - 1)).data.toList = r := by
          have h := HRR.out
          simp [h]
        generalize s.extract 0 (s.size - 1) = d at hxd ⊢
        have hds : d.size = r.length := by rw [← hxd, Array.length_toList]; rfl
        refine (split73 d 10 W2 (by omega) HL1.out).mono ?_
        rintro e W3 ⟨rfl, rfl⟩
        rw [hxd]
        have hb2 : Below W2.heap.size W2 (W2.alloc (.cells (strs (Fm.splitC 10 r)).toArray 9)) := (Below.refl _ _).alloc (Nat.le_refl _) _
        have hln := Bx.new W2 (strs (Fm.splitC 10 r)) 9
        have hsz2 : (W2.alloc (.cells (strs (Fm.splitC 10 r)).toArray 9)).heap.size = W2.heap.size + 1 := by simp
        have HB2 := Lib.hid (below_call HB1.out hb2)
        have HLN := Lib.hid hln
        have HZ := Lib.hid hsz2
        have HL3 := Lib.hid (HL1.out.keep hb2).gt
        have HZ2 := Lib.hid HB1.out.size
        have HG8 := Lib.hid HL1.out.gt
        clear hb2 hln hsz2 HL1 HB1
        generalize W2.alloc (.cells (strs (Fm.splitC 10 r)).toArray 9) = W4 at HB2 HLN HZ HL3 ⊢
        generalize W2.heap.size = gL at HLN HZ HZ2 HG8 ⊢
        go_wp2
        have hb4 : Below W4.heap.size W4 (W4.alloc (.cells #[.slice (some ⟨gL, 0, none⟩) (Fm.splitC 10 r).length (Fm.splitC 10 r).length, .int .i64 0, .bool false] 95)) := (Below.refl _ _).alloc (Nat.le_refl _) _
        have hbx := Bx.new W4 [.slice (some ⟨gL, 0, none⟩) (Fm.splitC 10 r).length (Fm.splitC 10 r).length, .int .i64 0, .bool false] 95
        have HF : Hid (OpenQ res W (.returned (.tuple #[.pointer (some ⟨W4.heap.size, 0, none⟩), .int .i64 0])) (W4.alloc (.cells #[.slice (some ⟨gL, 0, none⟩) (Fm.splitC 10 r).length (Fm.splitC 10 r).length, .int .i64 0, .bool false] 95))) := Lib.hid (by
          rw [HR.out]
          refine ⟨⟨W4.heap.size, gL, rfl, by have := HZ.out; have := HZ2.out; omega, HZ2.out, ⟨⟨0, Nat.zero_le _, fun _ => rfl, hbx⟩, HLN.out.keep hb4, by have := HZ.out; omega, by have := HZ.out; have := HG8.out; omega, fun l hl => ?_, ?_⟩⟩, below_call HB2.out hb4⟩
          · have := Fm.splitC_each 10 r l hl
            omega
          · have := Fm.splitC_len 10 r
            omega)
        clear hb4 hbx
        go_ret2
        exact HF.out
      | false =>
        rw [hsf] at hR
        simp only [Bool.false_eq_true, if_false] at hR
        have HR := Lib.hid hR
        clear hR
        go_enter Tryz.func44, Tryz.ntmps44
        go_wp2_with fail
        refine HK.out.mono ?_
        rintro e W1 ⟨rfl, hb1⟩
        have HB1 := Lib.hid hb1
        clear hb1 HK
        go_wp2_with fail
        refine (suffix72 s ⟨#[10]⟩ W1 hs).mono ?_
        rintro e W2 ⟨rfl, hw⟩
        subst hw
        rw [hsf]
        go_wp2
        go_ret2
        exact OpenQ.no HR.out.symm HB1.out
    · have hq : ((kindN s.data.toList : Int) != (k : Int)) = true := by simp; omega
      rw [if_neg h2] at hR
      have HR := Lib.hid hR
      clear hR
      generalize kindN s.data.toList = j at HK hq
      clear h2
      go_enter Tryz.func44, Tryz.ntmps44
      go_wp2_with fail
      refine HK.out.mono ?_
      rintro e W1 ⟨rfl, hb1⟩
      have HB1 := Lib.hid hb1
      clear hb1 HK
      go_wp2
      go_ret2
      exact OpenQ.no HR.out.symm HB1.out
def endV (o : Option (List Int × List (List UInt8))) : Bool := match o with | some (ns, r) => decide (ns = []) && decide (r = []) | none => false
set_option maxRecDepth 100000 in
set_option maxHeartbeats 8000000 in
theorem ends46 (W : World) (b gL : Nat) (L q : List (List UInt8)) (bd : Bool) (h : RfS W b gL L q bd) (hL : LibW W) :
    Calls Tryz.prog 46 #[.pointer (some ⟨b, 0, none⟩)] W (fun e W' => e = .returned (.bool (!bd && Fm.rdEnd q [])) ∧ W.grownBy W' (some b)) := by
  have HC := Lib.hid (read74_gen W b gL L q ⟨#[101, 110, 100]⟩ bd h hL)
  generalize hO : gd bd (Fm.rdLine Fm.kwEnd q) = o1
  rw [show gd bd (Fm.rdLine (⟨#[101, 110, 100]⟩ : ByteArray).data.toList q) = o1 from hO] at HC
  have hans : (!bd && Fm.rdEnd q []) = endV o1 := by
    subst hO
    cases bd with
    | true => rfl
    | false =>
      show Fm.rdEnd q [] = _
      unfold Fm.rdEnd Fm.rdN gd endV
      simp only [Bool.false_eq_true, if_false]
      cases Fm.rdLine Fm.kwEnd q with
      | none => rfl
      | some p =>
        obtain ⟨ns, r⟩ := p
        simp only
        cases ns with
        | nil => cases r <;> rfl
        | cons a t => simp
  rw [hans]
  clear h hL hO hans
  go_enter Tryz.func46, Tryz.ntmps46
  go_wp2_with fail
  refine HC.out.mono ?_
  clear HC
  rintro e W1 h1
  rcases o1 with _ | ⟨ns, r⟩
  · obtain ⟨v, rfl, hz, hS, hG⟩ := h1.no
    obtain rfl : v = .slice none 0 0 := hz.now
    obtain ⟨⟨i, hi, -, hX⟩, -⟩ := id hS
    have c2 := hX.c 2 _ rfl
    have cl := hX.lt
    have HG := Lib.hid hG
    clear h1 hz hS hG hX
    go_wp2_with fail
    go_quiet (fail)
    have HG2 := Lib.hid (grown_call HG.out (below_drew W1 nq))
    go_wp2
    go_ret
    exact ⟨rfl, HG2.out⟩
  · obtain ⟨v, rfl, hN, hS, hG⟩ := h1.yes
    obtain ⟨oa, cap, rfl, -, -⟩ := hN.now
    obtain ⟨⟨i, hi, hq, hX⟩, -⟩ := id hS
    have hq := hq rfl
    have c0 := hX.c 0 _ rfl
    have c1 := hX.c 1 _ rfl
    have c2 := hX.c 2 _ rfl
    have cl := hX.lt
    have HG := Lib.hid hG
    have HQ := Lib.hid hq
    clear h1 hN hS hG hX hq
    by_cases hns : ns = []
    · subst hns
      by_cases hr : r = []
      · have hil : i = L.length := by
          have h := HQ.out
          rw [hr] at h
          have := congrArg List.length h
          rw [List.length_drop] at this
          simp at this
          omega
        have he : ((i : Int) == (L.length : Int)) = true := by simp; omega
        subst hil
        go_wp2_with fail
        go_quiet (fail)
        have HG2 := Lib.hid (grown_call HG.out (below_drew W1 nq))
        go_wp2
        go_ret
        exact ⟨by simp [endV, hr], HG2.out⟩
      · have hil : i ≠ L.length := by
          intro e
          apply hr
          rw [HQ.out, e]
          exact List.drop_of_length_le (Nat.le_refl _)
        have he : ((i : Int) == (L.length : Int)) = false := by simp; omega
        have HR := Lib.hid hr
        clear hr
        go_wp2_with fail
        go_quiet (fail)
        have HG2 := Lib.hid (grown_call HG.out (below_drew W1 nq))
        go_wp2
        go_ret
        exact ⟨by simp [endV, HR.out], HG2.out⟩
    · have he : ((ns.length : Int) == 0) = false := by
        have := List.length_pos_iff.2 hns
        simp; omega
      have HR := Lib.hid hns
      clear hns
      go_wp2_with fail
      go_quiet (fail)
      have HG2 := Lib.hid (grown_call HG.out (below_drew W1 nq))
      go_wp2
      go_ret
      exact ⟨by simp [endV, HR.out], HG2.out⟩
end Go.Proofs.Ng
end

section
/-
  Walks: the reference's ParsePath.
-/
namespace Go.Proofs.Ng
open Go.RowKit

theorem parseRes_open (s : List UInt8) : parseRes s = match openRes s 1 with
    | (c, none) => (⟨[], []⟩, c)
    | (_, some r) => (match Fm.rdPath (Fm.splitC 10 r) with
      | some (p, q) => if (Fm.rdEnd q [] && Fm.rightP p) = true then (p, 0) else (⟨[], []⟩, 4301)
      | none => (⟨[], []⟩, 4301)) := by
  unfold parseRes openRes
  by_cases h1 : 1048576 < s.length
  · rw [if_pos h1, if_pos h1]
  · rw [if_neg h1, if_neg h1]
    by_cases h2 : kindN s = 1
    · rw [if_pos h2, if_pos h2]
      cases hsf : Lib.hasSuffix s [10] with
      | true =>
        obtain ⟨r, hr⟩ := (suffix_nl s).1 hsf
        simp only [if_true]
        rw [hr, List.dropLast_concat, Fm.parseP_ends]
        cases Fm.rdPath (Fm.splitC 10 r) with
        | none => rfl
        | some pq =>
          obtain ⟨p, q⟩ := pq
          simp only
          by_cases hc : Fm.rightP p = true ∧ Fm.rdEnd q [] = true
          · rw [if_pos hc, if_pos (by rw [hc.1, hc.2]; rfl)]
          · rw [if_neg hc, if_neg (fun e => hc (by rw [Bool.and_eq_true] at e; exact ⟨e.2, e.1⟩))]
      | false =>
        simp only [Bool.false_eq_true, if_false]
        have hne : s ≠ [] := by
          rintro rfl
          exact absurd h2 (by decide)
        rw [Fm.parseP_no hne (fun h => by rw [(suffix_nl s).2 h] at hsf; cases hsf)]
    · rw [if_neg h2, if_neg h2]
theorem rdPath_sizes {ls r : List (List UInt8)} {p : Fm.PathD} (h : Fm.rdPath ls = some (p, r)) : p.pts.length ≤ 1048576 ∧ p.edges.length ≤ 1048576 := by
  obtain ⟨n, q, -, hc, h3, h4⟩ := Fm.rdPath_len h
  unfold Fm.cntOk at hc
  rw [decide_eq_true_eq] at hc
  omega
theorem finR {X W : World} {n : Nat} {a c : Value} {code : Int} {res : Fm.PathD × Int} {p : Fm.PathD} (h2 : Bx X n [a, c] 25) (hr : res = (p, code)) (hV : New W.heap.size X (PathV (.agg #[a, c]) p)) (hb : Below W.heap.size W X) :
    X.cell? ⟨n, 0, none⟩ = some a ∧ X.cell? ⟨n, 1, none⟩ = some c ∧ n < X.heap.size ∧ ParP PathV res W (.returned (.tuple #[.agg #[a, c], .int .i64 code])) X := by
  subst hr
  exact ⟨h2.c 0 _ rfl, h2.c 1 _ rfl, h2.lt, _, rfl, hV, hb⟩
set_option maxRecDepth 100000 in
set_option maxHeartbeats 8000000 in
theorem refParsePath25 (s : ByteArray) (W : World) (hs : s.size ≤ 9223372036854775807) (hL : LibW W) : Calls Tryz.prog 25 #[.string s] W (ParP PathV (parseRes s.data.toList) W) := by
  generalize hR : parseRes s.data.toList = res
  rw [parseRes_open] at hR
  have HR := Lib.hid hR
  clear hR
  have hb1 : Below W.heap.size W (W.alloc (.cells #[.slice none 0 0, .slice none 0 0] 25)) := (Below.refl _ _).alloc (Nat.le_refl _) _
  have HX2 := Lib.hid (Bx.new W [.slice none 0 0, .slice none 0 0] 25)
  have HL := Lib.hid (hL.keep hb1)
  have HB := Lib.hid hb1
  have HZ : Hid ((W.alloc (.cells #[.slice none 0 0, .slice none 0 0] 25)).heap.size = W.heap.size + 1) := Lib.hid (by simp)
  clear hb1 hL
  go_enter Tryz.func25, Tryz.ntmps25
  go_wp2_with fail
  generalize W.alloc (.cells #[.slice none 0 0, .slice none 0 0] 25) = W1 at HX2 HL HB HZ ⊢
  obtain ⟨n2, hn2⟩ : ∃ n, n = W.heap.size := ⟨_, rfl⟩
  have HN2 := Lib.hid hn2
  rw [← hn2] at HX2 HZ ⊢
  clear hn2
  have HO := Lib.hid (open44 s 1 W1 hs HL.out)
  have HC0 : Hid (∀ c, openRes s.data.toList 1 = (c, none) → c ≠ 0) := Lib.hid (fun c h => by
    unfold openRes at h
    split at h
    · injection h with h; omega
    · split at h
      · split at h
        · injection h with _ h; cases h
        · injection h with h; omega
      · injection h with h; omega)
  generalize openRes s.data.toList 1 = ores at HO HR HC0
  refine HO.out.mono ?_
  clear HO
  rintro e W2 ⟨he, hb2⟩
  obtain ⟨c, orr⟩ := ores
  rcases orr with _ | r
  · simp only at he
    subst he
    have hc0 := HC0.out c rfl
    have hcb : (c != 0) = true := by simp [hc0]
    have hx2 := HX2.out.keep hb2
    have HB2 := Lib.hid (below_call HB.out hb2)
    have HRN : Hid (res = (⟨[], []⟩, c)) := Lib.hid HR.out.symm
    have c0 := hx2.c 0 _ rfl
    have c1 := hx2.c 1 _ rfl
    have f0 := hx2.f 0
    have f1 := hx2.f 1
    have l2 := hx2.lt
    have HX22 := Lib.hid ((hx2.put1 (.slice none 0 0)).put2 (.slice none 0 0))
    clear hb2 hx2
    go_wp2
    have HF := Lib.hid (finR (X := (W2.setCell ⟨n2, 0, none⟩ (.slice none 0 0)).setCell ⟨n2, 1, none⟩ (.slice none 0 0)) (n := n2) (W := W) (res := res) (p := ⟨[], []⟩) (code := c) HX22.out HRN.out (fun X _ => pathV_nil X) ((HB2.out.setCell (p := ⟨n2, 0, none⟩) (Nat.le_of_eq HN2.out.symm) _).setCell (p := ⟨n2, 1, none⟩) (Nat.le_of_eq HN2.out.symm) _))
    clear c0 c1 f0 f1 l2 HX22
    generalize (W2.setCell ⟨n2, 0, none⟩ (.slice none 0 0)).setCell ⟨n2, 1, none⟩ (.slice none 0 0) = X at HF ⊢
    obtain ⟨c0, c1, l2, hP⟩ := HF.out
    refine bodyPost_ret (v := .tuple #[.agg #[.slice none 0 0, .slice none 0 0], .int .i64 c]) (by simp [results, Tryz.results25, go_sem, c0, c1]) rfl ?_
    exact hP
  · obtain ⟨b, gL, rfl, hbl, hgl, hS⟩ := he
    have hx2 := HX2.out.keep hb2
    have HB2 := Lib.hid (below_call HB.out hb2)
    have HL2 := Lib.hid (HL.out.keep hb2)
    have HLT2 := Lib.hid hS.lt
    have HLB : Hid (n2 + 1 ≤ b ∧ n2 + 1 ≤ gL) := Lib.hid (by have := HZ.out; omega)
    have HX22 := Lib.hid hx2
    have HC := Lib.hid (path45 W2 b gL _ _ hS HL2.out)
    have HR2 : Hid ((match Fm.rdPath (Fm.splitC 10 r) with
      | some (p, q) => if (Fm.rdEnd q [] && Fm.rightP p) = true then (p, 0) else (⟨[], []⟩, 4301)
      | none => (⟨[], []⟩, 4301)) = res) := Lib.hid HR.out
    have HSZP : Hid (∀ p q, Fm.rdPath (Fm.splitC 10 r) = some (p, q) → p.pts.length ≤ 1048576 ∧ p.edges.length ≤ 1048576) := Lib.hid (fun p q h => rdPath_sizes h)
    generalize Fm.splitC 10 r = Ln at hS HC HR2 HSZP
    generalize Fm.rdPath Ln = o at HC HR2 HSZP
    clear hx2 hb2 HX2 HB HL HR HC0 hS hbl hgl
    go_wp2_with fail
    refine HC.out.mono ?_
    clear HC
    rintro e W3 h3
    -- the value, whatever was read
    have HV : Hid (∃ a b' c d e' f bd q, e = .returned (.agg #[.slice a b' c, .slice d e' f]) ∧ RfS W3 b gL Ln q bd ∧ W2.grownBy W3 (some b) ∧ (bd = true → o = none) ∧ (bd = false → ∃ p, o = some (p, q) ∧ New W2.heap.size W3 (PathV (.agg #[.slice a b' c, .slice d e' f]) p))) := Lib.hid (by
      rcases o with _ | ⟨p, q⟩
      · obtain ⟨v, rfl, hz, hS, hG⟩ := h3.no
        obtain ⟨a, b', c, d, e', f, rfl⟩ := hz.now
        exact ⟨a, b', c, d, e', f, true, [], rfl, hS, hG, fun _ => rfl, nofun⟩
      · obtain ⟨v, rfl, hN, hS, hG⟩ := h3.yes
        obtain ⟨a, c, d, f, rfl, -, -⟩ := hN.now
        exact ⟨a, _, c, d, _, f, false, q, rfl, hS, hG, nofun, fun _ => ⟨p, rfl, hN⟩⟩)
    clear h3
    obtain ⟨ao, bo, co, d1, e1, f1', bd, q, rfl, hS, hG, hbad, hgood⟩ := HV.out
    have hx23 := HX22.out.grown hG (by have := HLB.out; omega)
    have hb6 : Below W3.heap.size W3 (W3.alloc (.cells #[.slice ao bo co, .slice d1 e1 f1'] 25)) := (Below.refl _ _).alloc (Nat.le_refl _) _
    have HX6 := Lib.hid (Bx.new W3 [.slice ao bo co, .slice d1 e1 f1'] 25)
    have HX26 := Lib.hid (hx23.keep hb6)
    have HS6 := Lib.hid (hS.keep hb6)
    have HL6 := Lib.hid ((HL2.out.keepG hG hS.lo).keep hb6)
    have HG6 := Lib.hid (grown_call hG hb6)
    have HZ6 := Lib.hid hx23.lt
    have HNB : Hid (W3.heap.size ≠ b) := Lib.hid (by have := hS.lt; omega)
    have HGD : Hid (bd = false → ∃ p, o = some (p, q) ∧ New W2.heap.size (W3.alloc (.cells #[.slice ao bo co, .slice d1 e1 f1'] 25)) (PathV (.agg #[.slice ao bo co, .slice d1 e1 f1']) p)) := Lib.hid (fun e => (hgood e).elim fun p h => ⟨p, h.1, New.keep h.2 (AgI.of hb6)⟩)
    have HBD := Lib.hid hbad
    clear HV hS hG hbad hgood hx23 hb6 HX22 HL2
    go_wp2_with fail
    generalize W3.alloc (.cells #[.slice ao bo co, .slice d1 e1 f1'] 25) = W4 at HX6 HX26 HS6 HL6 HG6 HGD ⊢
    generalize W3.heap.size = n6 at HX6 HZ6 HNB ⊢
    have HE := Lib.hid (ends46 W4 b gL Ln q bd HS6.out HL6.out)
    refine HE.out.mono ?_
    clear HE
    rintro e W5 ⟨rfl, hG5⟩
    have hx25 := HX26.out.grown hG5 (by have := HLB.out; omega)
    have hx65 := HX6.out.grown hG5 HNB.out
    have HG5 := Lib.hid (grown_trans HG6.out hG5)
    have HGD5 : Hid (bd = false → ∃ p, o = some (p, q) ∧ New W2.heap.size W5 (PathV (.agg #[.slice ao bo co, .slice d1 e1 f1']) p)) := Lib.hid (fun e => (HGD.out e).elim fun p h => ⟨p, h.1, New.keep h.2 (grown_ag hG5 _ HLT2.out)⟩)
    have hbW5 : Below W.heap.size W W5 := HB2.out.trans ⟨HG5.out.os, HG5.out.tape, HG5.out.output, HG5.out.size, fun k hk => HG5.out.block k (Nat.lt_of_lt_of_le hk HB2.out.size) (fun e => by have h1 := HLB.out; have h2 := HN2.out; injection e with e; omega)⟩
    cases hval : (!bd && Fm.rdEnd q []) with
    | false =>
      have HRN : Hid (res = (⟨[], []⟩, 4301)) := Lib.hid (by
        rw [← HR2.out]
        cases hbd : bd with
        | true => rw [HBD.out hbd]
        | false =>
          obtain ⟨p, ho, -⟩ := HGD5.out hbd
          rw [ho]
          simp only
          rw [hbd, Bool.not_false, Bool.true_and] at hval
          rw [hval]
          rfl)
      clear hval
      have c0 := hx25.c 0 _ rfl
      have c1 := hx25.c 1 _ rfl
      have f0 := hx25.f 0
      have f1 := hx25.f 1
      have l2 := hx25.lt
      have HXZ := Lib.hid ((hx25.put1 (.slice none 0 0)).put2 (.slice none 0 0))
      have HBZ : Hid (Below W.heap.size W ((W5.setCell ⟨n2, 0, none⟩ (.slice none 0 0)).setCell ⟨n2, 1, none⟩ (.slice none 0 0))) := Lib.hid (((hbW5.setCell (p := ⟨n2, 0, none⟩) (Nat.le_of_eq HN2.out.symm) _).setCell (p := ⟨n2, 1, none⟩) (Nat.le_of_eq HN2.out.symm) _))
      go_wp2
      have HF := Lib.hid (finR (X := (W5.setCell ⟨n2, 0, none⟩ (.slice none 0 0)).setCell ⟨n2, 1, none⟩ (.slice none 0 0)) (n := n2) (W := W) (res := res) (p := ⟨[], []⟩) (code := 4301) HXZ.out HRN.out (fun X _ => pathV_nil X) HBZ.out)
      clear c0 c1 f0 f1 l2 HXZ HBZ
      generalize (W5.setCell ⟨n2, 0, none⟩ (.slice none 0 0)).setCell ⟨n2, 1, none⟩ (.slice none 0 0) = X at HF ⊢
      obtain ⟨c0, c1, l2, hP⟩ := HF.out
      refine bodyPost_ret (v := .tuple #[.agg #[.slice none 0 0, .slice none 0 0], .int .i64 4301]) (by simp [results, Tryz.results25, go_sem, c0, c1]) rfl ?_
      exact hP
    | true =>
      have hbd : bd = false := by cases h : bd with | false => rfl | true => rw [h] at hval; cases hval
      obtain ⟨p, ho, hN⟩ := HGD5.out hbd
      rw [hbd, Bool.not_false, Bool.true_and] at hval
      have hsz := HSZP.out p q ho
      have HR3 : Hid ((if Fm.rightP p = true then (p, (0 : Int)) else (⟨[], []⟩, 4301)) = res) := Lib.hid (by
        rw [← HR2.out, ho]
        simp only
        rw [hval, Bool.true_and])
      have H22 := Lib.hid (right22 W5 _ p hN.now.at (by omega) (by omega))
      have HN5 := Lib.hid hN
      have HX65 := Lib.hid hx65
      have HX25 := Lib.hid hx25
      have HBW := Lib.hid hbW5
      have a0 := hx65.c 0 _ rfl
      have a1 := hx65.c 1 _ rfl
      have al := hx65.lt
      clear hval hN hx65 hx25 hbW5 hbd ho hsz
      cases hrp : Fm.rightP p with
      | false =>
        rw [hrp] at H22
        have HRN : Hid (res = (⟨[], []⟩, 4301)) := Lib.hid (by rw [← HR3.out, hrp]; rfl)
        go_wp2_with fail
        refine H22.out.mono ?_
        rintro e Y ⟨rfl, hbY⟩
        have hx2Y := HX25.out.keep hbY
        have hbWY := below_call HBW.out hbY
        clear H22 a0 a1 al
        have c0 := hx2Y.c 0 _ rfl
        have c1 := hx2Y.c 1 _ rfl
        have f0 := hx2Y.f 0
        have f1 := hx2Y.f 1
        have l2 := hx2Y.lt
        have HXZ := Lib.hid ((hx2Y.put1 (.slice none 0 0)).put2 (.slice none 0 0))
        have HBZ : Hid (Below W.heap.size W ((Y.setCell ⟨n2, 0, none⟩ (.slice none 0 0)).setCell ⟨n2, 1, none⟩ (.slice none 0 0))) := Lib.hid (((hbWY.setCell (p := ⟨n2, 0, none⟩) (Nat.le_of_eq HN2.out.symm) _).setCell (p := ⟨n2, 1, none⟩) (Nat.le_of_eq HN2.out.symm) _))
        go_wp2
        have HF := Lib.hid (finR (X := (Y.setCell ⟨n2, 0, none⟩ (.slice none 0 0)).setCell ⟨n2, 1, none⟩ (.slice none 0 0)) (n := n2) (W := W) (res := res) (p := ⟨[], []⟩) (code := 4301) HXZ.out HRN.out (fun X _ => pathV_nil X) HBZ.out)
        clear c0 c1 f0 f1 l2 HXZ HBZ
        generalize (Y.setCell ⟨n2, 0, none⟩ (.slice none 0 0)).setCell ⟨n2, 1, none⟩ (.slice none 0 0) = X at HF ⊢
        obtain ⟨c0, c1, l2, hP⟩ := HF.out
        refine bodyPost_ret (v := .tuple #[.agg #[.slice none 0 0, .slice none 0 0], .int .i64 4301]) (by simp [results, Tryz.results25, go_sem, c0, c1]) rfl ?_
        exact hP
      | true =>
        rw [hrp] at H22
        have HRN : Hid (res = (p, 0)) := Lib.hid (by rw [← HR3.out, hrp]; rfl)
        go_wp2_with fail
        refine H22.out.mono ?_
        rintro e Y ⟨rfl, hbY⟩
        have hx2Y := HX25.out.keep hbY
        have hx6Y := HX65.out.keep hbY
        have hbWY := below_call HBW.out hbY
        have HNY := Lib.hid (New.keep HN5.out (AgI.of hbY))
        have HSY : Hid (W2.heap.size ≤ Y.heap.size ∧ n2 < W2.heap.size ∧ W.heap.size ≤ W2.heap.size) := Lib.hid (by have h1 := HG5.out.size; have h2 := hbY.size; have h3 := HLB.out; have h4 := HLT2.out; have h5 := HB2.out.size; omega)
        clear H22 a0 a1 al
        have a0 := hx6Y.c 0 _ rfl
        have a1 := hx6Y.c 1 _ rfl
        have al := hx6Y.lt
        have c0 := hx2Y.c 0 _ rfl
        have c1 := hx2Y.c 1 _ rfl
        have f0 := hx2Y.f 0
        have f1 := hx2Y.f 1
        have l2 := hx2Y.lt
        have HXZ := Lib.hid ((hx2Y.put1 (.slice ao bo co)).put2 (.slice d1 e1 f1'))
        have HBZ : Hid (Below W.heap.size W ((Y.setCell ⟨n2, 0, none⟩ (.slice ao bo co)).setCell ⟨n2, 1, none⟩ (.slice d1 e1 f1'))) := Lib.hid (((hbWY.setCell (p := ⟨n2, 0, none⟩) (Nat.le_of_eq HN2.out.symm) _).setCell (p := ⟨n2, 1, none⟩) (Nat.le_of_eq HN2.out.symm) _))
        have HVZ : Hid (New W.heap.size ((Y.setCell ⟨n2, 0, none⟩ (.slice ao bo co)).setCell ⟨n2, 1, none⟩ (.slice d1 e1 f1')) (PathV (.agg #[.slice ao bo co, .slice d1 e1 f1']) p)) := Lib.hid (fun Z hZ => HNY.out Z fun j hj => by
          have h1 := hj.1; have h2 := hj.2; have h3 := HSY.out
          rw [hZ j ⟨by omega, by simp [World.setCell]; exact h2⟩]
          exact (Below.heap_setCell _ ⟨n2, 1, none⟩ _ j (show j ≠ n2 by omega)).trans (Below.heap_setCell _ ⟨n2, 0, none⟩ _ j (show j ≠ n2 by omega)))
        clear hx2Y hx6Y hbWY
        go_wp2
        have HF := Lib.hid (finR (X := (Y.setCell ⟨n2, 0, none⟩ (.slice ao bo co)).setCell ⟨n2, 1, none⟩ (.slice d1 e1 f1')) (n := n2) (W := W) (res := res) (p := p) (code := 0) HXZ.out HRN.out HVZ.out HBZ.out)
        clear a0 a1 al c0 c1 f0 f1 l2 HXZ HBZ HVZ
        generalize (Y.setCell ⟨n2, 0, none⟩ (.slice ao bo co)).setCell ⟨n2, 1, none⟩ (.slice d1 e1 f1') = X at HF ⊢
        obtain ⟨c0, c1, l2, hP⟩ := HF.out
        refine bodyPost_ret (v := .tuple #[.agg #[.slice ao bo co, .slice d1 e1 f1'], .int .i64 0]) (by simp [results, Tryz.results25, go_sem, c0, c1]) rfl ?_
        exact hP
end Go.Proofs.Ng
end

section
/-
  Walks: equal data is the same. Printed by gen_cr.py.
-/
namespace Go.Proofs.Ng
open Go.RowKit

theorem run_isAgg2 (w : World) : (isAgg 2).run Tryz.prog w = .ok false w := by
  simp [isAgg, go_sem, Tryz.underlying2]
theorem run_sizeOf2 (w : World) : (Go.sizeOf 2).run Tryz.prog w = .ok 1 w := by
  obtain ⟨i, hi, _, hs, _⟩ := info_parts info2
  simp [Go.sizeOf, typeInfo, go_sem, hi, hs]
theorem run_part2 (cs : Array Value) (i : Nat) (v : Value) (h : cs[i]? = some v) (w : World) : (part 2 cs i).run Tryz.prog w = .ok v w := by
  simp [part, go_sem, run_isAgg2, h]
theorem eq2d (n : Nat) (a b : Int) (w : World) : (Op.equalIn (n + 1) 2 (.int .i64 a) (.int .i64 b)).run Tryz.prog w = .ok (a == b) w := by
  simp [Op.equalIn, go_sem, Tryz.underlying2]
theorem r3 : List.range' 0 3 = [0, 1, 2] := rfl
theorem eq38d (n : Nat) (a b c : Int) (w : World) : (Op.equalIn (n + 2) 38 (.agg #[.int .i64 a, .int .i64 b, .int .i64 c]) (.agg #[.int .i64 a, .int .i64 b, .int .i64 c])).run Tryz.prog w = .ok true w := by
  rw [Op.equalIn]
  simp [r3, go_sem, Tryz.underlying38, run_sizeOf2, run_part2, eq2d]
set_option maxRecDepth 100000 in
set_option maxHeartbeats 4000000 in
theorem same69 (w : World) (oa ob : Option Addr) (ca cb : Nat) (ns : List Int) (h1 : Sl w oa 1 (pvals ns)) (h2 : Sl w ob 1 (pvals ns)) (hm : ns.length ≤ 1000000000) :
    Calls Tryz.prog 69 #[.slice oa ns.length ca, .slice ob ns.length cb] w (BoolP true w) := by
  have H1 := Lib.hid h1
  have H2 := Lib.hid h2
  have hq : ((ns.length : Int) != (ns.length : Int)) = false := by simp
  clear h1 h2
  go_enter Tryz.func69, Tryz.ntmps69
  go_wp2_with fail
  clear hq
  go_loopw [5] (fun i W => ∃ k : Nat, k ≤ ns.length ∧ i = .int .i64 (k : Nat) ∧ Below w.heap.size w W) (fun i _ => ns.length - (intOf i).toNat)
  case atStart => exact ⟨0, Nat.zero_le _, rfl, Below.refl _ _⟩
  case round =>
    obtain ⟨k, hk, rfl, hB⟩ := hrel
    by_cases hlt : k < ns.length
    · obtain ⟨x, hx⟩ : ∃ x, ns[k]? = some x := ⟨_, List.getElem?_eq_getElem hlt⟩
      obtain ⟨g1, o1, e1, x1, l1⟩ := pv_get (H1.out.keep hB) hx
      obtain ⟨g2, o2, e2, x2, l2⟩ := pv_get (H2.out.keep hB) hx
      subst e1 e2
      have hxx : (x != x) = false := by simp
      have hkl : (k : Int) < (ns.length : Int) := by omega
      have HB := Lib.hid hB
      clear hB hx
      go_wp2_with fail
      go_quiet (fail)
      have HB2 := Lib.hid (below_call HB.out (below_drew wr nq))
      clear x1 x2 l1 l2 hxx
      go_wp2_with fail
      go_roundw
      case rel => exact ⟨k + 1, by omega, by simp, HB2.out⟩
      case measure => simp [intOf]; omega
    · have hke : k = ns.length := by omega
      subst hke
      go_wp2
      go_ret
      exact boolP_mk rfl hB
set_option maxRecDepth 100000 in
set_option maxHeartbeats 4000000 in
theorem same71 (w : World) (oa ob : Option Addr) (ca cb : Nat) (ns : List Int) (h1 : Sl w oa 1 (pvals ns)) (h2 : Sl w ob 1 (pvals ns)) (hm : ns.length ≤ 1000000000) :
    Calls Tryz.prog 71 #[.slice oa ns.length ca, .slice ob ns.length cb] w (BoolP true w) := by
  have H1 := Lib.hid h1
  have H2 := Lib.hid h2
  have hq : ((ns.length : Int) != (ns.length : Int)) = false := by simp
  clear h1 h2
  go_enter Tryz.func71, Tryz.ntmps71
  go_wp2_with fail
  clear hq
  go_loopw [5] (fun i W => ∃ k : Nat, k ≤ ns.length ∧ i = .int .i64 (k : Nat) ∧ Below w.heap.size w W) (fun i _ => ns.length - (intOf i).toNat)
  case atStart => exact ⟨0, Nat.zero_le _, rfl, Below.refl _ _⟩
  case round =>
    obtain ⟨k, hk, rfl, hB⟩ := hrel
    by_cases hlt : k < ns.length
    · obtain ⟨x, hx⟩ : ∃ x, ns[k]? = some x := ⟨_, List.getElem?_eq_getElem hlt⟩
      obtain ⟨g1, o1, e1, x1, l1⟩ := pv_get (H1.out.keep hB) hx
      obtain ⟨g2, o2, e2, x2, l2⟩ := pv_get (H2.out.keep hB) hx
      subst e1 e2
      have hxx : (x != x) = false := by simp
      have hkl : (k : Int) < (ns.length : Int) := by omega
      have HB := Lib.hid hB
      clear hB hx
      go_wp2_with fail
      go_quiet (fail)
      have HB2 := Lib.hid (below_call HB.out (below_drew wr nq))
      clear x1 x2 l1 l2 hxx
      go_wp2_with fail
      go_roundw
      case rel => exact ⟨k + 1, by omega, by simp, HB2.out⟩
      case measure => simp [intOf]; omega
    · have hke : k = ns.length := by omega
      subst hke
      go_wp2
      go_ret
      exact boolP_mk rfl hB
set_option maxRecDepth 100000 in
set_option maxHeartbeats 4000000 in
theorem same70 (w : World) (oa ob : Option Addr) (ca cb : Nat) (ns : List (Int × Int × Int)) (h1 : Sl w oa 3 (vecsV ns)) (h2 : Sl w ob 3 (vecsV ns)) (hm : ns.length ≤ 1000000000) :
    Calls Tryz.prog 70 #[.slice oa ns.length ca, .slice ob ns.length cb] w (BoolP true w) := by
  have H1 := Lib.hid h1
  have H2 := Lib.hid h2
  have hq : ((ns.length : Int) != (ns.length : Int)) = false := by simp
  clear h1 h2
  go_enter Tryz.func70, Tryz.ntmps70
  go_wp2_with fail
  clear hq
  go_loopw [5] (fun i W => ∃ k : Nat, k ≤ ns.length ∧ i = .int .i64 (k : Nat) ∧ Below w.heap.size w W) (fun i _ => ns.length - (intOf i).toNat)
  case atStart => exact ⟨0, Nat.zero_le _, rfl, Below.refl _ _⟩
  case round =>
    obtain ⟨k, hk, rfl, hB⟩ := hrel
    by_cases hlt : k < ns.length
    · obtain ⟨x, hx⟩ : ∃ x, ns[k]? = some x := ⟨_, List.getElem?_eq_getElem hlt⟩
      obtain ⟨g1, o1, e1, l1, x1, x2, x3⟩ := vec_get (H1.out.keep hB) hx
      obtain ⟨g2, o2, e2, l2, y1, y2, y3⟩ := vec_get (H2.out.keep hB) hx
      subst e1 e2
      have hcmp : ∀ u, (Op.equalIn 10000 38 (.agg #[.int .i64 x.1, .int .i64 x.2.1, .int .i64 x.2.2]) (.agg #[.int .i64 x.1, .int .i64 x.2.1, .int .i64 x.2.2])).run Tryz.prog u = .ok true u := fun u => eq38d 9998 _ _ _ u
      have hkl : (k : Int) < (ns.length : Int) := by omega
      have HB := Lib.hid hB
      clear hB hx
      go_wp2_with fail
      go_quiet (fail)
      have HB2 := Lib.hid (below_call HB.out (below_drew wr nq))
      clear x1 x2 x3 y1 y2 y3 l1 l2 hcmp
      go_wp2_with fail
      go_roundw
      case rel => exact ⟨k + 1, by omega, by simp, HB2.out⟩
      case measure => simp [intOf]; omega
    · have hke : k = ns.length := by omega
      subst hke
      go_wp2
      go_ret
      exact boolP_mk rfl hB
end Go.Proofs.Ng
end

section
/-
  Walks: equal paths are the same.
-/
namespace Go.Proofs.Ng
open Go.RowKit

set_option maxRecDepth 100000 in
set_option maxHeartbeats 4000000 in
theorem sameLists41 (w : World) (oa ob : Option Addr) (ca cb : Nat) (ps : List (List Int)) (h1 : Pts w oa ps) (h2 : Pts w ob ps) (hm : ps.length ≤ 1000000000) (hr : ∀ q ∈ ps, q.length ≤ 1000000000) :
    Calls Tryz.prog 41 #[.slice oa ps.length ca, .slice ob ps.length cb] w (BoolP true w) := by
  have H1 := Lib.hid h1
  have H2 := Lib.hid h2
  have HR := Lib.hid hr
  have hq : ((ps.length : Int) != (ps.length : Int)) = false := by simp
  clear h1 h2 hr
  go_enter Tryz.func41, Tryz.ntmps41
  go_wp2_with fail
  clear hq
  go_loopw [5] (fun i W => ∃ k : Nat, k ≤ ps.length ∧ i = .int .i64 (k : Nat) ∧ Below w.heap.size w W) (fun i _ => ps.length - (intOf i).toNat)
  case atStart => exact ⟨0, Nat.zero_le _, rfl, Below.refl _ _⟩
  case round =>
    obtain ⟨k, hk, rfl, hB⟩ := hrel
    by_cases hlt : k < ps.length
    · obtain ⟨x, hx⟩ : ∃ x, ps[k]? = some x := ⟨_, List.getElem?_eq_getElem hlt⟩
      obtain ⟨g1, o1, q1, c1, e1, x1, l1, s1⟩ := (H1.out.keep hB).get hx
      obtain ⟨g2, o2, q2, c2, e2, x2, l2, s2⟩ := (H2.out.keep hB).get hx
      subst e1 e2
      have hkl : (k : Int) < (ps.length : Int) := by omega
      have HC := Lib.hid (same69 wr.drew q1 q2 c1 c2 x (s1.keep (Below.refl _ _).drew) (s2.keep (Below.refl _ _).drew) (HR.out x (List.mem_of_getElem? hx)))
      have HB := Lib.hid (below_call hB (Below.refl wr.heap.size wr).drew)
      clear hB hx s1 s2
      go_upto_region 6 with fail
      go_still_tail 8, (by kernel_rfl)
      change wpList _ _ _ _ _ wr.drew
      clear x1 x2 l1 l2
      generalize wr.drew = V at HC HB ⊢
      go_wp2_with fail
      refine HC.out.mono ?_
      clear HC
      rintro e V2 ⟨rfl, hb⟩
      have HB2 := Lib.hid (below_call HB.out hb)
      clear hb HB
      go_wp2_with fail
      go_roundw
      case rel => exact ⟨k + 1, by omega, by simp, HB2.out⟩
      case measure => simp [intOf]; omega
    · have hke : k = ps.length := by omega
      subst hke
      go_wp2
      go_ret
      exact boolP_mk rfl hB
theorem two_new (W : World) (A B : List Value) (t : TypeId) : Bx ((W.alloc (.cells A.toArray t)).alloc (.cells B.toArray t)).drew W.heap.size A t ∧ Bx ((W.alloc (.cells A.toArray t)).alloc (.cells B.toArray t)).drew (W.heap.size + 1) B t ∧ Below W.heap.size W ((W.alloc (.cells A.toArray t)).alloc (.cells B.toArray t)).drew := by
  have h1 := (Bx.new W A t).keep ((Below.refl _ (W.alloc (.cells A.toArray t))).alloc (Nat.le_refl _) (.cells B.toArray t))
  have h2 := Bx.new (W.alloc (.cells A.toArray t)) B t
  have hz : (W.alloc (.cells A.toArray t)).heap.size = W.heap.size + 1 := by simp
  rw [hz] at h2
  exact ⟨h1.keep (Below.refl _ _).drew, h2.keep (Below.refl _ _).drew, (((Below.refl _ _).alloc (Nat.le_refl _) _).alloc (by simp) _).drew⟩
set_option maxRecDepth 100000 in
set_option maxHeartbeats 8000000 in
theorem samePacked42 (w : World) (ot ou pt pu : Option Addr) (ca cb cc cd : Nat) (ed : Fm.EdgeD) (h1 : Sl w ot 3 (vecsV ed.table)) (h2 : Uses w ou ed.uses) (h3 : Sl w pt 3 (vecsV ed.table)) (h4 : Uses w pu ed.uses) (hm1 : ed.table.length ≤ 1000000000) (hm2 : ed.uses.length ≤ 1000000000) (hm3 : ∀ u ∈ ed.uses, u.nums.length ≤ 1000000000) :
    Calls Tryz.prog 42 #[.agg #[.slice ot ed.table.length ca, .slice ou ed.uses.length cb], .agg #[.slice pt ed.table.length cc, .slice pu ed.uses.length cd]] w (BoolP true w) := by
  have hb1 : Below w.heap.size w ((w.alloc (.cells #[.slice ot ed.table.length ca, .slice ou ed.uses.length cb] 52)).alloc (.cells #[.slice pt ed.table.length cc, .slice pu ed.uses.length cd] 52)) := ((Below.refl _ _).alloc (Nat.le_refl _) _).alloc (by simp) _
  have hx1 := (Bx.new w [.slice ot ed.table.length ca, .slice ou ed.uses.length cb] 52).keep ((Below.refl _ (w.alloc (.cells #[.slice ot ed.table.length ca, .slice ou ed.uses.length cb] 52))).alloc (Nat.le_refl _) (.cells #[.slice pt ed.table.length cc, .slice pu ed.uses.length cd] 52))
  have hx2 := Bx.new (w.alloc (.cells #[.slice ot ed.table.length ca, .slice ou ed.uses.length cb] 52)) [.slice pt ed.table.length cc, .slice pu ed.uses.length cd] 52
  have hz : (w.alloc (.cells #[.slice ot ed.table.length ca, .slice ou ed.uses.length cb] 52)).heap.size = w.heap.size + 1 := by simp
  rw [hz] at hx2
  have HX1 := Lib.hid hx1
  have HX2 := Lib.hid hx2
  have HB := Lib.hid hb1
  have HT1 := Lib.hid (h1.keep hb1)
  have HU1 := Lib.hid (h2.keep hb1)
  have HT2 := Lib.hid (h3.keep hb1)
  have HU2 := Lib.hid (h4.keep hb1)
  have HM3 := Lib.hid hm3
  have hq : ((ed.uses.length : Int) != (ed.uses.length : Int)) = false := by simp
  clear h1 h2 h3 h4 hb1 hx1 hx2 hz hm3
  go_enter Tryz.func42, Tryz.ntmps42
  go_upto_region 1 with fail
  generalize ((w.alloc (.cells #[.slice ot ed.table.length ca, .slice ou ed.uses.length cb] 52)).alloc (.cells #[.slice pt ed.table.length cc, .slice pu ed.uses.length cd] 52)) = W1 at HX1 HX2 HB HT1 HU1 HT2 HU2 ⊢
  have HSZ := Lib.hid HB.out.size
  obtain ⟨n1, hn1⟩ : ∃ n, n = w.heap.size := ⟨_, rfl⟩
  have HN1 := Lib.hid hn1
  rw [← hn1] at HX1 HX2 ⊢
  clear hn1
  have a0 := HX1.out.c 0 _ rfl
  have a1 := HX1.out.c 1 _ rfl
  have al := HX1.out.lt
  have b0 := HX2.out.c 0 _ rfl
  have b1 := HX2.out.c 1 _ rfl
  have bl := HX2.out.lt
  have HC := Lib.hid (same70 W1 ot pt ca cc ed.table HT1.out HT2.out hm1)
  go_wp2_with fail
  refine HC.out.mono ?_
  clear HC
  rintro e W2 ⟨rfl, hb2⟩
  have HX12 := Lib.hid (HX1.out.keep hb2)
  have HX22 := Lib.hid (HX2.out.keep hb2)
  have HU12 := Lib.hid (HU1.out.keep hb2)
  have HU22 := Lib.hid (HU2.out.keep hb2)
  have HB2 := Lib.hid (below_call HB.out hb2)
  clear a0 a1 al b0 b1 bl hb2 HX1 HX2 HU1 HU2 HT1 HT2
  have a0 := HX12.out.c 0 _ rfl
  have a1 := HX12.out.c 1 _ rfl
  have al := HX12.out.lt
  have b0 := HX22.out.c 0 _ rfl
  have b1 := HX22.out.c 1 _ rfl
  have bl := HX22.out.lt
  go_wp2_with fail
  clear a0 a1 al b0 b1 bl hq
  go_loopw [5] (fun i W => ∃ k : Nat, k ≤ ed.uses.length ∧ i = .int .i64 (k : Nat) ∧ Below W2.heap.size W2 W) (fun i _ => ed.uses.length - (intOf i).toNat)
  case atStart => exact ⟨0, Nat.zero_le _, rfl, Below.refl _ _⟩
  case round =>
    obtain ⟨k, hk, rfl, hB⟩ := hrel
    have hx1 := HX12.out.keep hB
    have hx2 := HX22.out.keep hB
    have a0 := hx1.c 0 _ rfl
    have a1 := hx1.c 1 _ rfl
    have al := hx1.lt
    have b0 := hx2.c 0 _ rfl
    have b1 := hx2.c 1 _ rfl
    have bl := hx2.lt
    by_cases hlt : k < ed.uses.length
    · obtain ⟨u, hu⟩ : ∃ x, ed.uses[k]? = some x := ⟨_, List.getElem?_eq_getElem hlt⟩
      obtain ⟨g1, o1, p1, c1, e1, l1, u0, u1, u2, s1⟩ := (HU12.out.keep hB).get hu
      obtain ⟨g2, o2, p2, c2, e2, l2, v0, v1, v2, s2⟩ := (HU22.out.keep hB).get hu
      subst e1 e2
      have hkl : (k : Int) < (ed.uses.length : Int) := by omega
      have HB := Lib.hid hB
      clear hB hx1 hx2
      go_upto_region 6 with fail
      go_region
      case _ =>
        obtain ⟨m1, m2, mb⟩ := two_new wr [.int .i64 u.depth, .int .i64 u.index, .slice p1 u.nums.length c1] [.int .i64 u.depth, .int .i64 u.index, .slice p2 u.nums.length c2] 54
        generalize (((wr.alloc (.cells #[.int .i64 u.depth, .int .i64 u.index, .slice p1 u.nums.length c1] 54)).alloc (.cells #[.int .i64 u.depth, .int .i64 u.index, .slice p2 u.nums.length c2] 54)).drew) = V at m1 m2 mb ⊢
        have HB3 := Lib.hid (below_call HB.out mb)
        have HC3 := Lib.hid (same71 V p1 p2 c1 c2 u.nums (s1.keep mb) (s2.keep mb) (HM3.out u (List.mem_of_getElem? hu)))
        have z0 := m1.c 0 _ rfl
        have z1 := m1.c 1 _ rfl
        have z2 := m1.c 2 _ rfl
        have y0 := m2.c 0 _ rfl
        have y1 := m2.c 1 _ rfl
        have y2 := m2.c 2 _ rfl
        have zl := m1.lt
        have yl := m2.lt
        clear m1 m2 mb s1 s2 l1 l2 u0 u1 u2 v0 v1 v2 HB a0 a1 al b0 b1 bl
        go_wp2_with fail
        refine HC3.out.mono ?_
        clear HC3
        rintro e V2 ⟨rfl, hb⟩
        have HB4 := Lib.hid (below_call HB3.out hb)
        clear hb HB3 z0 z1 z2 y0 y1 y2 zl yl
        go_wp2_with fail
        go_roundw
        case rel => exact ⟨k + 1, by omega, by simp, HB4.out⟩
        case measure => simp [intOf]; omega
      case _ =>
        obtain ⟨m2, m1, mb⟩ := two_new wr [.int .i64 u.depth, .int .i64 u.index, .slice p2 u.nums.length c2] [.int .i64 u.depth, .int .i64 u.index, .slice p1 u.nums.length c1] 54
        generalize (((wr.alloc (.cells #[.int .i64 u.depth, .int .i64 u.index, .slice p2 u.nums.length c2] 54)).alloc (.cells #[.int .i64 u.depth, .int .i64 u.index, .slice p1 u.nums.length c1] 54)).drew) = V at m1 m2 mb ⊢
        have HB3 := Lib.hid (below_call HB.out mb)
        have HC3 := Lib.hid (same71 V p1 p2 c1 c2 u.nums (s1.keep mb) (s2.keep mb) (HM3.out u (List.mem_of_getElem? hu)))
        have z0 := m1.c 0 _ rfl
        have z1 := m1.c 1 _ rfl
        have z2 := m1.c 2 _ rfl
        have y0 := m2.c 0 _ rfl
        have y1 := m2.c 1 _ rfl
        have y2 := m2.c 2 _ rfl
        have zl := m1.lt
        have yl := m2.lt
        clear m1 m2 mb s1 s2 l1 l2 u0 u1 u2 v0 v1 v2 HB a0 a1 al b0 b1 bl
        go_wp2_with fail
        refine HC3.out.mono ?_
        clear HC3
        rintro e V2 ⟨rfl, hb⟩
        have HB4 := Lib.hid (below_call HB3.out hb)
        clear hb HB3 z0 z1 z2 y0 y1 y2 zl yl
        go_wp2_with fail
        go_roundw
        case rel => exact ⟨k + 1, by omega, by simp, HB4.out⟩
        case measure => simp [intOf]; omega
    · have hke : k = ed.uses.length := by omega
      subst hke
      clear hx1 hx2
      go_wp2
      go_ret
      exact boolP_mk rfl (below_call HB2.out hB)
/-- Two boxes, made one behind the other. -/
theorem two_box (W : World) (A B : List Value) (t : TypeId) : Bx ((W.alloc (.cells A.toArray t)).alloc (.cells B.toArray t)) W.heap.size A t ∧ Bx ((W.alloc (.cells A.toArray t)).alloc (.cells B.toArray t)) (W.heap.size + 1) B t ∧ Below W.heap.size W ((W.alloc (.cells A.toArray t)).alloc (.cells B.toArray t)) := by
  have h1 := (Bx.new W A t).keep ((Below.refl _ (W.alloc (.cells A.toArray t))).alloc (Nat.le_refl _) (.cells B.toArray t))
  have h2 := Bx.new (W.alloc (.cells A.toArray t)) B t
  have hz : (W.alloc (.cells A.toArray t)).heap.size = W.heap.size + 1 := by simp
  rw [hz] at h2
  exact ⟨h1, h2, ((Below.refl _ _).alloc (Nat.le_refl _) _).alloc (by simp) _⟩
/-- A path whose rows are not longer than a billion. -/
structure PathSmall (p : Fm.PathD) : Prop where
  n1 : p.pts.length ≤ 1000000000
  n2 : ∀ q ∈ p.pts, q.length ≤ 1000000000
  n3 : p.edges.length ≤ 1000000000
  n4 : ∀ e ∈ p.edges, e.table.length ≤ 1000000000 ∧ e.uses.length ≤ 1000000000 ∧ ∀ u ∈ e.uses, u.nums.length ≤ 1000000000
set_option maxRecDepth 100000 in
set_option maxHeartbeats 8000000 in
theorem samePath18 (w : World) (v1 v2 : Value) (p : Fm.PathD) (h1 : PathAt w v1 p) (h2 : PathAt w v2 p) (hm : PathSmall p) : Calls Tryz.prog 18 #[v1, v2] w (BoolP true w) := by
  obtain ⟨op, ca, oe, cb, rfl, hp1, he1⟩ := h1
  obtain ⟨pp, cc, pe, cd, rfl, hp2, he2⟩ := h2
  obtain ⟨hx1, hx2, hb1⟩ := two_box w [.slice op p.pts.length ca, .slice oe p.edges.length cb] [.slice pp p.pts.length cc, .slice pe p.edges.length cd] 25
  have HX1 := Lib.hid hx1
  have HX2 := Lib.hid hx2
  have HB := Lib.hid hb1
  have HT1 := Lib.hid (hp1.keep hb1)
  have HU1 := Lib.hid (he1.keep hb1)
  have HT2 := Lib.hid (hp2.keep hb1)
  have HU2 := Lib.hid (he2.keep hb1)
  have hm3 := hm.n3
  have HM := Lib.hid hm
  have hq : ((p.edges.length : Int) != (p.edges.length : Int)) = false := by simp
  clear hp1 he1 hp2 he2 hb1 hx1 hx2 hm
  go_enter Tryz.func18, Tryz.ntmps18
  go_upto_region 1 with fail
  generalize ((w.alloc (.cells #[.slice op p.pts.length ca, .slice oe p.edges.length cb] 25)).alloc (.cells #[.slice pp p.pts.length cc, .slice pe p.edges.length cd] 25)) = W1 at HX1 HX2 HB HT1 HU1 HT2 HU2 ⊢
  obtain ⟨n1, hn1⟩ : ∃ n, n = w.heap.size := ⟨_, rfl⟩
  have HN1 := Lib.hid hn1
  rw [← hn1] at HX1 HX2 ⊢
  clear hn1
  have a0 := HX1.out.c 0 _ rfl
  have a1 := HX1.out.c 1 _ rfl
  have al := HX1.out.lt
  have b0 := HX2.out.c 0 _ rfl
  have b1 := HX2.out.c 1 _ rfl
  have bl := HX2.out.lt
  have HC := Lib.hid (sameLists41 W1 op pp ca cc p.pts HT1.out HT2.out HM.out.n1 HM.out.n2)
  go_wp2_with fail
  refine HC.out.mono ?_
  clear HC
  rintro e W2 ⟨rfl, hb2⟩
  have HX12 := Lib.hid (HX1.out.keep hb2)
  have HX22 := Lib.hid (HX2.out.keep hb2)
  have HU12 := Lib.hid (HU1.out.keep hb2)
  have HU22 := Lib.hid (HU2.out.keep hb2)
  have HB2 := Lib.hid (below_call HB.out hb2)
  clear a0 a1 al b0 b1 bl hb2 HX1 HX2 HU1 HU2 HT1 HT2
  have a0 := HX12.out.c 0 _ rfl
  have a1 := HX12.out.c 1 _ rfl
  have al := HX12.out.lt
  have b0 := HX22.out.c 0 _ rfl
  have b1 := HX22.out.c 1 _ rfl
  have bl := HX22.out.lt
  go_wp2_with fail
  clear a0 a1 al b0 b1 bl hq
  go_loopw [5] (fun i W => ∃ k : Nat, k ≤ p.edges.length ∧ i = .int .i64 (k : Nat) ∧ Below W2.heap.size W2 W) (fun i _ => p.edges.length - (intOf i).toNat)
  case atStart => exact ⟨0, Nat.zero_le _, rfl, Below.refl _ _⟩
  case round =>
    obtain ⟨k, hk, rfl, hB⟩ := hrel
    have hx1 := HX12.out.keep hB
    have hx2 := HX22.out.keep hB
    have a0 := hx1.c 0 _ rfl
    have a1 := hx1.c 1 _ rfl
    have al := hx1.lt
    have b0 := hx2.c 0 _ rfl
    have b1 := hx2.c 1 _ rfl
    have bl := hx2.lt
    by_cases hlt : k < p.edges.length
    · obtain ⟨u, hu⟩ : ∃ x, p.edges[k]? = some x := ⟨_, List.getElem?_eq_getElem hlt⟩
      obtain ⟨g1, o1, t1, f1, r1, d1, e1, l1, u0, u1, s1, q1⟩ := (HU12.out.keep hB).get hu
      obtain ⟨g2, o2, t2, f2, r2, d2, e2, l2, y0, y1, s2, q2⟩ := (HU22.out.keep hB).get hu
      subst e1 e2
      obtain ⟨x1, x2, x3⟩ := HM.out.n4 u (List.mem_of_getElem? hu)
      have hkl : (k : Int) < (p.edges.length : Int) := by omega
      have kk : Below wr.heap.size wr wr.drew := (Below.refl _ _).drew
      have HC := Lib.hid (samePacked42 wr.drew t1 r1 t2 r2 f1 d1 f2 d2 u (s1.keep kk) (q1.keep kk) (s2.keep kk) (q2.keep kk) x1 x2 x3)
      have HB := Lib.hid (below_call hB kk)
      clear hB hx1 hx2 kk s1 s2 q1 q2 x1 x2 x3
      go_upto_region 6 with fail
      go_still_tail 10, (by kernel_rfl)
      change wpList _ _ _ _ _ wr.drew
      clear u0 u1 y0 y1 a0 a1 al b0 b1 bl l1 l2
      generalize wr.drew = V at HC HB ⊢
      go_wp2_with fail
      refine HC.out.mono ?_
      clear HC
      rintro e V2 ⟨rfl, hb⟩
      have HB3 := Lib.hid (below_call HB.out hb)
      clear hb HB
      go_wp2_with fail
      go_roundw
      case rel => exact ⟨k + 1, by omega, by simp, HB3.out⟩
      case measure => simp [intOf]; omega
    · have hke : k = p.edges.length := by omega
      subst hke
      clear hx1 hx2
      go_wp2
      go_ret
      exact boolP_mk rfl (below_call HB2.out hB)
end Go.Proofs.Ng
end

section
/-
  Walks: numbers and paths that are made.
-/
namespace Go.Proofs.Ng
open Go.RowKit

theorem wrap_r64 (a : Int) : Fm.inR64 (IntKind.i64.wrap a) := by
  have h := wrap_within .i64 a
  have h1 : IntKind.i64.min = -9223372036854775808 := by decide
  have h2 : IntKind.i64.max = 9223372036854775807 := by decide
  unfold Fm.inR64; omega
theorem wrap64_r64 (a : Int) : Fm.inR64 (RowKit.wrap64 a) := by rw [← IntWalk.i64_left]; exact wrap_r64 a
theorem bits_in (op : BinOp) (a b : Int) : Fm.inR64 (bits op .i64 a b) := wrap_r64 _
theorem shr_in {m : Int} (k : Nat) (h : Fm.inR64 m) : Fm.inR64 (m / 2 ^ k) := by
  have hp : (0 : Int) < 2 ^ k := Int.pow_pos (by decide)
  unfold Fm.inR64 at h ⊢
  rcases Int.lt_or_le m 0 with h0 | h0
  · have h1 := Int.ediv_lt_of_lt_mul hp (show m < 0 * 2 ^ k by omega)
    have h2 : m ≤ m / 2 ^ k := by
      rw [Int.le_ediv_iff_mul_le hp]
      have : m * 2 ^ k ≤ m * 1 := Int.mul_le_mul_of_nonpos_left (by omega) (by omega)
      omega
    omega
  · have h1 : 0 ≤ m / 2 ^ k := Int.ediv_nonneg h0 (by omega)
    have h2 := Int.ediv_le_self (2 ^ k) h0
    omega
/-- A number was made by a source. -/
def MadeN (nS : Nat) (os : Option Addr) (cap : Nat) (xs : List Int) (W : World) (e : Ending) (W' : World) : Prop := ∃ r : Int, Fm.inR64 r ∧ e = .returned (.int .i64 r) ∧ W.grownBy W' (some nS) ∧ Src W' nS os cap xs
set_option maxRecDepth 100000 in
set_option maxHeartbeats 4000000 in
theorem number21 (W : World) (nS : Nat) (os : Option Addr) (cap : Nat) (xs : List Int) (h : Src W nS os cap xs) :
    Calls Tryz.prog 21 #[.pointer (some ⟨nS, 0, none⟩)] W (MadeN nS os cap xs W) := by
  have HN := Lib.hid (fun (V : World) (n : Int) (hS : Src V nS os cap xs) (h1 : 1 ≤ n) (h2 : n ≤ 1000000000000) => next_any V nS os cap xs n hS h1 h2)
  have H0 := Lib.hid h
  clear h
  go_enter Tryz.func21, Tryz.ntmps21
  go_wp2_with fail
  refine (HN.out W 1073741824 H0.out (by decide) (by decide)).mono ?_
  rintro e W1 ⟨r1, hr1, hr2, rfl, hg, hS⟩
  have HG1 := Lib.hid hg
  have HS1 := Lib.hid hS
  clear hg hS
  go_wp2_with fail
  refine (HN.out W1 1073741824 HS1.out (by decide) (by decide)).mono ?_
  rintro e W2 ⟨r2, hr3, hr4, rfl, hg, hS⟩
  have HG2 := Lib.hid (grown_trans HG1.out hg)
  have HS2 := Lib.hid hS
  clear hg hS HG1 HS1
  go_wp2_with fail
  refine (HN.out W2 8 HS2.out (by decide) (by decide)).mono ?_
  rintro e W3 ⟨r3, hr5, hr6, rfl, hg, hS⟩
  have HG3 := Lib.hid (grown_trans HG2.out hg)
  have HS3 := Lib.hid hS
  clear hg hS HG2 HS2
  go_wp2_with fail
  refine (HN.out W3 64 HS3.out (by decide) (by decide)).mono ?_
  rintro e W4 ⟨r4, hr7, hr8, rfl, hg, hS⟩
  have HG4 := Lib.hid (grown_trans HG3.out hg)
  have HS4 := Lib.hid hS
  clear hg hS HG3 HS3
  go_wp2_with fail
  have hm := bits_in .or (bits .or .i64 (r1 * 8589934592) (r2 * 8)) r3
  generalize bits .or .i64 (bits .or .i64 (r1 * 8589934592) (r2 * 8)) r3 = m0 at hm ⊢
  have hm := Lib.hid (shr_in r4.toNat hm)
  generalize m0 / 2 ^ r4.toNat = m at hm ⊢
  refine (HN.out W4 3 HS4.out (by decide) (by decide)).mono ?_
  rintro e W5 ⟨r5, hr9, hr10, rfl, hg, hS⟩
  have HG5 := Lib.hid (grown_trans HG4.out hg)
  have HS5 := Lib.hid hS
  clear hg hS HG4 HS4
  by_cases h0 : r5 = 0
  · subst h0
    go_wp2_with fail
    refine (HN.out W5 2 HS5.out (by decide) (by decide)).mono ?_
    rintro e W6 ⟨r6, hr11, hr12, rfl, hg, hS⟩
    have HG6 := Lib.hid (grown_trans HG5.out hg)
    have HS6 := Lib.hid hS
    clear hg hS HG5 HS5
    go_wp2
    go_ret
    exact ⟨_, wrap64_r64 _, rfl, HG6.out, HS6.out⟩
  · go_wp2
    go_ret
    exact ⟨m, hm.out, rfl, HG5.out, HS5.out⟩
end Go.Proofs.Ng
end

