/-
  Texts put together: Cb Tz Cc Cd Ce In.
-/
import Derived.Test.YthcmkpcefiiiaaaGreatDoorZFormatCanonicalCard4
import Derived.Test.YthcmkpcefiiiaaaGreatDoorZFormatCanonicalCard5
import Derived.Shelf.Strconv.ParseIntPublic10
import Derived.Shelf.Strings.SplitShaped
import Derived.Test.YthcmkpcefiiiaaaGreatDoorZFormatCanonicalCard1
import Derived.Test.YthcmkpcefiiiaaaGreatDoorRows
import Derived.Stop.LaidErr
import Derived.Lib.LaidTab
import Derived.MakeChecks
import Derived.LaidMore
import Derived.LaidHandle
import Derived.Laws.Cover3
import Derived.Maps.AppendAt
import Derived.Orders
set_option linter.unusedVariables false
section
/-
 Walks: the words of a line as numbers; counts.
-/
namespace Go.Proofs.Ng
open Go.RowKit
theorem need_yes (w : World) : Calls Tryz.prog 45 #[.bool true] w (fun e w' => e = .returned (.tuple #[]) ∧ w' = w) := need66 true w
theorem need_no (w : World) : Calls Tryz.prog 45 #[.bool false] w (fun e w' => e = .panicked [{ v := .iface 133 (.agg #[]), recovered := false }] ∧ w' = w) := need66 false w
/-- What the library's variables hold. -/
structure LibW (W : World) : Prop where
 ml : ∃ m, W.cell? ⟨1, 0, none⟩ = some (.int .i64 m)
 es : ∃ tp p, W.cell? ⟨4, 0, none⟩ = some (.iface tp p)
 er : ∃ tp p, W.cell? ⟨5, 0, none⟩ = some (.iface tp p)
 gt : 8 ≤ W.heap.size
 tab : TabW 8 W
theorem LibW.low {W W' : World} (h : LibW W) (hb : Below 8 W W') : LibW W' := by
 obtain ⟨⟨m, h1⟩, ⟨t2, p2, h2⟩, ⟨t3, p3, h3⟩, h4, h5⟩ := h
 refine ⟨⟨m, ?_⟩, ⟨t2, p2, ?_⟩, ⟨t3, p3, ?_⟩, Nat.le_trans h4 hb.size, h5.on hb⟩
 ·rw [← h1]; simp [World.cell?, hb.block 1 (by omega)]
 ·rw [← h2]; simp [World.cell?, hb.block 4 (by omega)]
 ·rw [← h3]; simp [World.cell?, hb.block 5 (by omega)]
theorem LibW.keep {W W' : World} (h : LibW W) (hb : Below W.heap.size W W') : LibW W' := h.low (hb.mono h.gt)
theorem LibW.tabs {W : World} (h : LibW W) : TabW W.heap.size W := fun w2 h2 => h.tab w2 (h2.mono h.gt)
theorem grown_low8 {W W' : World} {b : Nat} (hg : W.grownBy W' (some b)) (h8 : 8 ≤ W.heap.size) (hb : 8 ≤ b) : Below 8 W W' :=
 ⟨hg.os, hg.tape, hg.output, hg.size, fun k hk => hg.block k (by omega) (fun e => by injection e with e; omega)⟩
theorem LibW.keepG {W W' : World} {b : Nat} (h : LibW W) (hg : W.grownBy W' (some b)) (hb : 8 ≤ b) : LibW W' := h.low (grown_low8 hg h.gt hb)
theorem parse_in {s : List UInt8} {n : Int} (h : Lib.parseIntB 64 s = .ok n) : Fm.inR64 n := by
 have e2 : (2 : Nat) ^ (64 - 1) = 9223372036854775808 := by decide
 unfold Fm.inR64
 cases s with
 | nil => simp [Lib.parseIntB] at h
 | cons c r =>
  unfold Lib.parseIntB at h
  simp only at h
  split at h
  ·cases h
  ·cases h
  ·split at h
   ·cases h
   ·split at h
    ·cases h
    ·rename_i u _ h1 h2
     rw [e2] at h1 h2
     injection h with h
     split at h <;> omega
/-- How the code reads a word. -/
def NumP (o : Option Int) (W : World) (e : Ending) (W' : World) : Prop := (match o with | some n => e = .returned (.int .i64 n) | none => e = malP) ∧ Below W.heap.size W W'
theorem bytes_eq (a : ByteArray) (l : List UInt8) (h : a.data.toList = l) : (⟨l.toArray⟩ : ByteArray) = a := by
 subst h
 cases a
 simp
set_option maxRecDepth 100000 in
set_option maxHeartbeats 2000000 in
theorem number80 (s : ByteArray) (W : World) (hs : s.size ≤ 1048576) (hL : LibW W) : Calls Tryz.prog 97 #[.string s] W (NumP (Fm.spelledL s.data.toList) W) := by
 cases hp : Lib.parseIntB 64 s.data.toList with
 | ok v =>
  have hv := parse_in hp
  have h91 : Calls Tryz.prog 115 #[.string s, .int .i64 10, .int .i64 64] W (fun e W' => e = .returned (.tuple #[.int .i64 v, .nilIface]) ∧ Below W.heap.size W W') := by
   have hc : Calls Tryz.prog 115 #[.string s, .int .i64 10, .int .i64 64] W _ := Any.strconv_ParseInt_10_at64_ok Tryz.parL s (by omega) v hp W
   refine hc.mono ?_
   rintro e w' ⟨rfl, h⟩
   refine ⟨rfl, ?_⟩
   rcases h with rfl | ⟨t, rfl⟩
   ·exact Below.refl _ _
   ·exact Lib.bytesWorld_below _ _ _
  have H91 := Lib.hid h91
  have HL := Lib.hid hL
  clear h91 hL
  by_cases he : Lib.itoa v = s.data.toList
  ·have hsp : Fm.spelledL s.data.toList = some v := (Fm.number_iff hv.1 hv.2).2 ⟨hp, he⟩
   have hse := bytes_eq s _ he.symm
   rw [hsp]
   clear he hp hsp
   go_enter Tryz.func97, Tryz.ntmps97
   go_wp2_with fail
   refine H91.out.mono ?_
   rintro e W1 ⟨rfl, hb⟩
   have HF := Lib.hid (fmt48 v hv W1 (HL.out.keep hb).tabs)
   have HB := Lib.hid hb
   clear H91 hb
   go_wp2_with fail
   refine HF.out.mono ?_
   rintro e W2 ⟨rfl, hb2⟩
   rw [hse]
   have HB2 := Lib.hid (below_call HB.out hb2)
   clear HF HB hb2
   go_wp2_with fail
   refine (need_yes W2).mono ?_
   rintro e W3 ⟨rfl, hw3⟩
   subst hw3
   go_wp2
   go_ret
   exact ⟨rfl, HB2.out⟩
  ·have hsp : Fm.spelledL s.data.toList = none := by
    cases h : Fm.spelledL s.data.toList with
    | none => rfl
    | some n =>
     obtain ⟨h1, h2⟩ := Fm.spelled_some h
     rw [hp] at h2
     injection h2 with h2
     subst h2
     exact absurd h1 he
   have hne : (Lib.itoa v == s.toList) = false := by rw [ByteArray.toList_eq, beq_eq_false_iff_ne]; exact he
   rw [hsp]
   clear he hp hsp
   go_enter Tryz.func97, Tryz.ntmps97
   go_wp2_with fail
   refine H91.out.mono ?_
   rintro e W1 ⟨rfl, hb⟩
   have HF := Lib.hid (fmt48 v hv W1 (HL.out.keep hb).tabs)
   have HB := Lib.hid hb
   clear H91 hb
   go_wp2_with fail
   refine HF.out.mono ?_
   rintro e W2 ⟨rfl, hb2⟩
   have HB2 := Lib.hid (below_call HB.out hb2)
   clear HF HB hb2
   go_wp2_with fail
   refine (need_no W2).mono ?_
   rintro e W3 ⟨rfl, hw3⟩
   subst hw3
   go_wp2
   exact ⟨rfl, rfl, HB2.out⟩
 | range =>
  have hsp : Fm.spelledL s.data.toList = none := by
   cases h : Fm.spelledL s.data.toList with
   | none => rfl
   | some n =>
    have h2 := (Fm.spelled_some h).2
    rw [hp] at h2
    cases h2
  obtain ⟨tp, pv, he⟩ := hL.er
  have h91 : Calls Tryz.prog 115 #[.string s, .int .i64 10, .int .i64 64] W (fun e W' => ∃ N x, e = .returned (.tuple #[.int .i64 x, .iface 193 (.pointer (some ⟨N, 0, none⟩))]) ∧ Below W.heap.size W W') := by
   have hc : Calls Tryz.prog 115 #[.string s, .int .i64 10, .int .i64 64] W _ := Any.strconv_ParseInt_10_at64_range Tryz.parL s (by omega) hp (.iface tp pv) W he (.inr ⟨tp, pv, rfl⟩)
   exact hc.mono fun e w' ⟨N, h1, _, _, h2⟩ => ⟨N, _, h1, h2⟩
  have H91 := Lib.hid h91
  rw [hsp]
  clear h91 hL he hp hsp
  go_enter Tryz.func97, Tryz.ntmps97
  go_wp2_with fail
  refine H91.out.mono ?_
  rintro e W1 ⟨N, x, rfl, hb⟩
  have HB := Lib.hid hb
  clear H91 hb
  go_wp2_with fail
  refine (need_no W1).mono ?_
  rintro e W3 ⟨rfl, hw3⟩
  subst hw3
  go_wp2
  exact ⟨rfl, rfl, HB.out⟩
 | _ =>
  have hsp : Fm.spelledL s.data.toList = none := by
   cases h : Fm.spelledL s.data.toList with
   | none => rfl
   | some n =>
    have h2 := (Fm.spelled_some h).2
    rw [hp] at h2
    cases h2
  obtain ⟨tp, pv, he⟩ := hL.es
  have h91 : Calls Tryz.prog 115 #[.string s, .int .i64 10, .int .i64 64] W (fun e W' => ∃ N, e = .returned (.tuple #[.int .i64 0, .iface 193 (.pointer (some ⟨N, 0, none⟩))]) ∧ Below W.heap.size W W') := by
   have hc : Calls Tryz.prog 115 #[.string s, .int .i64 10, .int .i64 64] W _ := Any.strconv_ParseInt_10_at64_syntax Tryz.parL s (by omega) hp (.iface tp pv) W he (.inr ⟨tp, pv, rfl⟩)
   exact hc.mono fun e w' ⟨N, h1, _, _, h2⟩ => ⟨N, h1, h2⟩
  have H91 := Lib.hid h91
  rw [hsp]
  clear h91 hL he hp hsp
  go_enter Tryz.func97, Tryz.ntmps97
  go_wp2_with fail
  refine H91.out.mono ?_
  rintro e W1 ⟨N, rfl, hb⟩
  have HB := Lib.hid hb
  clear H91 hb
  go_wp2_with fail
  refine (need_no W1).mono ?_
  rintro e W3 ⟨rfl, hw3⟩
  subst hw3
  go_wp2
  exact ⟨rfl, rfl, HB.out⟩
end Go.Proofs.Ng
end

section
/-
  What the listed variables give the walk.
-/
namespace Go.Proofs.Ng
open Go.RowKit Go.Proofs.YthcmkpcefiiiaaaGreatDoor
theorem gP : Tryz.prog.globalNamed "internal/strconv.uint64pow10" = some 0 := by kernel_rfl
theorem gS : Tryz.prog.globalNamed "strconv.ErrSyntax" = some 4 := by kernel_rfl
theorem gR : Tryz.prog.globalNamed "strconv.ErrRange" = some 5 := by kernel_rfl
theorem gA : Tryz.prog.globalNamed "unicode/utf8.acceptRanges" = some 7 := by kernel_rfl
theorem tP : (Tryz.prog.globals[0]?).map (·.type) = some 175 := by kernel_rfl
theorem tS : (Tryz.prog.globals[4]?).map (·.type) = some 170 := by kernel_rfl
theorem tR : (Tryz.prog.globals[5]?).map (·.type) = some 170 := by kernel_rfl
theorem row211 (u : TypeId) (h : Tryz.prog.typeName? 3 u = some "*errors.errorString") : u = 211 :=
 typeName_ptr_named (nm := "errors.errorString") (by kernel_rfl) (by kernel_rfl) (by decide) u h
abbrev laid43 : List (String × DataW Unit) := Rows.formatKindsRow.laid
theorem lib_of {W : World} (hL0 : laidMetH Tryz.prog laid43 W) (hsh : W.ShapedOpen Tryz.prog) : LibW W := by
 rw [MakeChecks.laidMetH_plain _ _ _ (by kernel_rfl)] at hL0
 have hL : laidMet Tryz.prog [("math/bits.deBruijn32tab", Rows.laid_math_bits_deBruijn32tab), ("math/bits.deBruijn64tab", Rows.laid_math_bits_deBruijn64tab), ("internal/strconv.uint64pow10", Rows.laid_internal_strconv_uint64pow10), ("unicode/utf8.acceptRanges", Rows.laid_unicode_utf8_acceptRanges), ("strconv.ErrRange", Rows.laid_strconv_ErrRange), ("strconv.ErrSyntax", Rows.laid_strconv_ErrSyntax), ("unicode/utf8.first", Rows.laid_unicode_utf8_first)] W := hL0
 have h2 := laidMet.tail (laidMet.tail hL)
 have h3 := laidMet.tail h2
 have h4 := laidMet.tail h3
 have h5 := laidMet.tail h4
 have htab : Lib.TabIs Tryz.prog W "internal/strconv.uint64pow10" .u64 Lib.pow10Tab := Lib.tabIs_of_head gP tP Tryz.underlying175 Tryz.underlying163 (by kernel_rfl) (by kernel_rfl) (show laidMet Tryz.prog (("internal/strconv.uint64pow10", Lib.tabData .u64 Lib.pow10Tab) :: _) W from h2)
 obtain ⟨a1, s1, hv1, -, -, -⟩ := laid_sentinel h4 gR tR Tryz.underlying170 row211 Tryz.underlying211 Tryz.underlying213 rfl rfl Tryz.underlying9 (by kernel_rfl) (by kernel_rfl)
 obtain ⟨a2, s2, hv2, -, -, -⟩ := laid_sentinel h5 gS tS Tryz.underlying170 row211 Tryz.underlying211 Tryz.underlying213 rfl rfl Tryz.underlying9 (by kernel_rfl) (by kernel_rfl)
 have hz : 8 ≤ W.heap.size := by
  obtain ⟨ps, ⟨g0, t0, cs0, f0, p0, q0, hg0, ht0, hv0, _⟩, _⟩ := h3
  obtain rfl := Option.some.inj (gA.symm.trans hg0)
  unfold World.var? at hv0
  rw [gA] at hv0
  rcases Nat.lt_or_ge 7 W.heap.size with h' | h'
  ·exact h'
  ·simp [Array.getElem?_eq_none h'] at hv0
 refine ⟨Tryz.cutL.s1_3 W hsh, ⟨211, .pointer (some a2), ?_⟩, ⟨211, .pointer (some a1), ?_⟩, hz, fun w' hb => ?_⟩
 ·have := World.var?_cell gS hv2 0
  simpa using this
 ·have := World.var?_cell gR hv1 0
  simpa using this
 ·unfold Lib.TabIs World.var? at *
  rw [gP] at htab ⊢
  simp only [Option.bind_some] at htab ⊢
  rw [hb.block 0 (by omega)]
  exact htab
end Go.Proofs.Ng
end

section
/-
 Walks: counts; numbers as ints; the reader's state; a line.
-/
namespace Go.Proofs.Ng
open Go.RowKit
set_option maxRecDepth 100000 in
set_option maxHeartbeats 2000000 in
theorem count64 (n : Int) (W : World) : Calls Tryz.prog 67 #[.int .i64 n] W (fun e W' => e = (if Fm.cntOk n = true then .returned (.int .i64 n) else malP) ∧ W' = W) := by
 by_cases h0 : 0 ≤ n
 ·by_cases h1 : n ≤ 1048576
  ·have hd : Fm.cntOk n = true := decide_eq_true ⟨h0, h1⟩
   rw [if_pos hd]
   have hb0 : decide (0 ≤ n) = true := decide_eq_true h0
   have hb1 : decide (n ≤ 1048576) = true := decide_eq_true h1
   clear hd
   go_enter Tryz.func67, Tryz.ntmps67
   go_wp2_with fail
   refine (need_yes W).mono ?_
   rintro e W1 ⟨rfl, hw⟩
   subst hw
   have hi : IntKind.i64.wrap n = n := IntWalk.i64_in _ (by omega)
   go_wp2
   go_ret
   exact ⟨rfl, rfl⟩
  ·have hd : ¬ Fm.cntOk n = true := fun h => by unfold Fm.cntOk at h; rw [decide_eq_true_eq] at h; omega
   rw [if_neg hd]
   have hb0 : decide (0 ≤ n) = true := decide_eq_true h0
   have hb1 : decide (n ≤ 1048576) = false := decide_eq_false h1
   clear hd
   go_enter Tryz.func67, Tryz.ntmps67
   go_wp2_with fail
   refine (need_no W).mono ?_
   rintro e W1 ⟨rfl, hw⟩
   subst hw
   go_wp2
   exact ⟨rfl, rfl, rfl⟩
 ·have hd : ¬ Fm.cntOk n = true := fun h => by unfold Fm.cntOk at h; rw [decide_eq_true_eq] at h; omega
  rw [if_neg hd]
  have hb0 : decide (0 ≤ n) = false := decide_eq_false h0
  clear hd
  go_enter Tryz.func67, Tryz.ntmps67
  go_wp2_with fail
  refine (need_no W).mono ?_
  rintro e W1 ⟨rfl, hw⟩
  subst hw
  go_wp2
  exact ⟨rfl, rfl, rfl⟩
/-- A slice of numbers. -/
def NumV (v : Value) (ns : List Int) (W : World) : Prop := ∃ oa cap, v = .slice oa ns.length cap ∧ ns.length ≤ cap ∧ Sl W oa 1 (pvals ns)
theorem NumV.mk {lo : Nat} {W : World} {ty : TypeId} {v : Value} {ns : List Int} {k : Nat} (hk : ns.length = k) (h : W.ownsRow lo ty 1 v k (pflat ns)) {lo' : Nat} (hl : lo' ≤ lo) : New lo' W (NumV v ns) := by
 subst hk
 obtain ⟨oa, cap, rfl, hs⟩ := own_nums h
 have hc := own_cap h
 intro W' hW'
 have hO : W'.ownsRow lo ty 1 (.slice oa ns.length cap) ns.length (pflat ns) := own_blk h fun g _ hl' hb => hW' g ⟨Nat.le_trans hl hb, hl'⟩
 obtain ⟨oa', cap', e, hs'⟩ := own_nums hO
 injection e with e _ e3
 exact ⟨oa, cap, rfl, hc.1, by rw [e]; exact hs'⟩
theorem under26 : Tryz.prog.underlying 22 = some (.slice 3) := under24
theorem wrap_in {n : Int} (h : Fm.inR64 n) : IntKind.i64.wrap n = n := IntWalk.i64_in _ (by have := h.1; have := h.2; omega)
set_option maxRecDepth 100000 in
set_option maxHeartbeats 4000000 in
theorem ints77 (w : World) (on : Option Addr) (nc : Nat) (ns : List Int) (hN : Sl w on 1 (pvals ns)) (hr : ∀ n ∈ ns, Fm.inR64 n) (hm : ns.length ≤ 1048576) :
  Calls Tryz.prog 74 #[.slice on ns.length nc] w (fun e W' => ∃ v, e = .returned v ∧ New w.heap.size W' (NumV v ns) ∧ Below w.heap.size w W') := by
 have HN := Lib.hid hN
 have HR := Lib.hid hr
 clear hN hr
 go_enter Tryz.func74, Tryz.ntmps74
 go_wp2_with fail
 go_loopw [3, 8] (fun v i W => ∃ k : Nat, k ≤ ns.length ∧ i = .int .i64 (k : Nat) ∧ W.ownsRow w.heap.size 3 1 v k (pflat (ns.take k)) ∧ Below w.heap.size w W) (fun _ i _ => ns.length - (intOf i).toNat)
 case atStart => exact ⟨0, Nat.zero_le _, rfl, World.ownsRow_nil _ _ _ _, Below.refl _ _⟩
 case round =>
  obtain ⟨k, hk, rfl, hO, hB⟩ := hrel
  by_cases hlt : k < ns.length
  ·obtain ⟨x, hx⟩ : ∃ x, ns[k]? = some x := ⟨_, List.getElem?_eq_getElem hlt⟩
   obtain ⟨g, off, hon, x0, glt⟩ := pv_get (HN.out.keep hB) hx
   subst hon
   have hxw := wrap_in (HR.out x (List.mem_of_getElem? hx))
   have hxx : (x == x) = true := beq_self_eq_true x
   obtain ⟨i0, hi, hz0, hz1, hz2⟩ := info_parts info3
   have hb2 : Below wr.heap.size wr (wr.alloc (.cells #[.int .i64 x] 3)) := (Below.refl _ _).alloc (Nat.le_refl _) _
   have HO2 := Lib.hid (own_keep hO hb2)
   have HBC := Lib.hid (below_call hB hb2)
   have HTK := Lib.hid (pflat_take hx)
   clear hO hB hb2 hx
   go_wp2_with fail
   refine (need_yes wr).mono ?_
   rintro e W1 ⟨rfl, hw⟩
   subst hw
   go_wp2_with (at_builtin; refine wpList_append_own _ rfl _ _ 22 rfl w.heap.size 3 i0 (.int .i64 0) 1 8 under26 hi hz0 hz1 hz2 rfl (by decide) _ _ _ rfl HO2.out ⟨W1.heap.size, 0, none⟩ 1 1 [.int .i64 x] rfl rfl ?c1 ?c2 ?c3 ?c4 ?c5 ?_)
   case c1 => exact new_cells _ _ _
   case c2 => intro u hu; simp at hu; subst hu; rfl
   case c3 => unfold maxLen; omega
   case c4 => omega
   case c5 => exact HBC.out.size
   intro v' w' hown' hgrow _
   have HO : Hid (w'.ownsRow w.heap.size 3 1 v' (k + 1) (pflat (ns.take (k + 1)))) := Lib.hid (by rw [HTK.out]; exact hown')
   have HB := Lib.hid (HBC.out.trans (grown_below HO2.out hgrow HBC.out.size))
   clear hown' hgrow HO2 HBC hi hz0 hz1 hz2 x0 glt
   go_wp2_with fail
   go_roundw
   case rel => exact ⟨k + 1, by omega, by simp, HO.out, HB.out⟩
   case measure => simp [intOf]; omega
  ·have hke : k = ns.length := by omega
   subst hke
   rw [List.take_length] at hO
   have HO := Lib.hid hO
   have HB := Lib.hid hB
   clear hO hB
   go_wp2
   go_ret
   exact ⟨_, rfl, NumV.mk rfl HO.out (Nat.le_refl _), HB.out⟩
end Go.Proofs.Ng
end

section
/-
 Walks: the reader's state; a line.
-/
namespace Go.Proofs.Ng
open Go.RowKit
/-- The reader's box, and the lines that are left. -/
structure RdS (W : World) (b : Nat) (ls : List (List UInt8)) (tl : List UInt8) : Prop where
 ex : ∃ s : ByteArray, Bx W b [.string s] 96 ∧ Fm.linesT s.data.toList = (ls, tl) ∧ s.size ≤ 1048576
 lo : 8 ≤ b
theorem RdS.keep {W W' : World} {b : Nat} {ls : List (List UInt8)} {tl : List UInt8} (h : RdS W b ls tl) (hb : Below W.heap.size W W') : RdS W' b ls tl := by
 obtain ⟨s, h1, h2, h3⟩ := h.ex
 exact ⟨⟨s, h1.keep hb, h2, h3⟩, h.lo⟩
theorem RdS.lt {W : World} {b : Nat} {ls : List (List UInt8)} {tl : List UInt8} (h : RdS W b ls tl) : b < W.heap.size := by
 obtain ⟨s, h1, _, _⟩ := h.ex
 exact h1.lt
theorem RdS.keepA {W W' : World} {b lo : Nat} {ls : List (List UInt8)} {tl : List UInt8} (h : RdS W b ls tl) (hb : Below lo W W') (hl : b < lo) : RdS W' b ls tl := by
 obtain ⟨s, h1, h2, h3⟩ := h.ex
 exact ⟨⟨s, h1.low hb hl, h2, h3⟩, h.lo⟩
/-- What a reader's function answers: the data and the rest, or its panic. -/
def RdP {A : Type} (b : Nat) (tl : List UInt8) (V : Value → A → World → Prop) (W : World) (o : Option (A × List (List UInt8))) (e : Ending) (W' : World) : Prop :=
 (match o with
 | some (x, r) => ∃ v, e = .returned v ∧ New W.heap.size W' (V v x) ∧ RdS W' b r tl
 | none => e = malP) ∧ W.grownBy W' (some b)
section
variable {A : Type} {b : Nat} {tl : List UInt8} {V : Value → A → World → Prop} {W W' : World} {e : Ending} {x : A} {r : List (List UInt8)}
theorem RdP.yes (h : RdP b tl V W (some (x, r)) e W') : ∃ v, e = .returned v ∧ New W.heap.size W' (V v x) ∧ RdS W' b r tl ∧ W.grownBy W' (some b) := by
 obtain ⟨⟨v, h1, h2, h3⟩, h4⟩ := h
 exact ⟨v, h1, h2, h3, h4⟩
theorem RdP.mk {v : Value} {o : Option (A × List (List UInt8))} (ho : o = some (x, r)) (h1 : New W.heap.size W' (V v x)) (h2 : RdS W' b r tl) (h3 : W.grownBy W' (some b)) : RdP b tl V W o (.returned v) W' := by
 subst ho
 exact ⟨⟨v, rfl, h1, h2⟩, h3⟩
theorem RdP.mkno {o : Option (A × List (List UInt8))} (ho : o = none) (h3 : W.grownBy W' (some b)) : RdP b tl V W o (.panicked [{ v := .iface 133 (.agg #[]), recovered := false }]) W' := by
 subst ho
 exact ⟨rfl, h3⟩
theorem RdP.no (h : RdP b tl V W none e W') : e = malP ∧ W.grownBy W' (some b) := h
end
theorem grown_ag {W W' : World} {b : Nat} (h : W.grownBy W' (some b)) (lo : Nat) (hb : b < lo) : AgI lo W W' := ⟨h.size, fun k h1 h2 => h.block k h2 (fun e => by injection e with e; omega)⟩
theorem grown_call {W W1 W' : World} {b : Nat} (h : W.grownBy W1 (some b)) (hb : Below W1.heap.size W1 W') : W.grownBy W' (some b) := grown_trans h (grown_of_below hb)
theorem grown_low2 {W W1 W' : World} {b lo : Nat} (h : W.grownBy W1 (some b)) (hb : Below lo W1 W') (hl : W.heap.size ≤ lo) : W.grownBy W' (some b) :=
 ⟨hb.os.trans h.os, hb.tape.trans h.tape, hb.output.trans h.output, Nat.le_trans h.size hb.size, fun k hk hn => (hb.block k (by omega)).trans (h.block k hk hn)⟩
theorem Bx.put {W : World} {b : Nat} {v : Value} {ty : TypeId} (h : Bx W b [v] ty) (u : Value) : Bx (W.setCell ⟨b, 0, none⟩ u) b [u] ty := ⟨by simp [World.setCell, Array.getElem?_modify, h.h]⟩
def strs (l : List (List UInt8)) : List Value := l.map fun x => .string ⟨x.toArray⟩
theorem split73 (s : ByteArray) (c : UInt8) (W : World) (hs : s.size ≤ 1048576) (hL : LibW W) : Calls Tryz.prog 96 #[.string s, .string ⟨#[c]⟩] W (fun e W' => e = .returned (.slice (some ⟨W.heap.size, 0, none⟩) (Fm.splitC c s.data.toList).length (Fm.splitC c s.data.toList).length) ∧ W' = W.alloc (.cells (strs (Fm.splitC c s.data.toList)).toArray 9)) := by
 obtain ⟨m, hm⟩ := hL.ml
 have hi9 : (Tryz.prog.info? (Tryz.splitL_ren.t 9)).map (fun i => (i.zero, i.size, i.bytes)) = some (some (.string ByteArray.empty), 1, 16) := Tryz.splitL.i9
 have hc : Calls Tryz.prog 96 #[.string s, .string ⟨#[c]⟩] W _ := Any.strings_Split { Tryz.splitL with } hi9 s ⟨#[c]⟩ m W (by omega) hm (Nat.le_refl 1)
 have e1 : (Lib.splitB ⟨#[c]⟩ 0 (Lib.countB s ⟨#[c]⟩) s).map (·.data.toList) = Fm.splitC c s.data.toList := by
  rw [Lib.splitB_data]
  exact Fm.split_one c _ _ (Nat.le_refl _)
 have e2 : (Lib.splitB ⟨#[c]⟩ 0 (Lib.countB s ⟨#[c]⟩) s).map Value.string = strs (Fm.splitC c s.data.toList) := by
  rw [← e1]
  unfold strs
  rw [List.map_map]
  apply List.map_congr_left
  intro a _
  simp
 have e3 : Lib.countB s ⟨#[c]⟩ + 1 = (Fm.splitC c s.data.toList).length := by
  rw [← Lib.splitB_all ⟨#[c]⟩ (Nat.le_refl 1) 0 _ s rfl, ← e1, List.length_map]
 refine hc.mono ?_
 rintro e W' ⟨rfl, rfl⟩
 rw [e2, e3]
 exact ⟨rfl, rfl⟩
theorem cut79 (s : ByteArray) (W : World) (hs : s.size ≤ 1048576) (hL : LibW W) : Calls Tryz.prog 95 #[.string s, .string ⟨#[10]⟩] W (fun e W' => e = .returned (.tuple #[.string ⟨(Lib.cut s.data.toList [10]).1.toArray⟩, .string ⟨(Lib.cut s.data.toList [10]).2.1.toArray⟩, .bool (Lib.cut s.data.toList [10]).2.2]) ∧ Below W.heap.size W W') := by
 obtain ⟨m, hm⟩ := hL.ml
 have hc : Calls Tryz.prog 95 #[.string s, .string ⟨#[10]⟩] W _ := Any.strings_Cut { Tryz.cutL with } s ⟨#[10]⟩ m W (by omega) hm
 refine hc.mono ?_
 rintro e W' ⟨rfl, n, rfl⟩
 exact ⟨rfl, below_drew W n⟩
theorem cut_sizes (s : List UInt8) : (Lib.cut s [10]).1.length ≤ s.length ∧ (Lib.cut s [10]).2.1.length ≤ s.length := by
 unfold Lib.cut
 split
 ·simp; omega
 ·simp
theorem rdLine_cons {kw l w : List UInt8} {ls ws : List (List UInt8)} (h : Fm.splitC 32 l = w :: ws) : Fm.rdLine kw (l :: ls) = if w = kw then (ws.mapM Fm.spelledL).map (fun ns => (ns, ls)) else none := by
 unfold Fm.rdLine Fm.numsOf
 simp only
 rw [h]
 simp only
 by_cases e : w = kw
 ·rw [if_pos e, if_pos e]
  cases ws.mapM Fm.spelledL <;> rfl
 ·rw [if_neg e, if_neg e]
theorem strs_get {l : List (List UInt8)} {k : Nat} {x : List UInt8} (h : l[k]? = some x) : (strs l)[k]? = some (.string ⟨x.toArray⟩) := by simp [strs, h]
set_option maxRecDepth 100000 in
set_option maxHeartbeats 4000000 in
theorem line67 (W : World) (b : Nat) (kw : ByteArray) (ls : List (List UInt8)) (tl : List UInt8) (h : RdS W b ls tl) (hL : LibW W) :
  Calls Tryz.prog 69 #[.pointer (some ⟨b, 0, none⟩), .string kw] W (RdP b tl NumV W (Fm.rdLine kw.data.toList ls)) := by
 obtain ⟨⟨s, hb, hl, hs⟩, h8⟩ := h
 generalize hO : Fm.rdLine kw.data.toList ls = o
 have HO := Lib.hid hO
 clear hO
 have hc := hb.c 0 _ rfl
 have hf := hb.f 0
 have hlt := hb.lt
 have hcs := cut_sizes s.data.toList
 have HC := Lib.hid (cut79 s W hs hL)
 have HBX := Lib.hid hb
 have HL := Lib.hid hL
 have HS : Hid (s.data.toList.length ≤ 1048576) := Lib.hid (by simpa using hs)
 rcases Fm.cut_line s.data.toList with ⟨l, ls', e1, e2, e3, e4⟩ | ⟨e1, e2⟩
 ·rw [hl] at e1 e4
  simp only at e1 e4
  subst e1
  rw [e2, e3] at HC
  rw [e3] at hcs
  generalize hr' : (Lib.cut s.data.toList [10]).2.1 = rest at HC hcs e4
  obtain ⟨w, ws, hsp⟩ := List.exists_cons_of_ne_nil (Fm.splitC_ne 32 l)
  have HO := Lib.hid ((rdLine_cons hsp).symm.trans HO.out)
  have HSZ := Lib.hid hcs
  have HE4 := Lib.hid e4
  have HSP := Lib.hid hsp
  clear hr' hcs e4 e3 e2 hl hsp hb hL hs
  go_enter Tryz.func69, Tryz.ntmps69
  go_wp2_with fail
  refine HC.out.mono ?_
  rintro e W1 ⟨rfl, hb1⟩
  have hc1 := (HBX.out.keep hb1).c 0 _ rfl
  have hf1 := (HBX.out.keep hb1).f 0
  have hlt1 := (HBX.out.keep hb1).lt
  have HB1 := Lib.hid hb1
  clear HC hb1 hc hf hlt
  go_wp2_with fail
  refine (need_yes W1).mono ?_
  rintro e W2 ⟨rfl, hw⟩
  subst hw
  go_wp2_with fail
  have hB2 : W.grownBy (W2.setCell ⟨b, 0, none⟩ (.string ⟨rest.toArray⟩)) (some b) := grown_trans (grown_of_below HB1.out) (grown_set W2 b 0 _)
  have hX2 : Bx (W2.setCell ⟨b, 0, none⟩ (.string ⟨rest.toArray⟩)) b [.string ⟨rest.toArray⟩] 96 := (HBX.out.keep HB1.out).put _
  clear hc1 hf1 hlt1
  generalize W2.setCell ⟨b, 0, none⟩ (.string ⟨rest.toArray⟩) = W3 at hB2 hX2 ⊢
  have HL3 := Lib.hid (HL.out.keepG hB2 h8)
  have HSp := Lib.hid (split73 ⟨l.toArray⟩ 32 W3 (by show l.toArray.size ≤ 1048576; rw [List.size_toArray]; have := HSZ.out.1; have := HS.out; omega) HL3.out)
  refine HSp.out.mono ?_
  rintro e W4 ⟨rfl, rfl⟩
  rw [show (⟨l.toArray⟩ : ByteArray).data.toList = l from rfl, HSP.out]
  have hbN : Below W3.heap.size W3 (W3.alloc (.cells (strs (w :: ws)).toArray 9)) := (Below.refl _ _).alloc (Nat.le_refl _) _
  have hBk := Blk.new W3 (strs (w :: ws)) 9
  have HG4 := Lib.hid (grown_call hB2 hbN)
  have HX4 := Lib.hid (hX2.keep hbN)
  have HL4 := Lib.hid (HL3.out.keep hbN)
  have hNe : b < W3.heap.size := hX2.lt
  clear HSp HL3 hB2 hX2 hbN
  generalize W3.alloc (.cells (strs (w :: ws)).toArray 9) = W5 at HG4 HX4 HL4 hBk ⊢
  generalize W3.heap.size = N at hBk hNe ⊢
  rw [List.length_cons]
  have x0 : W5.cell? ⟨N, 0, none⟩ = some (.string ⟨w.toArray⟩) := hBk.c 0 _ rfl
  have nlt := hBk.lt
  have HBK := Lib.hid hBk
  clear hBk
  by_cases hkw : w = kw.data.toList
  ·have HO := Lib.hid ((if_pos hkw).symm.trans HO.out)
   have hke := bytes_eq kw w hkw.symm
   rw [hke] at x0
   clear hkw
   have hwn : ws.length ≤ 1048576 := by
    have h1 := Fm.splitC_len 32 l
    rw [HSP.out, List.length_cons] at h1
    have := HSZ.out.1; have := HS.out
    omega
   cases ws with
   | nil =>
    go_wp2_with fail
    refine (need_yes W5).mono ?_
    rintro e W6 ⟨rfl, hw⟩
    subst hw
    go_wp2_with fail
    clear x0 nlt
    go_loopw [9, 38] (fun v i W => v = .slice none 0 0 ∧ i = .int .i64 0 ∧ W = W6) (fun _ _ _ => 0)
    case atStart => exact ⟨rfl, rfl, rfl⟩
    case round =>
     obtain ⟨rfl, rfl, rfl⟩ := hrel
     go_wp2
     go_ret
     refine RdP.mk (x := []) (r := ls') (by rw [← HO.out]; rfl) ?_ ⟨⟨_, HX4.out, HE4.out, ?_⟩, h8⟩ HG4.out
     ·intro W' _
      exact ⟨none, 0, rfl, Nat.le_refl _, fun h => absurd rfl h⟩
     ·show rest.toArray.size ≤ _
      rw [List.size_toArray]
      have := HSZ.out.2; have := HS.out
      omega
   | cons w1 wt =>
    have hl1 : (w1 :: wt).length = wt.length + 1 := rfl
    go_wp2_with fail
    refine (need_yes W5).mono ?_
    rintro e W6 ⟨rfl, hw⟩
    subst hw
    go_wp2_with fail
    clear x0 nlt
    go_loopw [9, 38] (fun v i W => ∃ (k : Nat) (ns : List Int), k ≤ wt.length + 1 ∧ i = .int .i64 (k : Nat) ∧ ((w1 :: wt).take k).mapM Fm.spelledL = some ns ∧ W.ownsRow W6.heap.size 2 1 v k (pflat ns) ∧ Below W6.heap.size W6 W) (fun _ i _ => wt.length + 1 - (intOf i).toNat)
    case atStart => exact ⟨0, [], Nat.zero_le _, rfl, rfl, World.ownsRow_nil _ _ _ _, Below.refl _ _⟩
    case round =>
     obtain ⟨k, ns, hk, rfl, hM, hO, hB⟩ := hrel
     by_cases hlt : k < wt.length + 1
     ·obtain ⟨x, hx⟩ : ∃ x, (w1 :: wt)[k]? = some x := ⟨_, List.getElem?_eq_getElem hlt⟩
      have hBk := HBK.out.keep hB
      have x0 : wr.cell? ⟨N, 1 + k, none⟩ = some (.string ⟨x.toArray⟩) := hBk.c (1 + k) _ (by rw [Nat.add_comm]; exact strs_get hx)
      have nlt := hBk.lt
      have hxs : (⟨x.toArray⟩ : ByteArray).size ≤ 1048576 := by
       have h1 := Fm.splitC_each 32 l x (by rw [HSP.out]; exact List.mem_cons_of_mem _ (List.mem_of_getElem? hx))
       show x.toArray.size ≤ _
       rw [List.size_toArray]
       have := HSZ.out.1; have := HS.out
       omega
      have HN := Lib.hid (number80 ⟨x.toArray⟩ wr hxs (HL4.out.keep hB))
      have HB := Lib.hid hB
      have HX := Lib.hid hx
      have HM := Lib.hid hM
      have HOW := Lib.hid hO
      clear hBk hxs hB hx hM hO
      go_wp2_with fail
      refine HN.out.mono ?_
      rintro e W7 ⟨hres, hb7⟩
      have HB7 := Lib.hid (below_call HB.out hb7)
      have HO7 := Lib.hid (own_keep HOW.out hb7)
      clear HN hb7 HB HOW x0 nlt
      cases hsx : Fm.spelledL x with
      | none =>
       rw [hsx] at hres
       have HNO := Lib.hid (Fm.mapM_none (f := Fm.spelledL) (List.mem_of_getElem? HX.out) hsx)
       clear hsx
       subst hres
       unfold malP
       go_wp2
       exact ⟨rfl, RdP.mkno (by rw [← HO.out, HNO.out]; rfl) (grown_low2 HG4.out HB7.out HG4.out.size)⟩
      | some n =>
       rw [hsx] at hres
       have HMT := Lib.hid (Fm.mapM_take HX.out HM.out hsx)
       clear hsx
       subst hres
       obtain ⟨i0, hi, hz0, hz1, hz2⟩ := info_parts info2
       have hb2 : Below W7.heap.size W7 (W7.alloc (.cells #[.int .i64 n] 2)) := (Below.refl _ _).alloc (Nat.le_refl _) _
       have HO2 := Lib.hid (own_keep HO7.out hb2)
       have HBC := Lib.hid (below_call HB7.out hb2)
       clear hb2 HB7 HO7
       have hwn2 : wt.length + 1 ≤ 1048576 := hwn
       go_wp2_with (at_builtin; refine wpList_append_own _ rfl _ _ 68 rfl W6.heap.size 2 i0 (.int .i64 0) 1 8 under42 hi hz0 hz1 hz2 rfl (by decide) _ _ _ rfl HO2.out ⟨W7.heap.size, 0, none⟩ 1 1 [.int .i64 n] rfl rfl ?c1 ?c2 ?c3 ?c4 ?c5 ?_)
       case c1 => exact new_cells _ _ _
       case c2 => intro u hu; simp at hu; subst hu; rfl
       case c3 => unfold maxLen; omega
       case c4 => omega
       case c5 => exact HBC.out.size
       intro v' w' hown' hgrow _
       have HO3 : Hid (w'.ownsRow W6.heap.size 2 1 v' (k + 1) (pflat (ns ++ [n]))) := Lib.hid (by rw [pflat_app]; exact hown')
       have HB3 := Lib.hid (HBC.out.trans (grown_below HO2.out hgrow HBC.out.size))
       clear hown' hgrow HO2 HBC hi hz0 hz1 hz2
       go_wp2_with fail
       go_roundw
       case rel => exact ⟨k + 1, ns ++ [n], by omega, by simp, HMT.out, HO3.out, HB3.out⟩
       case measure => simp [intOf]; omega
     ·have hke : k = wt.length + 1 := by omega
      subst hke
      rw [List.take_of_length_le (by simp)] at hM
      have HM := Lib.hid hM
      have HOW := Lib.hid hO
      have HB := Lib.hid hB
      clear hB hM hO
      go_wp2
      go_ret
      refine RdP.mk (x := ns) (r := ls') (by rw [← HO.out, HM.out]; rfl) (NumV.mk ?_ HOW.out HG4.out.size) ⟨⟨_, HX4.out.keep HB.out, HE4.out, ?_⟩, h8⟩ (grown_low2 HG4.out HB.out HG4.out.size)
      ·exact (Fm.mapM_len HM.out).trans rfl
      ·show rest.toArray.size ≤ _
       rw [List.size_toArray]
       have := HSZ.out.2; have := HS.out
       omega
  ·have HO := Lib.hid ((if_neg hkw).symm.trans HO.out)
   have hnk : (w == kw.toList) = false := by rw [ByteArray.toList_eq, beq_eq_false_iff_ne]; exact hkw
   go_wp2_with fail
   refine (need_no W5).mono ?_
   rintro e W6 ⟨rfl, hw⟩
   subst hw
   go_wp2
   exact ⟨rfl, RdP.mkno HO.out.symm HG4.out⟩
 ·have HO := Lib.hid (show none = o by
   rw [← HO.out]
   rw [hl] at e1
   simp only at e1
   rw [e1]
   rfl)
  rw [e2] at HC
  clear e1 e2 hl hb hL hs
  go_enter Tryz.func69, Tryz.ntmps69
  go_wp2_with fail
  refine HC.out.mono ?_
  rintro e W1 ⟨rfl, hb1⟩
  have HB1 := Lib.hid hb1
  clear HC hb1 hc hf hlt
  go_wp2_with fail
  refine (need_no W1).mono ?_
  rintro e W2 ⟨rfl, hw⟩
  subst hw
  go_wp2
  exact ⟨rfl, RdP.mkno HO.out.symm (grown_of_below HB1.out)⟩
end Go.Proofs.Ng
end

section
/-
 Walks: a line of n numbers; the end; normals.
-/
namespace Go.Proofs.Ng
open Go.RowKit
set_option maxRecDepth 100000 in
set_option maxHeartbeats 4000000 in
theorem exactly65 (W : World) (b : Nat) (kw : ByteArray) (ls : List (List UInt8)) (tl : List UInt8) (n : Nat) (h : RdS W b ls tl) (hL : LibW W) :
  Calls Tryz.prog 68 #[.pointer (some ⟨b, 0, none⟩), .string kw, .int .i64 (n : Nat)] W (RdP b tl NumV W (Fm.rdN kw.data.toList n ls)) := by
 generalize hO : Fm.rdN kw.data.toList n ls = o
 have HC := Lib.hid (line67 W b kw ls tl h hL)
 unfold Fm.rdN at hO
 clear h hL
 cases hr : Fm.rdLine kw.data.toList ls with
 | none =>
  rw [hr] at hO HC
  have HO := Lib.hid hO
  clear hO hr
  go_enter Tryz.func68, Tryz.ntmps68
  go_wp2_with fail
  refine HC.out.mono ?_
  rintro e W1 h1
  obtain ⟨rfl, hG⟩ := h1.no
  clear h1
  have HG := Lib.hid hG
  clear hG HC
  unfold malP
  go_wp2
  exact ⟨rfl, RdP.mkno HO.out.symm HG.out⟩
 | some q =>
  obtain ⟨ns, r⟩ := q
  rw [hr] at hO HC
  simp only at hO
  clear hr
  by_cases hn : ns.length = n
  ·rw [if_pos hn] at hO
   have HO := Lib.hid hO
   subst hn
   have hq : ((ns.length : Int) == (ns.length : Int)) = true := beq_self_eq_true _
   clear hO
   go_enter Tryz.func68, Tryz.ntmps68
   go_wp2_with fail
   refine HC.out.mono ?_
   rintro e W1 h1
   obtain ⟨v, rfl, hN, hS, hG⟩ := h1.yes
   obtain ⟨oa, cap, rfl, hcap, hs⟩ := hN.now
   have HN := Lib.hid hN
   have HS := Lib.hid hS
   have HG := Lib.hid hG
   clear h1 hN hS hG HC hs hcap
   go_wp2_with fail
   refine (need_yes W1).mono ?_
   rintro e W6 ⟨rfl, hw⟩
   subst hw
   go_wp2
   go_ret
   exact RdP.mk HO.out.symm HN.out HS.out HG.out
  ·rw [if_neg hn] at hO
   have HO := Lib.hid hO
   have hq : ((ns.length : Int) == (n : Int)) = false := by simp; omega
   clear hO
   go_enter Tryz.func68, Tryz.ntmps68
   go_wp2_with fail
   refine HC.out.mono ?_
   rintro e W1 h1
   obtain ⟨v, rfl, hN, hS, hG⟩ := h1.yes
   obtain ⟨oa, cap, rfl, hcap, hs⟩ := hN.now
   have HG := Lib.hid hG
   clear h1 hN hS hG HC hs hcap
   go_wp2_with fail
   refine (need_no W1).mono ?_
   rintro e W6 ⟨rfl, hw⟩
   subst hw
   go_wp2
   exact ⟨rfl, RdP.mkno HO.out.symm HG.out⟩
/-- What the end answers. -/
def FinP (b : Nat) (W : World) (o : Bool) (e : Ending) (W' : World) : Prop := e = (if o = true then .returned (.tuple #[]) else malP) ∧ W.grownBy W' (some b)
theorem FinP.no {b : Nat} {W W' : World} {o : Bool} (ho : o = false) (h : W.grownBy W' (some b)) : FinP b W o (.panicked [{ v := .iface 133 (.agg #[]), recovered := false }]) W' := by
 subst ho
 exact ⟨rfl, h⟩
theorem FinP.yes {b : Nat} {W W' : World} {o : Bool} (ho : o = true) (h : W.grownBy W' (some b)) : FinP b W o (.returned (.tuple #[])) W' := by
 subst ho
 exact ⟨rfl, h⟩
set_option maxRecDepth 100000 in
set_option maxHeartbeats 4000000 in
theorem finish40 (W : World) (b : Nat) (ls : List (List UInt8)) (tl : List UInt8) (h : RdS W b ls tl) (hL : LibW W) :
  Calls Tryz.prog 42 #[.pointer (some ⟨b, 0, none⟩)] W (FinP b W (Fm.rdEnd ls tl)) := by
 generalize hO : Fm.rdEnd ls tl = o
 have HC := Lib.hid (exactly65 W b ⟨#[101, 110, 100]⟩ ls tl 0 h hL)
 clear h hL
 cases hr : Fm.rdN Fm.kwEnd 0 ls with
 | none =>
  have HC : Hid (Calls Tryz.prog 68 #[.pointer (some ⟨b, 0, none⟩), .string ⟨#[101, 110, 100]⟩, .int .i64 0] W (RdP b tl NumV W none)) := Lib.hid (by have := HC.out; rw [show Fm.rdN (⟨#[101, 110, 100]⟩ : ByteArray).data.toList 0 ls = none from hr] at this; exact this)
  have HO : Hid (o = false) := Lib.hid (by rw [← hO]; unfold Fm.rdEnd; rw [hr])
  clear hO hr
  go_enter Tryz.func42, Tryz.ntmps42
  go_wp2_with fail
  refine HC.out.mono ?_
  rintro e W1 h1
  obtain ⟨rfl, hG⟩ := h1.no
  have HG := Lib.hid hG
  clear h1 hG HC
  unfold malP
  go_wp2
  exact ⟨rfl, FinP.no HO.out HG.out⟩
 | some q =>
  obtain ⟨ns, r⟩ := q
  have HC : Hid (Calls Tryz.prog 68 #[.pointer (some ⟨b, 0, none⟩), .string ⟨#[101, 110, 100]⟩, .int .i64 0] W (RdP b tl NumV W (some (ns, r)))) := Lib.hid (by have := HC.out; rw [show Fm.rdN (⟨#[101, 110, 100]⟩ : ByteArray).data.toList 0 ls = some (ns, r) from hr] at this; exact this)
  have HO : Hid (o = (match (ns, r) with | (_, []) => tl.isEmpty | _ => false)) := Lib.hid (by
   rw [← hO]; unfold Fm.rdEnd; rw [hr]
   cases r <;> rfl)
  clear hO hr
  go_enter Tryz.func42, Tryz.ntmps42
  go_wp2_with fail
  refine HC.out.mono ?_
  rintro e W1 h1
  obtain ⟨v, rfl, hN, hS, hG⟩ := h1.yes
  obtain ⟨⟨s, hb, hl, hs⟩, h8⟩ := hS
  have HG := Lib.hid hG
  have hc := hb.c 0 _ rfl
  have hlt := hb.lt
  have HLT := Lib.hid hl
  clear h1 hN hG HC hl hb
  by_cases he : s.data.toList = []
  ·have hse : (s.toList == ([] : List UInt8)) = true := by rw [ByteArray.toList_eq, he]; rfl
   have HOT : Hid (o = true) := Lib.hid (by
    have h2 := HLT.out
    rw [he] at h2
    injection h2 with h2 h3
    rw [HO.out, ← h2, ← h3]
    rfl)
   obtain rfl : s = ⟨#[]⟩ := (bytes_eq s [] he).symm
   clear he hse
   go_wp2_with fail
   refine (need_yes W1).mono ?_
   rintro e W6 ⟨rfl, hw⟩
   subst hw
   go_wp2
   refine bodyPost_end (v := .tuple #[]) (by simp [results, Tryz.results42, go_sem]) rfl ?_
   exact FinP.yes HOT.out HG.out
  ·have hse : (s.toList == ([] : List UInt8)) = false := by rw [ByteArray.toList_eq, beq_eq_false_iff_ne]; exact he
   have HOT : Hid (o = false) := Lib.hid (by
    rw [HO.out]
    cases r with
    | nil =>
     cases tl with
     | nil => exact absurd (Fm.lines_nil.1 HLT.out) he
     | cons a t => rfl
    | cons a t => rfl)
   clear he
   go_wp2_with fail
   refine (need_no W1).mono ?_
   rintro e W6 ⟨rfl, hw⟩
   subst hw
   go_wp2
   exact ⟨rfl, FinP.no HOT.out HG.out⟩
/-- Normals in memory. -/
def VecD : Dat (Int × Int × Int) := fun _ r v => r = vec3 v
/-- A slice of rows with data. -/
def RwV {A : Type} (D : Dat A) (n : Nat) (v : Value) (xs : List A) (W : World) : Prop := ∃ oa cap, v = .slice oa xs.length cap ∧ Rws D n W oa xs
theorem RwV.done {A : Type} {D : Dat A} {ty : TypeId} {n lo lo' : Nat} {W : World} {v : Value} {l : List A} (h : RowO D ty n lo W v l) (hl : lo' ≤ lo) : New lo' W (RwV D n v l) := by
 obtain ⟨oa, cap, rfl, hn, _⟩ := h.done
 exact fun W' hW' => ⟨oa, cap, rfl, hn W' fun k hk => hW' k ⟨Nat.le_trans hl hk.1, hk.2⟩⟩
theorem info38 : (Tryz.prog.info? 40).map (fun i => (i.zero, i.size, i.bytes)) = some (some (.agg #[.int .i64 0, .int .i64 0, .int .i64 0]), 3, 24) := by kernel_rfl
theorem under49 : Tryz.prog.underlying 70 = some (.slice 40) := by kernel_rfl
set_option maxRecDepth 100000 in
set_option maxHeartbeats 4000000 in
theorem normals81 (W : World) (b : Nat) (ls : List (List UInt8)) (tl : List UInt8) (n : Nat) (hn : n ≤ 1048576) (h : RdS W b ls tl) (hL : LibW W) :
  Calls Tryz.prog 98 #[.pointer (some ⟨b, 0, none⟩), .int .i64 (n : Nat)] W (RdP b tl (RwV VecD 3) W (Fm.rep Fm.rdNormal n ls)) := by
 generalize hO : Fm.rep Fm.rdNormal n ls = o
 have HO := Lib.hid hO
 have HS := Lib.hid h
 have HL := Lib.hid hL
 have h8 := h.lo
 have hlt0 := h.lt
 clear hO h hL
 go_enter Tryz.func98, Tryz.ntmps98
 go_wp2_with fail
 go_loopw [5, 7] (fun v i X => ∃ (k : Nat) (xs : List (Int × Int × Int)) (q : List (List UInt8)), k ≤ n ∧ i = .int .i64 (k : Nat) ∧ Fm.RepAt Fm.rdNormal n ls k xs q ∧ RowO VecD 40 3 W.heap.size X v xs ∧ RdS X b q tl ∧ W.grownBy X (some b)) (fun _ i _ => n - (intOf i).toNat)
 case atStart => exact ⟨0, [], ls, Nat.zero_le _, rfl, Fm.RepAt.start _ _ _, RowO.nil _ _ _ _ _, HS.out, World.grownBy.refl _ _⟩
 case round =>
  obtain ⟨k, xs, q, hk, rfl, hR, hrow, hS, hG⟩ := hrel
  have HG := Lib.hid hG
  have HR := Lib.hid hR
  have HRow := Lib.hid hrow
  have HLr := Lib.hid (HL.out.keepG hG h8)
  by_cases hlt : k < n
  ·have HC := Lib.hid (exactly65 wr b ⟨#[110, 111, 114, 109, 97, 108]⟩ q tl 3 hS HLr.out)
   clear hG hR hrow hS
   go_wp2_with fail
   refine HC.out.mono ?_
   rintro e W1 h1
   cases hq : Fm.rdN Fm.kwNormal 3 q with
   | none =>
    rw [show Fm.rdN (⟨#[110, 111, 114, 109, 97, 108]⟩ : ByteArray).data.toList 3 q = none from hq] at h1
    obtain ⟨rfl, hG1⟩ := h1.no
    have HOT := Lib.hid (HO.out.symm.trans (HR.out.none hlt (Fm.rdNormal_none hq)))
    have HG1 := Lib.hid (grown_trans HG.out hG1)
    clear hq h1 hG1
    unfold malP
    go_wp2
    exact ⟨rfl, RdP.mkno HOT.out HG1.out⟩
   | some p =>
    obtain ⟨ns, r⟩ := p
    rw [show Fm.rdN (⟨#[110, 111, 114, 109, 97, 108]⟩ : ByteArray).data.toList 3 q = some (ns, r) from hq] at h1
    obtain ⟨x, y, z, rfl⟩ := Fm.rdN_three hq
    obtain ⟨v, rfl, hN, hS1, hG1⟩ := h1.yes
    have HRN := Lib.hid (HR.out.step hlt (Fm.rdNormal_some hq))
    obtain ⟨oa, cap, rfl, hcap, hs⟩ := hN.now
    obtain ⟨g, off, rfl, hra⟩ := hs (by simp [pvals])
    have x0 : W1.cell? ⟨g, off, none⟩ = some (.int .i64 x) := hra.c 0 _ rfl 0 _ rfl
    have x1 : W1.cell? ⟨g, off + 1, none⟩ = some (.int .i64 y) := hra.c 1 _ rfl 0 _ rfl
    have x2 : W1.cell? ⟨g, off + 2, none⟩ = some (.int .i64 z) := hra.c 2 _ rfl 0 _ rfl
    have glt := hra.lt
    have HS1 := Lib.hid hS1
    have HG1 := Lib.hid (grown_trans HG.out hG1)
    have HRow1 := Lib.hid (HRow.out.keep (grown_ag hG1 _ hlt0))
    clear hq h1 hN hS1 hG1 hs hra HC HRow HR HG HLr
    have haa : (Instr.arrayAt 40 (.slice (some ⟨g, off, none⟩) 3 cap)).run Tryz.prog W1 = .ok (.pointer (some ⟨g, off, none⟩)) W1 := run_arrayAt W1 40 2 3 _ 3 cap Tryz.underlying40 (Nat.le_refl _)
    obtain ⟨i0, hi, hz0, hz1, hz2⟩ := info_parts info38
    obtain ⟨rows, hV⟩ := HRow1.out.ex
    have hVl := hV.len
    have hkx := HRN.out.2.1
    rw [List.length_append, List.length_cons, List.length_nil] at hkx
    have hb2 : Below W1.heap.size W1 (W1.alloc (.cells #[.int .i64 x, .int .i64 y, .int .i64 z] 40)) := (Below.refl _ _).alloc (Nat.le_refl _) _
    have HV := Lib.hid hV
    have HV2 := Lib.hid (hV.keep (AgI.of hb2))
    have HB2 := Lib.hid hb2
    have HSZ : Hid (W.heap.size ≤ (W1.alloc (.cells #[.int .i64 x, .int .i64 y, .int .i64 z] 40)).heap.size) := Lib.hid (Nat.le_trans HG1.out.size hb2.size)
    clear hV hb2 HRow1
    go_wp2_with (at_builtin; refine wpList_append_own_at _ rfl _ _ 70 rfl W.heap.size 40 i0 (.agg #[.int .i64 0, .int .i64 0, .int .i64 0]) 3 24 under49 hi hz0 hz1 hz2 rfl (by decide) _ _ _ rfl HV2.out.own ⟨W1.heap.size, 0, none⟩ 1 1 [.int .i64 x, .int .i64 y, .int .i64 z] rfl rfl ?c1 ?c2 ?c3 ?c4 ?c5 ?_)
    case c1 => exact new_cells _ _ _
    case c2 => intro u hu; simp at hu; rcases hu with rfl | rfl | rfl <;> rfl
    case c3 => unfold maxLen; omega
    case c4 => omega
    case c5 => exact HSZ.out
    intro v' w' hown' hgrow _ hat
    have hrl : rows.length = k := by omega
    have HR2 : Hid (RowO VecD 40 3 W.heap.size w' v' (xs ++ [(x, y, z)])) := Lib.hid (HV.out.app (AgI.refl _ _) (fun _ _ => rfl) rfl HB2.out (by rw [hrl]; exact hown') hgrow (by simpa using hat) HG1.out.size)
    have hBW : Below W.heap.size W1 w' := (HB2.out.mono HG1.out.size).trans (grown_below HV2.out.own hgrow HSZ.out)
    have HG2 := Lib.hid (grown_low2 HG1.out hBW (Nat.le_refl _))
    have HS2 := Lib.hid (HS1.out.keepA hBW hlt0)
    clear hown' hgrow hat hBW HV HV2 HB2 HS1 HG1 HSZ hi hz0 hz1 hz2 x0 x1 x2 glt haa hVl hkx
    go_wp2_with fail
    go_roundw
    case rel => exact ⟨k + 1, _, r, by omega, by simp, HRN.out, HR2.out, HS2.out, HG2.out⟩
    case measure => simp [intOf]; omega
  ·have hke : k = n := by omega
   subst hke
   have HS1 := Lib.hid hS
   clear hG hR hrow hS
   go_wp2
   go_ret
   exact RdP.mk (HO.out.symm.trans HR.out.done) (RwV.done HRow.out (Nat.le_refl _)) HS1.out HG.out
end Go.Proofs.Ng
end

section
/-
 A region that draws its order, by what holds of what has been done: one step for each operation, whatever the order.
-/
namespace Go.Proofs.Ng
open Go.RowKit
def Lof (listed : Array Bool) (k : Nat) : Bool := listed.getD k false
def upL' (L : Nat → Bool) (i k : Nat) : Bool := Nat.beq k i || L k
theorem countP_lt {α : Type} {p q : α → Bool} : ∀ {l : List α}, (∀ x ∈ l, q x = true → p x = true) → ∀ {i : α}, i ∈ l → p i = true → q i = false → l.countP q < l.countP p
 | [], _, _, hi, _, _ => by cases hi
 | a :: r, h, i, hi, hp, hq => by
  have hr : ∀ x ∈ r, q x = true → p x = true := fun x hx => h x (by simp [hx])
  rw [List.countP_cons, List.countP_cons]
  have hle : r.countP q ≤ r.countP p := List.countP_mono_left hr
  rcases List.mem_cons.1 hi with rfl | hi
  ·simp [hp, hq]; omega
  ·have := countP_lt hr hi hp hq
   have h1 := h a (by simp)
   by_cases e : q a = true
   ·simp [e, h1 e]; omega
   ·simp [e]; omega
/-- The operations wait for earlier ones only. -/
def ordOk (ops : Array Oper) : Bool := (List.range ops.size).all fun i => match ops[i]? with
 | some o => o.after.all fun e => decide (e.on < i)
 | none => true
theorem wpAny_inv {P : Program} {md : Region.Mode} {ops : Array Oper} {Q : Exit → Act → World → Prop} (hord : ordOk ops = true) (J : (Nat → Bool) → Act → World → Prop)
  (hstep : ∀ (i : Nat) (o : Oper), ops[i]? = some o → ∀ (L : Nat → Bool) (a : Act) (w : World), L i = false → (∀ e ∈ o.after, Region.binds md e = true → L e.on = true) → J L a w → wpOp P ops Q i (J (upL' L i)) a w)
  (hend : ∀ (L : Nat → Bool) (a : Act) (w : World), (∀ k, k < ops.size → L k = true) → J L a w → Q .normal a w) :
  ∀ (fuel : Nat) (listed : Array Bool) (a : Act) (w : World), listed.size = ops.size → (List.range ops.size).countP (fun k => !Lof listed k) ≤ fuel → J (Lof listed) a w → wpAny P md ops Q fuel listed a w := by
 have hall : ∀ (listed : Array Bool), listed.size = ops.size → Region.ready md ops listed = [] → ∀ k, k < ops.size → Lof listed k = true := by
  intro listed hs hr k
  induction k using Nat.strongRecOn with
  | _ k ih =>
   intro hk
   by_cases e : Lof listed k = true
   ·exact e
   ·exfalso
    have hm : k ∈ Region.ready md ops listed := by
     unfold Region.ready
     rw [List.mem_filter]
     refine ⟨List.mem_range.2 hk, ?_⟩
     have hkl : k < listed.size := by omega
     have h1 : listed.getD k true = false := by
      have : listed.getD k false = false := by simpa [Lof] using e
      simp [Array.getD, hkl] at this ⊢
      exact this
     have ho : ops[k]? = some ops[k] := Array.getElem?_eq_getElem hk
     rw [h1, ho]
     simp only [Bool.not_false, Bool.true_and, Option.map_some, Option.getD_some]
     rw [Array.all_eq_true_iff_forall_mem]
     intro x hx
     have hlt : x.on < k := by
      unfold ordOk at hord
      rw [List.all_eq_true] at hord
      have := hord k (List.mem_range.2 hk)
      rw [ho] at this
      simp only at this
      rw [Array.all_eq_true_iff_forall_mem] at this
      exact of_decide_eq_true (this x hx)
     have := ih x.on hlt (by omega)
     unfold Lof at this
     rw [this]; simp
    rw [hr] at hm; cases hm
 intro fuel
 induction fuel with
 | zero =>
  intro listed a w hs hc hJ
  have hl : ∀ k, k < ops.size → Lof listed k = true := fun k hk => by
   have h0 : (List.range ops.size).countP (fun k => !Lof listed k) = 0 := by omega
   rw [List.countP_eq_zero] at h0
   have := h0 k (List.mem_range.2 hk)
   simpa using this
  refine ⟨?_, hend _ a w hl hJ⟩
  unfold Region.ready
  rw [List.filter_eq_nil_iff]
  intro k hk
  have hk := List.mem_range.1 hk
  have hkl : k < listed.size := by omega
  have := hl k hk
  simp [Lof, Array.getD, hkl] at this
  simp [hkl, this]
 | succ fuel ih =>
  intro listed a w hs hc hJ
  refine ⟨fun hr => hend _ a w (hall listed hs hr) hJ, fun i hi => ?_⟩
  unfold Region.ready at hi
  rw [List.mem_filter] at hi
  obtain ⟨hi1, hi2⟩ := hi
  have hil := List.mem_range.1 hi1
  have ho : ops[i]? = some ops[i] := Array.getElem?_eq_getElem hil
  rw [ho, Bool.and_eq_true] at hi2
  obtain ⟨hu, hd⟩ := hi2
  simp only [Option.map_some, Option.getD_some] at hd
  rw [Array.all_eq_true_iff_forall_mem] at hd
  have hkl : i < listed.size := by omega
  have hset : Lof (listed.setIfInBounds i true) = upL' (Lof listed) i := by
   funext k
   unfold Lof upL'
   by_cases e : k = i
   ·subst e; simp [Array.getD, hkl]
   ·have : Nat.beq k i = false := by
     cases h : Nat.beq k i with
     | true => exact absurd (Nat.eq_of_beq_eq_true h) e
     | false => rfl
    rw [this, Bool.false_or]
    simp only [Array.getD, Array.size_setIfInBounds]
    split
    ·rename_i hk
     exact Array.getElem_setIfInBounds_ne _ (Ne.symm e)
    ·rfl
  refine wpOp_mono (fun a' w' h => ?_) (hstep i _ ho (Lof listed) a w (by
   simp [Array.getD, hkl] at hu
   simp [Lof, Array.getD, hkl, hu]) (fun e he hb => by
   have := hd e he
   rw [hb] at this
   simpa [Lof] using this) hJ)
  rw [← hset] at h
  refine ih _ a' w' (by simpa using hs) ?_ h
  have hlt := countP_lt (l := List.range ops.size) (p := fun k => !Lof listed k) (q := fun k => !Lof (listed.setIfInBounds i true) k) (fun k _ hk => by
   simp only [Bool.not_eq_true'] at hk ⊢
   rw [hset] at hk
   simp only [upL', Bool.or_eq_false_iff] at hk
   exact hk.2) hi1 (by
   simp only [Bool.not_eq_true'] at hu ⊢
   simp [Array.getD, hkl] at hu
   simp [Lof, Array.getD, hkl, hu]) (by
   simp [Lof, Array.getD, hkl])
  omega
theorem qz1 : type_of% @List.getElem?_toArray := @List.getElem?_toArray
theorem qz2 : type_of% @List.getElem?_cons_zero := @List.getElem?_cons_zero
theorem qz3 : type_of% @List.getElem?_cons_succ := @List.getElem?_cons_succ
theorem qz4 : type_of% @Option.some.injEq := @Option.some.injEq
theorem wp_region_inv {P : Program} {ops : Array Oper} {Q : Exit → Act → World → Prop} {id : Nat} {a : Act} {w : World} (hm : P.follows .mixedOrders = true) (hord : ordOk ops = true) (J : (Nat → Bool) → Act → World → Prop) (h0 : J (fun _ => false) a w.drew)
  (hstep : ∀ (i : Nat) (o : Oper), ops[i]? = some o → ∀ (L : Nat → Bool) (a : Act) (w : World), L i = false → (∀ e ∈ o.after, Region.binds .any e = true → L e.on = true) → J L a w → wpOp P ops Q i (J (upL' L i)) a w)
  (hend : ∀ (L : Nat → Bool) (a : Act) (w : World), (∀ k, k < ops.size → L k = true) → J L a w → Q .normal a w) : (Code.region id ops true).wp P Q a w := by
 refine wp_region_any hm (wpAny_inv hord J hstep hend ops.size _ a _ (by simp) ?_ ?_)
 ·refine Nat.le_trans (List.countP_le_length) (by simp)
 ·have : Lof (Array.replicate ops.size false) = fun _ => false := by
   funext k
   simp [Lof, Array.getD]
  rw [this]
  exact h0
theorem up_or {L : Nat → Bool} {i k : Nat} (h : L k = true) : upL' L i k = true := by unfold upL'; rw [h, Bool.or_true]
end Go.Proofs.Ng
end

