/-
  Texts put together: Cn.
-/
import Derived.Test.YtlpcihfkkgifkaaGreatDoorZFormatTrajectoriesCard12
import Derived.Test.YtlpcihfkkgifkaaGreatDoorZFormatTrajectoriesCard13
import Derived.Deep.CutRange
set_option linter.unusedVariables false
namespace Go.Proofs.Ng
open Go.RowKit

/-- What was read, or nothing. -/
def PtO : Dat (Option (List Int)) := fun W r z => match z with | some xs => PtD W r xs | none => True
def EdO : Dat (Option Fm.EdgeD) := fun W r z => match z with | some e => EdD W r e | none => True
theorem RrP.opt {b gL : Nat} {L : List (List UInt8)} {W W' : World} {o : Option (List Int × List (List UInt8))} {e : Ending} (h : RrP b gL L NumV NilV W o e W') :
    ∃ oa n c, e = .returned (.slice oa n c) ∧ New W.heap.size W' (fun Y => PtO Y [.slice oa n c] (o.map Prod.fst)) ∧ RfS W' b gL L ((o.map Prod.snd).getD []) o.isNone ∧ W.grownBy W' (some b) := by
  rcases o with _ | ⟨x, r⟩
  · obtain ⟨v, rfl, hz, hS, hG⟩ := h.no
    obtain rfl : v = .slice none 0 0 := hz.now
    exact ⟨none, 0, 0, rfl, fun _ _ => trivial, hS, hG⟩
  · obtain ⟨v, rfl, hN, hS, hG⟩ := h.yes
    obtain ⟨oa, c, rfl, -, -⟩ := hN.now
    refine ⟨oa, _, c, rfl, fun Y hY => ?_, hS, hG⟩
    obtain ⟨oa', c', e, -, hs⟩ := hN Y hY
    exact ⟨oa', c', by rw [e], hs⟩
theorem RfS.grown3 {W : World} {b gL n i : Nat} {L q : List (List UInt8)} {bad : Bool} (h : RfS W b gL L q bad) (v : Value) (h1 : b ≠ n) (h2 : gL ≠ n) : RfS (W.setCell ⟨n, i, none⟩ v) b gL L q bad := by
  obtain ⟨j, a1, a2, a3⟩ := h.ex
  exact ⟨⟨j, a1, a2, a3.other h1 i v⟩, h.ln.other h2 i v, h.ne, h.lo, h.sz, h.ll⟩
theorem lib_fr3 {lo b n : Nat} {W X : World} (h : LibW W) (hf : Fr3 lo b n W X) (hl : 8 ≤ lo) (hb : 8 ≤ b) (hn : 8 ≤ n) : LibW X :=
  h.low ⟨hf.os, hf.tape, hf.output, hf.size, fun k hk => hf.block k (by omega) (by omega) (by omega)⟩
theorem NumV.two {W : World} {g off cap : Nat} {x y : Int} (h : NumV (.slice (some ⟨g, off, none⟩) 2 cap) [x, y] W) : W.cell? ⟨g, off, none⟩ = some (.int .i64 x) ∧ W.cell? ⟨g, off + 1, none⟩ = some (.int .i64 y) ∧ g < W.heap.size := by
  obtain ⟨oa, c, e, -, hs⟩ := h
  injection e with e _ _
  obtain ⟨g', off', e2, hra⟩ := hs (by simp [pvals])
  rw [← e] at e2
  injection e2 with e2
  injection e2 with h1 h2 _
  subst h1 h2
  exact ⟨hra.c 0 _ rfl 0 _ rfl, hra.c 1 _ rfl 0 _ rfl, hra.lt⟩
theorem RrP.slice {b gL : Nat} {L : List (List UInt8)} {W W' : World} {o : Option (List (Int × Int × Int) × List (List UInt8))} {e : Ending} (h : RrP b gL L (RwV VecD 3) SlZ W o e W') :
    ∃ oa n c, e = .returned (.slice oa n c) ∧ New W.heap.size W' (fun Y => ∀ x r, o = some (x, r) → n = x.length ∧ Rws VecD 3 Y oa x) ∧ RfS W' b gL L ((o.map Prod.snd).getD []) o.isNone ∧ W.grownBy W' (some b) := by
  rcases o with _ | ⟨x, r⟩
  · obtain ⟨v, rfl, hz, hS, hG⟩ := h.no
    obtain ⟨oa, n, c, rfl⟩ := hz.now
    exact ⟨oa, n, c, rfl, (fun _ _ x r e => nomatch e), hS, hG⟩
  · obtain ⟨v, rfl, hN, hS, hG⟩ := h.yes
    obtain ⟨oa, c, rfl, -⟩ := hN.now
    refine ⟨oa, _, c, rfl, fun Y hY x' r' e => ?_, hS, hG⟩
    injection e with e
    injection e with e1 e2
    subst e1
    obtain ⟨oa', c', e, hs⟩ := hN Y hY
    injection e with e _ _
    exact ⟨rfl, by rw [e]; exact hs⟩
theorem RfS.fr {W X : World} {b gL lo n : Nat} {L q : List (List UInt8)} {bad : Bool} (h : RfS W b gL L q bad) (hf : Fr3 lo n n W X) (h1 : b < lo) (h2 : gL < lo) (h3 : b ≠ n) (h4 : gL ≠ n) : RfS X b gL L q bad := by
  obtain ⟨j, a1, a2, a3⟩ := h.ex
  exact ⟨⟨j, a1, a2, ⟨(hf.block b h1 h3 h3).trans a3.h⟩⟩, ⟨(hf.block gL h2 h4 h4).trans h.ln.h⟩, h.ne, h.lo, h.sz, h.ll⟩
theorem Fr3.weak {lo b n : Nat} {W X : World} (h : Fr3 lo n n W X) : Fr3 lo b n W X := ⟨h.os, h.tape, h.output, h.size, fun k h1 _ h3 => h.block k h1 h3 h3⟩
theorem Fr3.mono {lo lo' b n : Nat} {W X : World} (h : Fr3 lo b n W X) (hl : lo' ≤ lo) : Fr3 lo' b n W X := ⟨h.os, h.tape, h.output, h.size, fun k h1 h2 h3 => h.block k (Nat.lt_of_lt_of_le h1 hl) h2 h3⟩
theorem RfS.line_len {W : World} {b gL : Nat} {L q r : List (List UInt8)} {kw : List UInt8} {ns : List Int} (h : RfS W b gL L q false) (hr : Fm.rdLine kw q = some (ns, r)) : ns.length ≤ 1048576 := by
  obtain ⟨i, hi, hq, -⟩ := h.ex
  have hq := hq rfl
  cases q with
  | nil => cases hr
  | cons l lt =>
    have hl : l ∈ L := List.mem_of_mem_drop (by rw [← hq]; simp)
    have hll := h.sz l hl
    unfold Fm.rdLine at hr
    simp only at hr
    split at hr
    · rename_i e
      injection hr with hr
      injection hr with hr _
      subst hr
      unfold Fm.numsOf at e
      have h6 := Fm.splitC_len 32 l
      split at e
      · cases e
      · rename_i e2
        rw [e2] at h6
        split at e
        · have := Fm.mapM_len e
          simp only [List.length_cons] at h6
          omega
        · cases e
    · cases hr
theorem rws_some {A : Type} {D : Dat A} {DO : Dat (Option A)} (hD : ∀ W r x, DO W r (some x) → D W r x) {n : Nat} {W : World} {oa : Option Addr} {l : List A} {z : List (Option A)} (hz : z = l.map some) (h : Rws DO n W oa z) : Rws D n W oa l := by
  subst hz
  obtain ⟨rows, h1, h2, h3⟩ := h.ex
  exact ⟨rows, by rw [h1, List.length_map], h2, fun k r x hr hx => hD W r x (h3 k r (some x) hr (by rw [List.getElem?_map, hx]; rfl))⟩
structure Rp6K (b gL n2 : Nat) (Ln : List (List UInt8)) (v : Value) (zs : List (Option (List Int))) (o3 : Option ((List Int) × List (List UInt8))) (W5 : World) (L : Nat → Bool) (v29 v30 v31 v32 v33 v34 v35 : Value) (w : World) : Prop where
  wf : (L 3 = false → Below W5.heap.size W5 w) ∧ (L 5 = false → W5.grownBy w (some b))
  f0 : L 0 = true → v29 = .pointer (some ⟨n2 + 1, 0, none⟩)
  f1 : L 1 = true → v30 = v
  f2 : L 2 = true → v31 = .pointer (some ⟨b, 0, none⟩)
  f3 : L 3 = true → L 5 = false → ∃ oa m c, v32 = .slice oa m c ∧ New W5.heap.size w (fun X => PtO X [.slice oa m c] (o3.map Prod.fst)) ∧ RfS w b gL Ln ((o3.map Prod.snd).getD []) o3.isNone
  f4 : L 4 = true → L 5 = false → ∃ oa m c g4, v33 = .slice (some ⟨g4, 0, none⟩) 1 1 ∧ Bx w g4 [.slice oa m c] 42 ∧ New W5.heap.size w (fun X => PtO X [.slice oa m c] (o3.map Prod.fst)) ∧ RfS w b gL Ln ((o3.map Prod.snd).getD []) o3.isNone
  f5 : L 5 = true → RowO PtO 42 1 (n2 + 2) w v34 (zs ++ [o3.map Prod.fst]) ∧ RfS w b gL Ln ((o3.map Prod.snd).getD []) o3.isNone ∧ Fr3 (n2 + 2) b (n2 + 1) W5 w ∧ (L 7 = false → Bx w (n2 + 1) [v, .slice none 0 0] 25)
  f6 : L 6 = true → v35 = .pointer (some ⟨n2 + 1, 0, none⟩)
  f7 : L 7 = true → Bx w (n2 + 1) [v34, .slice none 0 0] 25
  c1_0 : L 1 = true → L 0 = true
  c3_2 : L 3 = true → L 2 = true
  c4_3 : L 4 = true → L 3 = true
  c5_1 : L 5 = true → L 1 = true
  c5_4 : L 5 = true → L 4 = true
  c7_5 : L 7 = true → L 5 = true
  c7_6 : L 7 = true → L 6 = true
theorem Rp6K.keep {b gL n2 : Nat} {Ln : List (List UInt8)} {v : Value} {zs : List (Option (List Int))} {o3 : Option ((List Int) × List (List UInt8))} {W5 : World} {L : Nat → Bool} {v29 v30 v31 v32 v33 v34 v35 : Value} {w X : World} (k : Rp6K b gL n2 Ln v zs o3 W5 L v29 v30 v31 v32 v33 v34 v35 w) (h5 : L 5 = false) (hb : Below w.heap.size w X) : Rp6K b gL n2 Ln v zs o3 W5 L v29 v30 v31 v32 v33 v34 v35 X :=
  ⟨⟨fun h => below_call (k.wf.1 h) hb, fun h => grown_call (k.wf.2 h) hb⟩, k.f0, k.f1, k.f2, fun h e => (k.f3 h e).elim fun x h => h.elim fun r h => h.elim fun c h => ⟨x, r, c, h.1, New.keep h.2.1 (AgI.of hb), h.2.2.keep hb⟩, fun h e => (k.f4 h e).elim fun x h => h.elim fun r h => h.elim fun c h => h.elim fun g h => ⟨x, r, c, g, h.1, h.2.1.keep hb, New.keep h.2.2.1 (AgI.of hb), h.2.2.2.keep hb⟩, fun h => absurd (h5.symm.trans h) (by decide), k.f6, fun h => absurd (h5.symm.trans (k.c7_5 h)) (by decide), k.c1_0, k.c3_2, k.c4_3, k.c5_1, k.c5_4, k.c7_5, k.c7_6⟩
structure Rp19K (n7 g off cap lo : Nat) (d i : Int) (nums : List Int) (us : List Fm.UseD) (v st : Value) (W5 : World) (L : Nat → Bool) (v82 v83 v84 v85 v86 v87 v88 v89 v90 v91 v92 v93 v94 v95 v96 : Value) (w : World) : Prop where
  wf : L 13 = false → Below W5.heap.size W5 w
  f0 : L 0 = true → v82 = .pointer (some ⟨n7, 1, none⟩)
  f1 : L 1 = true → v83 = v
  f2 : L 2 = true → v84 = .slice (some ⟨g, off, none⟩) (nums.length + 1 + 1) cap
  f3 : L 3 = true → v85 = .pointer (some ⟨g, off, none⟩)
  f4 : L 4 = true → v86 = .int .i64 d
  f5 : L 5 = true → v87 = .slice (some ⟨g, off, none⟩) (nums.length + 1 + 1) cap
  f6 : L 6 = true → v88 = .pointer (some ⟨g, off + 1, none⟩)
  f7 : L 7 = true → v89 = .int .i64 i
  f8 : L 8 = true → v90 = .slice (some ⟨g, off, none⟩) (nums.length + 1 + 1) cap
  f9 : L 9 = true → ∃ o c, v91 = .slice o nums.length c ∧ (nums ≠ [] → o = some ⟨g, off + 2, none⟩)
  f10 : L 10 = true → L 13 = false → NumW W5 w v92 nums
  f11 : L 11 = true → L 13 = false → ∃ o c, v93 = .agg #[.int .i64 d, .int .i64 i, .slice o nums.length c] ∧ NumW W5 w (.slice o nums.length c) nums
  f12 : L 12 = true → L 13 = false → ∃ o c g45, v94 = .slice (some ⟨g45, 0, none⟩) 1 1 ∧ Bx w g45 [.int .i64 d, .int .i64 i, .slice o nums.length c] 54 ∧ NumW W5 w (.slice o nums.length c) nums
  f13 : L 13 = true → RowO UseAt 54 3 lo w v95 (us ++ [⟨d, i, nums⟩]) ∧ Fr3 lo n7 n7 W5 w ∧ (L 15 = false → Bx w n7 [st, v] 52)
  f14 : L 14 = true → v96 = .pointer (some ⟨n7, 1, none⟩)
  f15 : L 15 = true → Bx w n7 [st, v95] 52
  c1_0 : L 1 = true → L 0 = true
  c3_2 : L 3 = true → L 2 = true
  c4_3 : L 4 = true → L 3 = true
  c6_5 : L 6 = true → L 5 = true
  c7_6 : L 7 = true → L 6 = true
  c9_8 : L 9 = true → L 8 = true
  c10_9 : L 10 = true → L 9 = true
  c11_4 : L 11 = true → L 4 = true
  c11_7 : L 11 = true → L 7 = true
  c11_10 : L 11 = true → L 10 = true
  c12_11 : L 12 = true → L 11 = true
  c13_1 : L 13 = true → L 1 = true
  c13_12 : L 13 = true → L 12 = true
  c15_13 : L 15 = true → L 13 = true
  c15_14 : L 15 = true → L 14 = true
theorem Rp19K.keep {n7 g off cap lo : Nat} {d i : Int} {nums : List Int} {us : List Fm.UseD} {v st : Value} {W5 : World} {L : Nat → Bool} {v82 v83 v84 v85 v86 v87 v88 v89 v90 v91 v92 v93 v94 v95 v96 : Value} {w X : World} (k : Rp19K n7 g off cap lo d i nums us v st W5 L v82 v83 v84 v85 v86 v87 v88 v89 v90 v91 v92 v93 v94 v95 v96 w) (h13 : L 13 = false) (hb : Below w.heap.size w X) : Rp19K n7 g off cap lo d i nums us v st W5 L v82 v83 v84 v85 v86 v87 v88 v89 v90 v91 v92 v93 v94 v95 v96 X :=
  ⟨fun h => below_call (k.wf h) hb, k.f0, k.f1, k.f2, k.f3, k.f4, k.f5, k.f6, k.f7, k.f8, k.f9, fun h e => (k.f10 h e).keep hb, fun h e => (k.f11 h e).elim fun o h => h.elim fun c h => ⟨o, c, h.1, h.2.keep hb⟩, fun h e => (k.f12 h e).elim fun o h => h.elim fun c h => h.elim fun g h => ⟨o, c, g, h.1, h.2.1.keep hb, h.2.2.keep hb⟩, fun h => absurd (h13.symm.trans h) (by decide), k.f14, fun h => absurd (h13.symm.trans (k.c15_13 h)) (by decide), k.c1_0, k.c3_2, k.c4_3, k.c6_5, k.c7_6, k.c9_8, k.c10_9, k.c11_4, k.c11_7, k.c11_10, k.c12_11, k.c13_1, k.c13_12, k.c15_13, k.c15_14⟩
/-- No lines are left once the reader is bad. -/
def gdl (bad : Bool) (ls : List (List UInt8)) : List (List UInt8) := if bad = true then [] else ls
theorem gd_rdN (bad : Bool) (kw : List UInt8) (n : Nat) (ls : List (List UInt8)) : gd bad (Fm.rdN kw n ls) = Fm.rdN kw n (gdl bad ls) := by
  cases bad <;> rfl
/-- Some value of a path's shape. -/
def PathZ (v : Value) (_ : World) : Prop := ∃ a b c d e f, v = .agg #[.slice a b c, .slice d e f]
set_option maxRecDepth 100000 in
set_option maxHeartbeats 16000000 in
theorem path45_gen (W : World) (b gL : Nat) (Ln ls0 : List (List UInt8)) (bad0 : Bool) (h : RfS W b gL Ln ls0 bad0) (hL : LibW W) :
    Calls Tryz.prog 45 #[.pointer (some ⟨b, 0, none⟩)] W (RrP b gL Ln PathV PathZ W (Fm.rdPath (gdl bad0 ls0))) := by
  generalize hls : gdl bad0 ls0 = ls
  generalize hO : Fm.rdPath ls = o
  have HO := Lib.hid hO
  have h8 := h.lo
  have hlt0 := h.lt
  have hltg := h.ltg
  have hgb := h.ne
  have hb1 : Below W.heap.size W ((W.alloc (.cells #[.slice none 0 0, .slice none 0 0] 25)).alloc (.cells #[.slice none 0 0, .slice none 0 0] 25)) := ((Below.refl _ _).alloc (Nat.le_refl _) _).alloc (by simp) _
  have hsz : ((W.alloc (.cells #[.slice none 0 0, .slice none 0 0] 25)).alloc (.cells #[.slice none 0 0, .slice none 0 0] 25)).heap.size = W.heap.size + 2 := by simp
  have hsz1 : (W.alloc (.cells #[.slice none 0 0, .slice none 0 0] 25)).heap.size = W.heap.size + 1 := by simp
  have HX2 := Lib.hid ((Bx.new W [.slice none 0 0, .slice none 0 0] 25).keep ((Below.refl _ (W.alloc (.cells #[.slice none 0 0, .slice none 0 0] 25))).alloc (Nat.le_refl _) (.cells #[.slice none 0 0, .slice none 0 0] 25)))
  have HX3 := Lib.hid (Bx.new (W.alloc (.cells #[.slice none 0 0, .slice none 0 0] 25)) [.slice none 0 0, .slice none 0 0] 25)
  have HL := Lib.hid (hL.keep hb1)
  have HB := Lib.hid hb1
  have HS := Lib.hid (h.keep hb1)
  have HSZ := Lib.hid hsz
  rw [hsz1] at HX3
  clear hb1 h hL hO hsz hsz1
  go_enter Tryz.func45, Tryz.ntmps45
  go_wp2_with fail
  generalize ((W.alloc (.cells #[.slice none 0 0, .slice none 0 0] 25)).alloc (.cells #[.slice none 0 0, .slice none 0 0] 25)) = W1 at HX2 HX3 HL HB HS HSZ ⊢
  obtain ⟨n2, hn2⟩ : ∃ n, n = W.heap.size := ⟨_, rfl⟩
  have HN2 := Lib.hid hn2
  rw [← hn2] at HX2 HX3 HSZ hlt0 hltg ⊢
  clear hn2
  have HC := Lib.hid (numbers52 W1 b gL Ln ls0 ⟨#[112, 97, 116, 104]⟩ 1 (by decide) bad0 HS.out HL.out)
  rw [gd_rdN, hls] at HC
  clear hls
  refine HC.out.mono ?_
  clear HC
  rintro e W2 ⟨v, ns, rfl, hnl, hni, hN, hG1, hst⟩
  obtain ⟨na, rfl⟩ : ∃ x, ns = [x] := by
    match ns, hnl with
    | [x], _ => exact ⟨x, rfl⟩
  obtain ⟨oa, cap, rfl, hcap, hs⟩ := hN.now
  obtain ⟨g, off, rfl, hra⟩ := hs (by simp [pvals])
  have x0 : W2.cell? ⟨g, off, none⟩ = some (.int .i64 na) := hra.c 0 _ rfl 0 _ rfl
  have glt := hra.lt
  have HG1 := Lib.hid (grown_trans (grown_of_below HB.out) hG1)
  have HX22 := Lib.hid (HX2.out.grown hG1 (by omega))
  have HX32 := Lib.hid (HX3.out.grown hG1 (by omega))
  have HL2 := Lib.hid (HL.out.keepG hG1 h8)
  have HSZ2 : Hid (n2 + 2 ≤ W2.heap.size) := Lib.hid (by have := HSZ.out; have := hG1.size; omega)
  have HST : Hid (∃ q bd, RfS W2 b gL Ln q bd ∧ (bd = false → Fm.rdN Fm.kwPath 1 ls = some ([na], q)) ∧ (bd = true → o = none ∧ na = 0)) := Lib.hid (by
    cases hq : Fm.rdN Fm.kwPath 1 ls with
    | none =>
      rw [show Fm.rdN (⟨#[112, 97, 116, 104]⟩ : ByteArray).data.toList 1 ls = none from hq] at hst
      refine ⟨[], true, hst.2, nofun, fun _ => ⟨?_, ?_⟩⟩
      · rw [← HO.out]; unfold Fm.rdPath; rw [hq]
      · have := hst.1
        injection this
    | some p =>
      obtain ⟨m, r⟩ := p
      rw [show Fm.rdN (⟨#[112, 97, 116, 104]⟩ : ByteArray).data.toList 1 ls = some (m, r) from hq] at hst
      obtain ⟨rfl, hst⟩ := hst
      exact ⟨r, false, hst, fun _ => rfl, nofun⟩)
  clear hN hG1 hs hra hst hcap hni HX2 HX3 HL HS HB hnl
  obtain ⟨q, bd, hS2, hgood, hbad⟩ := HST.out
  have HCC := Lib.hid (count53 W2 b gL Ln q bd na hS2)
  have HGD := Lib.hid hgood
  have HBD := Lib.hid hbad
  clear hS2 HST hgood hbad
  go_wp2_with fail
  refine HCC.out.mono ?_
  clear HCC x0 glt
  rintro e W3 ⟨rfl, hS3, hG3⟩
  -- the count, and the state
  have HST : Hid (∃ (n : Nat) (bd3 : Bool), n ≤ 1048576 ∧ (if Fm.cntOk na = true then na else 0) = (n : Int) ∧ RfS W3 b gL Ln q bd3 ∧ (bd3 = false → Fm.rdN Fm.kwPath 1 ls = some ([(n : Int)], q)) ∧ (bd3 = true → o = none)) := Lib.hid (by
    by_cases hc : Fm.cntOk na = true
    · rw [if_pos hc]
      have hcc := hc
      unfold Fm.cntOk at hcc
      rw [decide_eq_true_eq] at hcc
      rw [hc, Bool.not_true, Bool.or_false] at hS3
      exact ⟨na.toNat, bd, by omega, by omega, hS3, fun e => by rw [Fm.cnt_nat hc]; exact HGD.out e, fun e => (HBD.out e).1⟩
    · rw [if_neg hc]
      have hc2 : Fm.cntOk na = false := by simpa using hc
      rw [hc2, Bool.not_false, Bool.or_true] at hS3
      refine ⟨0, true, by omega, rfl, hS3, nofun, fun _ => ?_⟩
      cases hbd : bd with
      | true => exact (HBD.out hbd).1
      | false =>
        rw [← HO.out]
        unfold Fm.rdPath
        rw [HGD.out hbd]
        simp only
        rw [if_neg hc])
  have HX23 := Lib.hid (HX22.out.grown hG3 (by omega))
  have HX33 := Lib.hid (HX32.out.grown hG3 (by omega))
  have HL3 := Lib.hid (HL2.out.keepG hG3 h8)
  have HG3 := Lib.hid (grown_trans HG1.out hG3)
  have HSZ3 : Hid (n2 + 2 ≤ W3.heap.size) := Lib.hid (by have := HSZ2.out; have := hG3.size; omega)
  obtain ⟨n, bd3, hn, hne, hS3', hgood, hbad⟩ := HST.out
  rw [hne]
  have HS3 := Lib.hid hS3'
  have HGD3 := Lib.hid hgood
  have HBD3 := Lib.hid hbad
  clear hS3 hG3 HX22 HX32 HL2 HG1 HGD HBD HST hS3' hgood hbad hne HSZ HSZ2
  go_upto_block 0 with fail
  go_cut [] (fun X => ∃ (zs : List (Option (List Int))) (q2 : List (List UInt8)) (bd2 : Bool) (v : Value), Bx X (n2 + 1) [v, .slice none 0 0] 25 ∧ RowO PtO 42 1 (n2 + 2) X v zs ∧ RfS X b gL Ln q2 bd2 ∧ Fr3 (n2 + 2) b (n2 + 1) W3 X ∧ (bd2 = false → (∃ ps, zs = ps.map some ∧ Fm.rep (Fm.rdLine Fm.kwPoint) n q = some (ps, q2)) ∧ bd3 = false) ∧ (bd2 = true → o = none))
  case first =>
    go_wp2_with fail
    go_loopw [5] (fun i X => ∃ (k : Nat) (zs : List (Option (List Int))) (q2 : List (List UInt8)) (bd2 : Bool) (v : Value), k ≤ n ∧ i = .int .i64 (k : Nat) ∧ zs.length = k ∧ Bx X (n2 + 1) [v, .slice none 0 0] 25 ∧ RowO PtO 42 1 (n2 + 2) X v zs ∧ RfS X b gL Ln q2 bd2 ∧ Fr3 (n2 + 2) b (n2 + 1) W3 X ∧ (bd2 = false → (∃ ps, zs = ps.map some ∧ Fm.RepAt (Fm.rdLine Fm.kwPoint) n q k ps q2) ∧ bd3 = false) ∧ (bd2 = true → o = none)) (fun i _ => n - (intOf i).toNat)
    case atStart => exact ⟨0, [], q, bd3, .slice none 0 0, Nat.zero_le _, rfl, rfl, HX33.out, RowO.nil _ _ _ _ _, HS3.out, Fr3.refl _ _ _ _, fun e => ⟨⟨[], rfl, Fm.RepAt.start _ _ _⟩, e⟩, HBD3.out⟩
    case round =>
      obtain ⟨k, zs, q2, bd2, v, hk, rfl, hzl, hX, hRow, hS, hF, hgood, hbad⟩ := hrel
      obtain ⟨W5, rfl⟩ : ∃ X, X = wr := ⟨_, rfl⟩
      have HF := Lib.hid hF
      have HX5 := Lib.hid hX
      have HRow5 := Lib.hid hRow
      have HS5 := Lib.hid hS
      have HGD5 := Lib.hid hgood
      have HBD5 := Lib.hid hbad
      have HZL := Lib.hid hzl
      have HL5 := Lib.hid (lib_fr3 HL3.out hF (by omega) h8 (by omega))
      obtain ⟨⟨i5, hi5, -, hX95⟩, -⟩ := id hS
      have c2 := hX95.c 2 _ rfl
      have cl := hX95.lt
      clear hF hX hRow hS hgood hbad hX95 hzl
      by_cases hlt : k < n
      · have hd : decide ((k : Int) < (n : Int)) = true := decide_eq_true (by omega)
        cases bd2 with
        | true =>
          go_wp2_with fail
          go_meet
          exact ⟨zs, q2, true, v, HX5.out, HRow5.out, HS5.out, HF.out, nofun, fun _ => HBD5.out (by first | rfl | trivial)⟩
        | false =>
          go_wp2_with fail
          generalize hO3 : Fm.rdLine Fm.kwPoint q2 = o3
          have HO3 : Hid (gd false (Fm.rdLine (⟨#[112, 111, 105, 110, 116]⟩ : ByteArray).data.toList q2) = o3) := Lib.hid hO3
          have HNX : Hid ((o3.isNone = false → (∃ ps, zs ++ [o3.map Prod.fst] = ps.map some ∧ Fm.RepAt (Fm.rdLine Fm.kwPoint) n q (k + 1) ps ((o3.map Prod.snd).getD [])) ∧ bd3 = false) ∧ (o3.isNone = true → o = none)) := Lib.hid (by
            obtain ⟨⟨ps, hz, hR⟩, h3⟩ := HGD5.out (by first | rfl | trivial)
            rcases o3 with _ | ⟨x, r⟩
            · refine ⟨nofun, fun _ => ?_⟩
              rw [← HO.out]
              exact Fm.rdPath_none2 (HGD3.out h3) (hR.none hlt hO3)
            · exact ⟨fun _ => ⟨⟨ps ++ [x], by rw [hz]; simp, hR.step hlt hO3⟩, h3⟩, nofun⟩)
          have HXL : Hid (∀ rows : List (List Value), rows.length = zs.length → rows.length + 1 ≤ 1048576) := Lib.hid (fun rows h => by have := HZL.out; omega)
          have HLO : Hid (n2 + 2 ≤ W5.heap.size) := Lib.hid HX5.out.lt
          have hnb : n2 + 1 ≠ b := by omega
          have hng : n2 + 1 ≠ gL := by omega
          have hblo : b < n2 + 2 := by omega
          have hglo : gL < n2 + 2 := by omega
          have hnlo : n2 + 1 < n2 + 2 := by omega
          clear hO3 c2 cl hd
          refine wp_region_inv (by kernel_rfl) (by kernel_rfl) (fun L a w => ∃ v29 v30 v31 v32 v33 v34 v35 : Value, a = { tmps := #[((Value.pointer (some ⟨b, 0, none⟩))), undef, ((Value.pointer (some ⟨n2, 0, none⟩))), ((Value.pointer (some ⟨n2 + 1, 0, none⟩))), ((Value.int IntKind.i64 ((n : Nat) : Int))), ((Value.int IntKind.i64 ((k : Nat) : Int))), undef, undef, undef, undef, undef, ((Value.pointer (some ⟨b, 0, none⟩))), ((Value.pointer (some ⟨b, 0, none⟩))), ((Value.slice (some ⟨g, off, none⟩) 1 cap)), ((Value.pointer (some ⟨g, off, none⟩))), ((Value.int IntKind.i64 na)), ((Value.int IntKind.i64 ((n : Nat) : Int))), ((Value.int IntKind.i64 ((k : Nat) : Int))), ((Value.int IntKind.i64 ((n : Nat) : Int))), ((Value.bool true)), ((Value.bool true)), ((Value.pointer (some ⟨b, 0, none⟩))), ((Value.pointer (some ⟨b, 0, none⟩))), ((Value.pointer (some ⟨b, 2, none⟩))), ((Value.bool false)), ((Value.bool true)), ((Value.bool true)), u27, u28, v29, v30, v31, v32, v33, v34, v35, undef, undef, undef, undef, undef, undef, undef, undef, undef, undef, undef, undef, undef, undef, undef, undef, undef, undef, undef, undef, undef, undef, undef, undef, undef, undef, undef, undef, undef, undef, undef, undef, undef, undef, undef, undef, undef, undef, undef, undef, undef, undef, undef, undef, undef, undef, undef, undef, undef, undef, undef, undef, undef, undef, undef, undef, undef, undef, undef, undef, undef, undef, undef, undef, undef, undef, undef, undef], defers := [] } ∧ Rp6K b gL n2 Ln v zs o3 W5 L v29 v30 v31 v32 v33 v34 v35 w) ?_ ?_ ?_
          · exact ⟨_, _, _, _, _, _, _, rfl, ⟨⟨fun _ => below_drew W5 1, fun _ => grown_of_below (below_drew W5 1)⟩, nofun, nofun, nofun, nofun, nofun, nofun, nofun, nofun, nofun, nofun, nofun, nofun, nofun, nofun, nofun⟩⟩
          · intro iq oq ho L a w hL hd hJ
            obtain ⟨v29, v30, v31, v32, v33, v34, v35, rfl, k⟩ := hJ
            have hiq : iq < 8 := by have := (Array.getElem?_eq_some_iff.1 ho).1; simpa using this
            match iq, hiq, ho, hL with
            | 0, _, ho, hL =>
              have ho2 := ho
              simp only [List.getElem?_toArray, List.getElem?_cons_zero, List.getElem?_cons_succ, Option.some.injEq] at ho
              subst ho
              refine wpOp_step ho2 (fun K hK => ?_)
              go_simp
              exact hK _ _ ⟨_, _, _, _, _, _, _, rfl, ⟨k.wf, fun _ => rfl, k.f1, k.f2, k.f3, k.f4, k.f5, k.f6, k.f7, fun h => up_or (k.c1_0 h), fun h => up_or (k.c3_2 h), fun h => up_or (k.c4_3 h), fun h => up_or (k.c5_1 h), fun h => up_or (k.c5_4 h), fun h => up_or (k.c7_5 h), fun h => up_or (k.c7_6 h)⟩⟩
            | 1, _, ho, hL =>
              have ho2 := ho
              simp only [List.getElem?_toArray, List.getElem?_cons_zero, List.getElem?_cons_succ, Option.some.injEq] at ho
              subst ho
              refine wpOp_step ho2 (fun K hK => ?_)
              obtain rfl := k.f0 (hd ⟨0, .data⟩ (by simp) rfl)
              have h5 : L 5 = false := by
                cases h : L 5 with
                | false => rfl
                | true => exact absurd (hL.symm.trans (k.c5_1 h)) (by decide)
              have hbx := HX5.out.grown (k.wf.2 h5) hnb
              have c1 := hbx.c 0 _ rfl
              have cl := hbx.lt
              go_simp
              exact hK _ _ ⟨_, _, _, _, _, _, _, rfl, ⟨k.wf, k.f0, fun _ => rfl, k.f2, k.f3, k.f4, k.f5, k.f6, k.f7, fun _ => up_or (hd ⟨0, .data⟩ (by simp) rfl), fun h => up_or (k.c3_2 h), fun h => up_or (k.c4_3 h), fun h => up_or (k.c5_1 h), fun h => up_or (k.c5_4 h), fun h => up_or (k.c7_5 h), fun h => up_or (k.c7_6 h)⟩⟩
            | 2, _, ho, hL =>
              have ho2 := ho
              simp only [List.getElem?_toArray, List.getElem?_cons_zero, List.getElem?_cons_succ, Option.some.injEq] at ho
              subst ho
              refine wpOp_step ho2 (fun K hK => ?_)
              go_simp
              exact hK _ _ ⟨_, _, _, _, _, _, _, rfl, ⟨k.wf, k.f0, k.f1, fun _ => rfl, k.f3, k.f4, k.f5, k.f6, k.f7, fun h => up_or (k.c1_0 h), fun h => up_or (k.c3_2 h), fun h => up_or (k.c4_3 h), fun h => up_or (k.c5_1 h), fun h => up_or (k.c5_4 h), fun h => up_or (k.c7_5 h), fun h => up_or (k.c7_6 h)⟩⟩
            | 3, _, ho, hL =>
              have ho2 := ho
              simp only [List.getElem?_toArray, List.getElem?_cons_zero, List.getElem?_cons_succ, Option.some.injEq] at ho
              subst ho
              refine wpOp_step ho2 (fun K hK => ?_)
              obtain rfl := k.f2 (hd ⟨2, .data⟩ (by simp) rfl)
              have h5 : L 5 = false := by
                cases h : L 5 with
                | false => rfl
                | true => exact absurd (hL.symm.trans (k.c4_3 (k.c5_4 h))) (by decide)
              have hb0 := k.wf.1 hL
              have hcall := read74_gen w b gL Ln q2 ⟨#[112, 111, 105, 110, 116]⟩ false (HS5.out.keep hb0) (HL5.out.keep hb0)
              rw [HO3.out] at hcall
              go_simp
              refine hcall.mono ?_
              rintro e X h1
              obtain ⟨oa, m, c, rfl, hN, hS, hG⟩ := h1.opt
              exact hK _ _ ⟨_, _, _, _, _, _, _, rfl, ⟨⟨nofun, fun _ => grown_trans (grown_of_below hb0) hG⟩, k.f0, k.f1, k.f2, fun _ _ => ⟨oa, m, c, rfl, fun W' hW' => hN W' fun k hk => hW' k ⟨Nat.le_trans hb0.size hk.1, hk.2⟩, hS⟩, fun h => absurd (hL.symm.trans (k.c4_3 h)) (by decide), fun h => absurd (h5.symm.trans h) (by decide), k.f6, fun h => absurd (h5.symm.trans (k.c7_5 h)) (by decide), fun h => up_or (k.c1_0 h), fun _ => up_or (hd ⟨2, .data⟩ (by simp) rfl), fun h => up_or (k.c4_3 h), fun h => up_or (k.c5_1 h), fun h => up_or (k.c5_4 h), fun h => up_or (k.c7_5 h), fun h => up_or (k.c7_6 h)⟩⟩
            | 4, _, ho, hL =>
              have ho2 := ho
              simp only [List.getElem?_toArray, List.getElem?_cons_zero, List.getElem?_cons_succ, Option.some.injEq] at ho
              subst ho
              refine wpOp_step ho2 (fun K hK => ?_)
              have h5 : L 5 = false := by
                cases h : L 5 with
                | false => rfl
                | true => exact absurd (hL.symm.trans (k.c5_4 h)) (by decide)
              obtain ⟨oa, m, c, rfl, hN, hS⟩ := k.f3 (hd ⟨3, .data⟩ (by simp) rfl) h5
              have hb : Below w.heap.size w (w.alloc (.cells #[.slice oa m c] 42)) := (Below.refl _ _).alloc (Nat.le_refl _) _
              have hbx := Bx.new w [.slice oa m c] 42
              go_simp
              replace k := k.keep h5 hb
              exact hK _ _ ⟨_, _, _, _, _, _, _, rfl, ⟨k.wf, k.f0, k.f1, k.f2, k.f3, fun _ _ => ⟨oa, m, c, w.heap.size, rfl, hbx, New.keep hN (AgI.of hb), hS.keep hb⟩, k.f5, k.f6, k.f7, fun h => up_or (k.c1_0 h), fun h => up_or (k.c3_2 h), fun _ => up_or (hd ⟨3, .data⟩ (by simp) rfl), fun h => up_or (k.c5_1 h), fun h => up_or (k.c5_4 h), fun h => up_or (k.c7_5 h), fun h => up_or (k.c7_6 h)⟩⟩
            | 5, _, ho, hL =>
              have ho2 := ho
              simp only [List.getElem?_toArray, List.getElem?_cons_zero, List.getElem?_cons_succ, Option.some.injEq] at ho
              subst ho
              refine wpOp_step ho2 (fun K hK => ?_)
              obtain rfl := k.f1 (hd ⟨1, .data⟩ (by simp) rfl)
              obtain ⟨oa, m, c, g4, rfl, hbx, hN, hS⟩ := k.f4 (hd ⟨4, .data⟩ (by simp) rfl) hL
              have hg := k.wf.2 hL
              have l3 := k.c4_3 (hd ⟨4, .data⟩ (by simp) rfl)
              obtain ⟨rows, hV0⟩ := HRow5.out.ex
              have hV := hV0.keep (grown_ag hg (n2 + 2) hblo)
              have hrl := HXL.out rows hV0.len
              have hlx : n2 + 2 ≤ w.heap.size := Nat.le_trans HLO.out hg.size
              obtain ⟨i0, hi0, hz0, hz1, hz2⟩ := info_parts info42
              refine step_append_lies _ rfl (.tmp 30) (.tmp 33) 22 rfl (n2 + 2) 42 i0 (.slice none 0 0) 1 24 under22 hi0 hz0 hz1 hz2 rfl (by decide) _ rows.length rows.flatten (by simp [Act.eval]) hV.own ⟨g4, 0, none⟩ 1 1 [.slice oa m c] (by simp [Act.eval]) rfl (World.news_of_block hbx.h) (by intro u hu; simp at hu; subst hu; rfl) (by decide) (by unfold maxLen; omega) (by omega) hlx _ rfl ?_
              intro gN cN X hown hgrow hat hltN
              have hrow := hV0.app (grown_ag hg (n2 + 2) hblo) hN rfl (Below.refl _ _) hown hgrow (hat.elim (fun e => .inl e.symm) (fun e => .inr (by rw [e]; rfl))) HLO.out
              have hbn1 : Below (n2 + 2) w X := grown_below hV.own hgrow hlx
              have hbX : Bx X (n2 + 1) [_, .slice none 0 0] 25 := (HX5.out.grown hg hnb).low hbn1 hnlo
              exact hK _ _ ⟨_, _, _, _, _, _, _, rfl, ⟨⟨fun h => absurd ((show L 3 = false from h).symm.trans l3) (by decide), nofun⟩, k.f0, k.f1, k.f2, fun _ => nofun, fun _ => nofun, fun _ => ⟨hrow, hS.keepA hbn1 hblo hglo, (Fr3.grown hg HLO.out).trans (Fr3.low hbn1), fun _ => hbX⟩, k.f6, fun h => absurd (hL.symm.trans (k.c7_5 h)) (by decide), fun h => up_or (k.c1_0 h), fun h => up_or (k.c3_2 h), fun h => up_or (k.c4_3 h), fun _ => up_or (hd ⟨1, .data⟩ (by simp) rfl), fun _ => up_or (hd ⟨4, .data⟩ (by simp) rfl), fun h => up_or (k.c7_5 h), fun h => up_or (k.c7_6 h)⟩⟩
            | 6, _, ho, hL =>
              have ho2 := ho
              simp only [List.getElem?_toArray, List.getElem?_cons_zero, List.getElem?_cons_succ, Option.some.injEq] at ho
              subst ho
              refine wpOp_step ho2 (fun K hK => ?_)
              go_simp
              exact hK _ _ ⟨_, _, _, _, _, _, _, rfl, ⟨k.wf, k.f0, k.f1, k.f2, k.f3, k.f4, k.f5, fun _ => rfl, k.f7, fun h => up_or (k.c1_0 h), fun h => up_or (k.c3_2 h), fun h => up_or (k.c4_3 h), fun h => up_or (k.c5_1 h), fun h => up_or (k.c5_4 h), fun h => up_or (k.c7_5 h), fun h => up_or (k.c7_6 h)⟩⟩
            | 7, _, ho, hL =>
              have ho2 := ho
              simp only [List.getElem?_toArray, List.getElem?_cons_zero, List.getElem?_cons_succ, Option.some.injEq] at ho
              subst ho
              refine wpOp_step ho2 (fun K hK => ?_)
              obtain rfl := k.f6 (hd ⟨6, .data⟩ (by simp) rfl)
              have h15 := hd ⟨5, .data⟩ (by simp) rfl
              obtain ⟨hr15, hS, hF, hx15⟩ := k.f5 h15
              have l3 := k.c4_3 (k.c5_4 h15)
              have hbx := hx15 hL
              have bl := hbx.lt
              have bf := hbx.f 0
              have bc := hbx.c 0 _ rfl
              obtain ⟨o46, c46, rfl, _⟩ := hr15.done
              simp only [List.length_append, List.length_cons, List.length_nil, Nat.zero_add] at hr15
              go_simp
              exact hK _ _ ⟨_, _, _, _, _, _, _, rfl, ⟨⟨fun h => absurd ((show L 3 = false from h).symm.trans l3) (by decide), fun h => absurd ((show L 5 = false from h).symm.trans h15) (by decide)⟩, k.f0, k.f1, k.f2, fun _ h => absurd ((show L 5 = false from h).symm.trans h15) (by decide), fun _ h => absurd ((show L 5 = false from h).symm.trans h15) (by decide), fun _ => ⟨hr15.keep (AgI.set w _ hnlo), hS.grown3 _ (Ne.symm hnb) (Ne.symm hng), hF.trans (Fr3.set w 0 _), nofun⟩, k.f6, fun _ => hbx.put1 _, fun h => up_or (k.c1_0 h), fun h => up_or (k.c3_2 h), fun h => up_or (k.c4_3 h), fun h => up_or (k.c5_1 h), fun h => up_or (k.c5_4 h), fun _ => up_or (hd ⟨5, .data⟩ (by simp) rfl), fun _ => up_or (hd ⟨6, .data⟩ (by simp) rfl)⟩⟩
            | n + 8, h, _, _ => omega
          · intro L a w hL hJ
            obtain ⟨v29, v30, v31, v32, v33, v34, v35, rfl, k⟩ := hJ
            obtain ⟨hr15, hS9, hF9, -⟩ := k.f5 (hL 5 (by decide))
            have hx17 := k.f7 (hL 7 (by decide))
            obtain rfl := k.f0 (hL 0 (by decide))
            obtain rfl := k.f2 (hL 2 (by decide))
            obtain rfl := k.f6 (hL 6 (by decide))
            dsimp only
            have HRY := Lib.hid hr15
            have HXY := Lib.hid hx17
            have HSY := Lib.hid hS9
            have HFY := Lib.hid (HF.out.trans hF9)
            clear hr15 hx17 hS9 hF9 k hL
            go_wp2_with fail
            go_roundw
            case rel => exact ⟨k + 1, _, _, _, _, by omega, by simp, by rw [List.length_append, HZL.out]; rfl, HXY.out, HRY.out, HSY.out, HFY.out, HNX.out.1, HNX.out.2⟩
            case measure => simp [intOf]; omega
      · have hke : k = n := by omega
        subst hke
        have hd : decide ((k : Int) < (k : Int)) = false := decide_eq_false (by omega)
        go_wp2_with fail
        go_meet
        exact ⟨zs, q2, bd2, v, HX5.out, HRow5.out, HS5.out, HF.out, fun e => ⟨(HGD5.out e).1.elim fun ps h => ⟨ps, h.1, h.2.done⟩, (HGD5.out e).2⟩, HBD5.out⟩
  case rest =>
    obtain ⟨zs, q2, bd2, v, hX, hRow, hS, hF, hgood, hbad⟩ := hcut
    obtain ⟨W6, rfl⟩ : ∃ X, X = wc := ⟨_, rfl⟩
    obtain ⟨op, np, rfl, hPN, -, -⟩ := hRow.done
    have HPN := Lib.hid hPN
    have HX6 := Lib.hid hX
    have HS6 := Lib.hid hS
    have HGD6 := Lib.hid hgood
    have HBD6 := Lib.hid hbad
    have HF6 := Lib.hid hF
    have HL6 := Lib.hid (lib_fr3 HL3.out hF (by omega) h8 (by omega))
    have HZ6 : Hid (n2 + 2 ≤ W6.heap.size) := Lib.hid hX.lt
    have HX26 : Hid (Bx W6 n2 [.slice none 0 0, .slice none 0 0] 25) := Lib.hid ⟨(hF.block n2 (by omega) (by omega) (by omega)).trans HX23.out.h⟩
    have hnn : 8 ≤ n2 + 1 := by omega
    clear hX hRow hS hF hgood hbad hPN HX33 HX23 HS3
    go_upto_block 2 with fail
    go_cut [] (fun X => ∃ (ws : List (Option Fm.EdgeD)) (q3 : List (List UInt8)) (bd4 : Bool) (ve : Value), Bx X (n2 + 1) [.slice op zs.length np, ve] 25 ∧ RowO EdO 52 2 W6.heap.size X ve ws ∧ RfS X b gL Ln q3 bd4 ∧ Fr3 W6.heap.size b (n2 + 1) W6 X ∧ (bd4 = false → (∃ es, ws = es.map some ∧ Fm.rep Fm.rdEdge (n - 1) q2 = some (es, q3)) ∧ bd2 = false) ∧ (bd4 = true → o = none))
    case first =>
      go_wp2_with fail
      go_loopw [6] (fun i X => ∃ (k : Nat) (ws : List (Option Fm.EdgeD)) (q3 : List (List UInt8)) (bd4 : Bool) (ve : Value), k ≤ n ∧ i = .int .i64 ((k : Nat) + 1 : Int) ∧ ws.length = k ∧ Bx X (n2 + 1) [.slice op zs.length np, ve] 25 ∧ RowO EdO 52 2 W6.heap.size X ve ws ∧ RfS X b gL Ln q3 bd4 ∧ Fr3 W6.heap.size b (n2 + 1) W6 X ∧ (bd4 = false → (∃ es, ws = es.map some ∧ Fm.RepAt Fm.rdEdge (n - 1) q2 k es q3) ∧ bd2 = false) ∧ (bd4 = true → o = none)) (fun i _ => n + 1 - (intOf i).toNat)
      case atStart => exact ⟨0, [], q2, bd2, .slice none 0 0, Nat.zero_le _, rfl, rfl, HX6.out, RowO.nil _ _ _ _ _, HS6.out, Fr3.refl _ _ _ _, fun e => ⟨⟨[], rfl, Fm.RepAt.start _ _ _⟩, e⟩, HBD6.out⟩
      case round =>
        obtain ⟨k, ws, q3, bd4, ve, hk, rfl, hwl, hX, hRow, hS, hF, hgood, hbad⟩ := hrel
        obtain ⟨W5, rfl⟩ : ∃ X, X = wr := ⟨_, rfl⟩
        have HF := Lib.hid hF
        have HX5 := Lib.hid hX
        have HRow5 := Lib.hid hRow
        have HS5 := Lib.hid hS
        have HGD5 := Lib.hid hgood
        have HBD5 := Lib.hid hbad
        have HWL := Lib.hid hwl
        have HL5 := Lib.hid (lib_fr3 HL6.out hF (by have := HZ6.out; omega) h8 hnn)
        obtain ⟨⟨i5, hi5, -, hX95⟩, -⟩ := id hS
        have c2 := hX95.c 2 _ rfl
        have cl := hX95.lt
        clear hF hX hRow hS hgood hbad hX95 hwl
        by_cases hlt : k + 1 < n
        · have hd : decide ((k : Int) + 1 < (n : Int)) = true := decide_eq_true (by omega)
          cases bd4 with
          | true =>
            go_wp2_with fail
            go_meet
            exact ⟨ws, q3, true, ve, HX5.out, HRow5.out, HS5.out, HF.out, nofun, fun _ => HBD5.out (by first | rfl | trivial)⟩
          | false =>
            go_upto_region 10 with fail
            clear c2 cl hd
            have hb7 : Below W5.heap.size W5 (W5.alloc (.cells #[.slice none 0 0, .slice none 0 0] 52)) := (Below.refl _ _).alloc (Nat.le_refl _) _
            have HX7 := Lib.hid (Bx.new W5 [.slice none 0 0, .slice none 0 0] 52)
            have HS7 := Lib.hid (HS5.out.keep hb7)
            have HL7 := Lib.hid (HL5.out.keep hb7)
            have HB7 := Lib.hid hb7
            have HZ7 : Hid ((W5.alloc (.cells #[.slice none 0 0, .slice none 0 0] 52)).heap.size = W5.heap.size + 1) := Lib.hid (by simp)
            have HLT : Hid (b < W5.heap.size ∧ gL < W5.heap.size) := Lib.hid ⟨HS5.out.lt, HS5.out.ltg⟩
            clear hb7
            go_upto_region 11 with fail
            generalize W5.alloc (.cells #[.slice none 0 0, .slice none 0 0] 52) = W7 at HX7 HS7 HL7 HB7 HZ7 ⊢
            obtain ⟨n7, hn7⟩ : ∃ m, m = W5.heap.size := ⟨_, rfl⟩
            have HN7 := Lib.hid hn7
            rw [← hn7] at HX7 HZ7 HLT ⊢
            clear hn7
            generalize hOE : Fm.rdEdge q3 = oe
            have HOE := Lib.hid hOE
            clear hOE
            have HC := Lib.hid (numbers52 W7 b gL Ln q3 ⟨#[101, 100, 103, 101]⟩ 2 (by decide) false HS7.out HL7.out)
            go_wp2_with fail
            refine HC.out.mono ?_
            clear HC
            rintro e W8 ⟨v8, ns, rfl, hnl, hni, hN, hG8, hst⟩
            obtain ⟨na8, nb8, rfl⟩ : ∃ x y, ns = [x, y] := by
              match ns, hnl with
              | [x, y], _ => exact ⟨x, y, rfl⟩
            obtain ⟨oa8, cap8, rfl, hcap, hs⟩ := hN.now
            obtain ⟨g8, off8, rfl, hra⟩ := hs (by simp [pvals])
            have x0 : W8.cell? ⟨g8, off8, none⟩ = some (.int .i64 na8) := hra.c 0 _ rfl 0 _ rfl
            have HN8 := Lib.hid hN
            have HBT : Hid (b < W7.heap.size ∧ n7 < W7.heap.size) := Lib.hid (by have := HZ7.out; have := HLT.out; omega)
            have HSZ8 := Lib.hid hG8.size
            have glt := hra.lt
            have HG8 := Lib.hid hG8
            have HL8 := Lib.hid (HL7.out.keepG hG8 h8)
            have HST : Hid (∃ q4 bd, RfS W8 b gL Ln q4 bd ∧ (bd = false → Fm.rdN Fm.kwEdge 2 q3 = some ([na8, nb8], q4)) ∧ (bd = true → oe = none)) := Lib.hid (by
              cases hq : Fm.rdN Fm.kwEdge 2 q3 with
              | none =>
                rw [show gd false (Fm.rdN (⟨#[101, 100, 103, 101]⟩ : ByteArray).data.toList 2 q3) = none from hq] at hst
                exact ⟨[], true, hst.2, nofun, fun _ => by rw [← HOE.out]; unfold Fm.rdEdge; rw [hq]⟩
              | some p =>
                obtain ⟨m, r⟩ := p
                rw [show gd false (Fm.rdN (⟨#[101, 100, 103, 101]⟩ : ByteArray).data.toList 2 q3) = some (m, r) from hq] at hst
                obtain ⟨rfl, hst⟩ := hst
                exact ⟨r, false, hst, fun _ => rfl, nofun⟩)
            clear hN hG8 hs hra hst hcap hni hnl
            obtain ⟨q4, bd5, hS8, hgood, hbad⟩ := HST.out
            have HGD8 := Lib.hid hgood
            have HBD8 := Lib.hid hbad
            have HCA := Lib.hid (count53 W8 b gL Ln q4 bd5 na8 hS8)
            clear hS8 hgood hbad HST
            go_wp2_with fail
            refine HCA.out.mono ?_
            clear HCA
            rintro e W9 ⟨rfl, hS9, hG9⟩
            -- the table's count
            have HST : Hid (∃ (ca : Nat) (bd6 : Bool), ca ≤ 1048576 ∧ (if Fm.cntOk na8 = true then na8 else 0) = (ca : Int) ∧ RfS W9 b gL Ln q4 bd6 ∧ (bd6 = false → Fm.rdN Fm.kwEdge 2 q3 = some ([((ca : Nat) : Int), nb8], q4)) ∧ (bd6 = true → oe = none)) := Lib.hid (by
              by_cases hc : Fm.cntOk na8 = true
              · rw [if_pos hc]
                have hcc := hc
                unfold Fm.cntOk at hcc
                rw [decide_eq_true_eq] at hcc
                rw [hc, Bool.not_true, Bool.or_false] at hS9
                exact ⟨na8.toNat, bd5, by omega, by omega, hS9, fun e => by rw [Fm.cnt_nat hc]; exact HGD8.out e, HBD8.out⟩
              · rw [if_neg hc]
                have hc2 : Fm.cntOk na8 = false := by simpa using hc
                rw [hc2, Bool.not_false, Bool.or_true] at hS9
                refine ⟨0, true, by omega, rfl, hS9, nofun, fun _ => ?_⟩
                cases hbd : bd5 with
                | true => exact HBD8.out hbd
                | false =>
                  rw [← HOE.out]
                  unfold Fm.rdEdge
                  rw [HGD8.out hbd]
                  simp only
                  rw [hc2]
                  rfl)
            have HN9 := Lib.hid (New.keep HN8.out (grown_ag hG9 _ HBT.out.1))
            have HL9 := Lib.hid (HL8.out.keepG hG9 h8)
            have HG9 := Lib.hid (grown_trans HG8.out hG9)
            obtain ⟨ca, bd6, hca, hcae, hS9', hgood, hbad⟩ := HST.out
            rw [hcae]
            have HGD9 := Lib.hid hgood
            have HBD9 := Lib.hid hbad
            have HS9 := Lib.hid hS9'
            clear hS9 hG9 HGD8 HBD8 HST hS9' hgood hbad hcae x0 HN8
            have HC := Lib.hid (normals75 W9 b gL Ln q4 ca hca bd6 HS9.out HL9.out)
            go_wp2_with fail
            refine HC.out.mono ?_
            clear HC
            rintro e W10 h10
            generalize hO5 : gd bd6 (Fm.rep Fm.rdNormal ca q4) = o5 at h10
            obtain ⟨oT, nT, cT, rfl, hT, hS10, hG10⟩ := h10.slice
            have HO5 := Lib.hid hO5
            have HX710 := Lib.hid (HX7.out.grown (grown_trans HG9.out hG10) (by have := HLT.out; omega))
            have HG10 := Lib.hid (grown_trans HG9.out hG10)
            have HN10 := Lib.hid (New.keep HN9.out (grown_ag hG10 _ HBT.out.1))
            have HT := Lib.hid hT
            have HLE9 := Lib.hid HG9.out.size
            have HL10 := Lib.hid (HL9.out.keepG hG10 h8)
            have b0 := HX710.out.c 0 _ rfl
            have bf := HX710.out.f 0
            have bl := HX710.out.lt
            have hX11 := HX710.out.put1 (.slice oT nT cT)
            have hS11 := hS10.grown3 (n := n7) (i := 0) (.slice oT nT cT) (by have := HLT.out; omega) (by have := HLT.out; omega)
            clear h10 hT hS10 hG10 hO5
            go_upto_region 13 with fail
            clear b0 bf bl
            have hb11 : Below n7 W10 (W10.setCell ⟨n7, 0, none⟩ (.slice oT nT cT)) := (Below.refl _ _).setCell (p := ⟨n7, 0, none⟩) (Nat.le_refl _) _
            have hag : AgI W7.heap.size W10 (W10.setCell ⟨n7, 0, none⟩ (.slice oT nT cT)) := AgI.set _ _ HBT.out.2
            have HX11 := Lib.hid hX11
            have HS11 := Lib.hid hS11
            have HT11 := Lib.hid (New.keep (lo := W7.heap.size) (fun Y hY => HT.out Y fun j hj => hY j ⟨Nat.le_trans HLE9.out hj.1, hj.2⟩) hag)
            have HN11 := Lib.hid (New.keep HN10.out hag)
            have HL11 := Lib.hid (HL10.out.low (hb11.mono (by have := HLT.out; omega)))
            have HF11 := Lib.hid ((Fr3.grown (lo := W7.heap.size) (n := n7) HG10.out (Nat.le_refl _)).trans (Fr3.set W10 0 (.slice oT nT cT)))
            clear hX11 hS11 hb11 hag HX710 HT HN10 HL10
            generalize W10.setCell ⟨n7, 0, none⟩ (.slice oT nT cT) = W11 at HX11 HS11 HT11 HN11 HL11 HF11 ⊢
            obtain ⟨-, y1, ylt⟩ := HN11.out.now.two
            have HCB := Lib.hid (count53 W11 b gL Ln _ _ nb8 HS11.out)
            go_wp2_with fail
            refine HCB.out.mono ?_
            clear HCB
            rintro e W12 ⟨rfl, hS12, hG12⟩
            have HST : Hid (∃ (cb : Nat) (q5 : List (List UInt8)) (bd8 : Bool), cb ≤ 1048576 ∧ (if Fm.cntOk nb8 = true then nb8 else 0) = (cb : Int) ∧ RfS W12 b gL Ln q5 bd8 ∧ (bd8 = false → ∃ tb, Fm.rdN Fm.kwEdge 2 q3 = some ([((ca : Nat) : Int), ((cb : Nat) : Int)], q4) ∧ Fm.rep Fm.rdNormal ca q4 = some (tb, q5) ∧ o5 = some (tb, q5)) ∧ (bd8 = true → oe = none)) := Lib.hid (by
              rcases o5 with _ | ⟨tb, q5⟩
              · refine ⟨if Fm.cntOk nb8 = true then nb8.toNat else 0, [], true, ?_, ?_, ?_, nofun, fun _ => ?_⟩
                · by_cases hc : Fm.cntOk nb8 = true
                  · rw [if_pos hc]
                    unfold Fm.cntOk at hc
                    rw [decide_eq_true_eq] at hc
                    omega
                  · rw [if_neg hc]; omega
                · by_cases hc : Fm.cntOk nb8 = true
                  · rw [if_pos hc, if_pos hc, Fm.cnt_nat hc]
                  · rw [if_neg hc, if_neg hc]; rfl
                · have := hS12
                  simp only [Option.isNone_none, Bool.true_or] at this
                  exact this.any
                · cases hbd : bd6 with
                  | true => exact HBD9.out hbd
                  | false =>
                    have h1 := HO5.out
                    rw [hbd] at h1
                    have h2 : Fm.rep Fm.rdNormal ca q4 = none := h1
                    rw [← HOE.out]
                    unfold Fm.rdEdge
                    rw [HGD9.out hbd]
                    simp only [Int.toNat_natCast]
                    rw [h2]
                    by_cases hc : (Fm.cntOk ((ca : Nat) : Int) && Fm.cntOk nb8) = true
                    · rw [if_pos hc]
                    · rw [if_neg hc]
              · have hbd : bd6 = false := by
                  cases hb : bd6 with
                  | false => rfl
                  | true =>
                    have h1 := HO5.out
                    rw [hb] at h1
                    cases h1
                have h2 : Fm.rep Fm.rdNormal ca q4 = some (tb, q5) := by
                  have h1 := HO5.out
                  rw [hbd] at h1
                  exact h1
                simp only [Option.isNone_some, Bool.false_or, Option.map_some, Option.getD_some] at hS12
                by_cases hc : Fm.cntOk nb8 = true
                · rw [if_pos hc]
                  have hcc := hc
                  unfold Fm.cntOk at hcc
                  rw [decide_eq_true_eq] at hcc
                  rw [hc, Bool.not_true] at hS12
                  exact ⟨nb8.toNat, q5, false, by omega, by omega, hS12, fun _ => ⟨tb, by rw [Fm.cnt_nat hc]; exact HGD9.out hbd, h2, rfl⟩, nofun⟩
                · rw [if_neg hc]
                  have hc2 : Fm.cntOk nb8 = false := by simpa using hc
                  rw [hc2, Bool.not_false] at hS12
                  refine ⟨0, [], true, by omega, rfl, hS12.any, nofun, fun _ => ?_⟩
                  rw [← HOE.out]
                  unfold Fm.rdEdge
                  rw [HGD9.out hbd]
                  simp only
                  rw [hc2, Bool.and_false]
                  rfl)
            have HX12 := Lib.hid (HX11.out.grown hG12 (by have := HLT.out; omega))
            have HT12 := Lib.hid (New.keep HT11.out (grown_ag hG12 _ HBT.out.1))
            have HL12 := Lib.hid (HL11.out.keepG hG12 h8)
            have HF12 := Lib.hid (HF11.out.trans (Fr3.grown (n := n7) hG12 HF11.out.size))
            obtain ⟨cb, q5, bd8, hcb, hcbe, hS12', hgood, hbad⟩ := HST.out
            rw [hcbe]
            have HGD12 := Lib.hid hgood
            have HBD12 := Lib.hid hbad
            have HS12 := Lib.hid hS12'
            clear hS12 hG12 HST hS12' hgood hbad hcbe y1 ylt HN11 HX11 HS11 HT11 HL11 HF11 HGD9 HBD9 HS9 HL9 HG9 HN9 HG10
            go_upto_block 4 with fail
            have hlo3 : n7 < W12.heap.size := HX12.out.lt
            have hbg3 : b < W12.heap.size ∧ gL < W12.heap.size := ⟨HS12.out.lt, HS12.out.ltg⟩
            have hbn7 : b ≠ n7 ∧ gL ≠ n7 := by have := HLT.out; omega
            go_cut [] from 36 to 102 (fun X => ∃ (z : Option Fm.EdgeD) (q6 : List (List UInt8)) (bd9 : Bool) (oU : Option Addr) (nU cU : Nat), Bx X n7 [.slice oT nT cT, .slice oU nU cU] 52 ∧ New W7.heap.size X (fun Y => EdO Y [.slice oT nT cT, .slice oU nU cU] z) ∧ RfS X b gL Ln q6 bd9 ∧ Fr3 W7.heap.size b n7 W7 X ∧ (bd9 = false → ∃ e, oe = some (e, q6) ∧ z = some e) ∧ (bd9 = true → oe = none ∧ z = none))
            case first =>
              go_wp2_with fail
              go_loopw [9] (fun i X => ∃ (r : Nat) (us : List Fm.UseD) (q6 : List (List UInt8)) (bd9 : Bool) (v7 : Value), r ≤ cb ∧ i = .int .i64 (r : Nat) ∧ us.length + r = cb ∧ Bx X n7 [.slice oT nT cT, v7] 52 ∧ RowO UseAt 54 3 W12.heap.size X v7 us ∧ RfS X b gL Ln q6 bd9 ∧ Fr3 W12.heap.size b n7 W12 X ∧ (bd9 = false → Fm.RepAt Fm.rdUse cb q5 us.length us q6 ∧ bd8 = false) ∧ (bd9 = true → oe = none)) (fun i _ => (intOf i).toNat)
              case atStart => exact ⟨cb, [], q5, bd8, .slice none 0 0, Nat.le_refl _, rfl, by simp, HX12.out, RowO.nil _ _ _ _ _, HS12.out, Fr3.refl _ _ _ _, fun e => ⟨Fm.RepAt.start _ _ _, e⟩, HBD12.out⟩
              case round =>
                obtain ⟨r, us, q6, bd9, v7, hr, rfl, hul, hX, hRow, hS, hF, hgood, hbad⟩ := hrel
                obtain ⟨W5, rfl⟩ : ∃ X, X = wr := ⟨_, rfl⟩
                have HF := Lib.hid hF
                have HX5 := Lib.hid hX
                have HRow5 := Lib.hid hRow
                have HS5 := Lib.hid hS
                have HGD5 := Lib.hid hgood
                have HBD5 := Lib.hid hbad
                have HUL := Lib.hid hul
                have HL5 := Lib.hid (lib_fr3 HL12.out hF (by omega) h8 (by have := HLT.out; omega))
                -- what a way out leaves
                have HOUT : Hid (∀ X bdx q6x, Bx X n7 [.slice oT nT cT, v7] 52 → RfS X b gL Ln q6x bdx → Fr3 W12.heap.size b n7 W12 X → AgI W12.heap.size W5 X → (bdx = false → r = 0 ∧ bd9 = false ∧ q6x = q6) → (bdx = true → oe = none) →
                    ∃ (z : Option Fm.EdgeD) (q6 : List (List UInt8)) (bd9 : Bool) (oU : Option Addr) (nU cU : Nat), Bx X n7 [.slice oT nT cT, .slice oU nU cU] 52 ∧ New W7.heap.size X (fun Y => EdO Y [.slice oT nT cT, .slice oU nU cU] z) ∧ RfS X b gL Ln q6 bd9 ∧ Fr3 W7.heap.size b n7 W7 X ∧ (bd9 = false → ∃ e, oe = some (e, q6) ∧ z = some e) ∧ (bd9 = true → oe = none ∧ z = none)) := Lib.hid (by
                  intro X bdx q6x h1 h2 h3 h4 h5 h6
                  obtain ⟨oU, cU, hv, hN, -, -⟩ := HRow5.out.done
                  have hFX : Fr3 W7.heap.size b n7 W7 X := HF12.out.trans (h3.mono HF12.out.size)
                  cases hbx : bdx with
                  | true =>
                    rw [hbx] at h2
                    exact ⟨none, q6x, true, oU, _, cU, by rw [← hv]; exact h1, fun _ _ => trivial, h2, hFX, nofun, fun _ => ⟨h6 hbx, rfl⟩⟩
                  | false =>
                    rw [hbx] at h2
                    obtain ⟨hr0, hb9, rfl⟩ := h5 hbx
                    obtain ⟨hR, hb8⟩ := HGD5.out hb9
                    obtain ⟨tb, e1, e2, e3⟩ := HGD12.out hb8
                    have hule : us.length = cb := by have := HUL.out; omega
                    rw [hule] at hR
                    have hdn := hR.done
                    refine ⟨some ⟨tb, us⟩, q6x, false, oU, _, cU, by rw [← hv]; exact h1, fun Y hY => ?_, h2, hFX, fun _ => ⟨⟨tb, us⟩, ?_, rfl⟩, nofun⟩
                    · have hsz : W12.heap.size ≤ X.heap.size := h3.size
                      obtain ⟨hnt, hrw⟩ := HT12.out Y (fun j hj => by
                        have ha := hj.1; have hb := hj.2
                        rw [hY j ⟨ha, Nat.lt_of_lt_of_le hb hsz⟩]
                        exact h3.block j hb (by have := HBT.out; omega) (by have := HBT.out; omega)) tb q5 e3
                      refine ⟨oT, cT, oU, cU, by rw [← hnt], hrw, hN Y fun j hj => ?_⟩
                      have ha := hj.1; have hb := hj.2
                      have hw : W7.heap.size ≤ W12.heap.size := HF12.out.size
                      rw [hY j ⟨by omega, Nat.lt_of_lt_of_le hb h4.size⟩]
                      exact h4.block j ha hb
                    · rw [← HOE.out]
                      unfold Fm.rdEdge
                      rw [e1]
                      simp only [Int.toNat_natCast]
                      rw [Fm.sz_cnt hca, Fm.sz_cnt hcb]
                      simp only [Bool.and_self, if_true]
                      rw [e2]
                      simp only
                      rw [hdn])
                obtain ⟨⟨i5, hi5, -, hX95⟩, -⟩ := id hS
                have c2 := hX95.c 2 _ rfl
                have cl := hX95.lt
                clear hF hX hRow hS hgood hbad hX95 hul
                by_cases hlt : 0 < r
                · have hd : decide ((0 : Int) < (r : Int)) = true := decide_eq_true (by omega)
                  cases bd9 with
                  | true =>
                    go_wp2_with fail
                    go_meet
                    exact HOUT.out W5 true q6 HX5.out HS5.out HF.out (AgI.refl _ _) nofun (fun _ => HBD5.out (by first | rfl | trivial))
                  | false =>
                    have HC := Lib.hid (read74_gen W5 b gL Ln q6 ⟨#[117, 115, 101]⟩ false HS5.out HL5.out)
                    generalize hO3 : Fm.rdLine Fm.kwUse q6 = o3
                    rw [show gd false (Fm.rdLine (⟨#[117, 115, 101]⟩ : ByteArray).data.toList q6) = o3 from hO3] at HC
                    have HO3 := Lib.hid hO3
                    clear hO3
                    go_wp2_with fail
                    refine HC.out.mono ?_
                    clear HC c2 cl hd
                    rintro e W8 h8'
                    have HOEN : Hid (Fm.rdUse q6 = none → oe = none) := Lib.hid (fun e => by
                      obtain ⟨hR, hb8⟩ := HGD5.out (by first | rfl | trivial)
                      obtain ⟨tb, e1, e2, e3⟩ := HGD12.out hb8
                      have h2 := hR.none (by have := HUL.out; omega) e
                      rw [← HOE.out]
                      unfold Fm.rdEdge
                      rw [e1]
                      simp only [Int.toNat_natCast]
                      rw [Fm.sz_cnt hca, Fm.sz_cnt hcb]
                      simp only [Bool.and_self, if_true]
                      rw [e2]
                      simp only
                      rw [h2])
                    rcases o3 with _ | ⟨ns, r'⟩
                    · obtain ⟨v, rfl, hz, hS, hG⟩ := h8'.no
                      obtain rfl : v = .slice none 0 0 := hz.now
                      have HON : Hid (oe = none) := Lib.hid (HOEN.out (by unfold Fm.rdUse; rw [HO3.out]))
                      obtain ⟨⟨i6, hi6, -, hX96⟩, -⟩ := id hS
                      have c2 := hX96.c 2 _ rfl
                      have f2 := hX96.f 2
                      have cl := hX96.lt
                      have HSX := Lib.hid (hS.set (q2 := []) (i := i6) (bad2 := true) 2 (v := .bool true) (hX96.put3 (.bool true)).2 hi6 nofun)
                      have HBX := Lib.hid ((HX5.out.grown hG (Ne.symm hbn7.1)).other (Ne.symm hbn7.1) 2 (.bool true))
                      have HGX := Lib.hid (grown_trans hG (grown_set W8 b 2 (.bool true)))
                      clear h8' hz hS hG hX96
                      go_wp2_with fail
                      go_meet
                      exact HOUT.out _ true [] HBX.out HSX.out (HF.out.trans (Fr3.grown HGX.out HF.out.size)) (grown_ag HGX.out _ hbg3.1) nofun (fun _ => HON.out)
                    · obtain ⟨v, rfl, hN, hS, hG⟩ := h8'.yes
                      obtain ⟨oa7, cap7, rfl, hcap, hs⟩ := hN.now
                      have HIN7 := Lib.hid (Fm.rdLine_in HO3.out)
                      by_cases hns : 2 ≤ ns.length
                      · obtain ⟨d, i, nums, rfl⟩ : ∃ d i nums, ns = d :: i :: nums := by
                          match ns, hns with
                          | d :: i :: nums, _ => exact ⟨d, i, nums, rfl⟩
                        obtain ⟨g7, o7, rfl, hra⟩ := hs (by simp [pvals])
                        have hqd : decide ((nums.length : Int) + 1 + 1 < 2) = false := decide_eq_false (by omega)
                        have HCP : Hid ((nums.length : Int) + 1 + 1 ≤ (cap7 : Int) ∧ nums.length + 1 + 1 ≤ cap7) := Lib.hid (by simp only [List.length_cons] at hcap; omega)
                        have HSN : Hid (Sl W8 (some ⟨g7, o7 + 2, none⟩) 1 (pvals nums)) := Lib.hid (fun _ => ⟨g7, o7 + 2, rfl, hra.lt, fun j r hj q u hu => by
                          have := hra.c (j + 2) r hj q u hu
                          rw [← this]
                          congr 2
                          omega⟩)
                        have HD7 : Hid (∀ X, Below W8.heap.size W8 X → X.cell? ⟨g7, o7, none⟩ = some (.int .i64 d)) := Lib.hid (fun X hX => (hX.cell (p := ⟨g7, o7, none⟩) hra.lt).trans (hra.c 0 _ rfl 0 _ rfl))
                        have HI7 : Hid (∀ X, Below W8.heap.size W8 X → X.cell? ⟨g7, o7 + 1, none⟩ = some (.int .i64 i)) := Lib.hid (fun X hX => (hX.cell (p := ⟨g7, o7 + 1, none⟩) hra.lt).trans (hra.c 1 _ rfl 0 _ rfl))
                        have HGL := Lib.hid hra.lt
                        have HNR : Hid (∀ n ∈ nums, Fm.inR64 n) := Lib.hid (fun n hn => HIN7.out n (by simp [hn]))
                        have HNL : Hid (nums.length ≤ 1048576) := Lib.hid (by have := HS5.out.line_len HO3.out; simp only [List.length_cons] at this; omega)
                        have HS8 := Lib.hid hS
                        have HX8 := Lib.hid (HX5.out.grown hG (Ne.symm hbn7.1))
                        have HRow8 := Lib.hid (HRow5.out.keep (grown_ag hG _ hbg3.1))
                        have HF8 := Lib.hid (HF.out.trans (Fr3.grown (n := n7) hG HF.out.size))
                        have HLO : Hid (W12.heap.size ≤ W8.heap.size) := Lib.hid (Nat.le_trans HF.out.size hG.size)
                        have HXL : Hid (∀ rows : List (List Value), rows.length = us.length → rows.length + 1 ≤ 1048576) := Lib.hid (fun rows h => by have := HUL.out; omega)
                        have HNX : Hid (Fm.RepAt Fm.rdUse cb q5 (us.length + 1) (us ++ [⟨d, i, nums⟩]) r' ∧ bd8 = false) := Lib.hid (by
                          obtain ⟨hR, hb8⟩ := HGD5.out (by first | rfl | trivial)
                          exact ⟨hR.step (by have := HUL.out; omega) (by unfold Fm.rdUse; rw [HO3.out]), hb8⟩)
                        clear h8' hN hS hG hs hra hcap
                        go_wp2_with fail
                        refine wp_region_inv (by kernel_rfl) (by kernel_rfl) (fun L a w => ∃ v82 v83 v84 v85 v86 v87 v88 v89 v90 v91 v92 v93 v94 v95 v96 : Value, a = { tmps := #[((Value.pointer (some ⟨b, 0, none⟩))), undef, ((Value.pointer (some ⟨n2, 0, none⟩))), ((Value.pointer (some ⟨n2 + 1, 0, none⟩))), ((Value.int IntKind.i64 ((n : Nat) : Int))), u5, ((Value.int IntKind.i64 (((k : Nat) : Int) + 1))), ((Value.pointer (some ⟨n7, 0, none⟩))), ((Value.slice (some ⟨g8, off8, none⟩) 2 cap8)), ((Value.int IntKind.i64 ((r : Nat) : Int))), ((Value.slice (some ⟨g7, o7, none⟩) (nums.length + 1 + 1) cap7)), ((Value.pointer (some ⟨b, 0, none⟩))), ((Value.pointer (some ⟨b, 0, none⟩))), ((Value.slice (some ⟨g, off, none⟩) 1 cap)), ((Value.pointer (some ⟨g, off, none⟩))), ((Value.int IntKind.i64 na)), ((Value.int IntKind.i64 ((n : Nat) : Int))), u17, u18, u19, u20, u21, u22, u23, u24, u25, u26, u27, u28, u29, u30, u31, u32, u33, u34, u35, ((Value.int IntKind.i64 (((k : Nat) : Int) + 1))), ((Value.int IntKind.i64 ((n : Nat) : Int))), ((Value.bool true)), ((Value.bool true)), ((Value.pointer (some ⟨b, 0, none⟩))), ((Value.pointer (some ⟨b, 0, none⟩))), ((Value.pointer (some ⟨b, 2, none⟩))), ((Value.bool false)), ((Value.bool true)), ((Value.bool true)), u46, u47, ((Value.pointer (some ⟨b, 0, none⟩))), ((Value.slice (some ⟨g8, off8, none⟩) 2 cap8)), ((Value.pointer (some ⟨b, 0, none⟩))), ((Value.pointer (some ⟨b, 0, none⟩))), ((Value.slice (some ⟨g8, off8, none⟩) 2 cap8)), ((Value.pointer (some ⟨g8, off8, none⟩))), ((Value.int IntKind.i64 na8)), ((Value.int IntKind.i64 ((ca : Nat) : Int))), ((Value.slice oT nT cT)), ((Value.pointer (some ⟨n7, 0, none⟩))), ((Value.pointer (some ⟨b, 0, none⟩))), ((Value.slice (some ⟨g8, off8, none⟩) 2 cap8)), ((Value.pointer (some ⟨g8, off8 + 1, none⟩))), ((Value.int IntKind.i64 nb8)), ((Value.int IntKind.i64 ((cb : Nat) : Int))), ((Value.int IntKind.i64 ((r : Nat) : Int))), ((Value.bool true)), ((Value.bool true)), ((Value.pointer (some ⟨b, 0, none⟩))), ((Value.pointer (some ⟨b, 0, none⟩))), ((Value.pointer (some ⟨b, 2, none⟩))), ((Value.bool false)), ((Value.bool true)), ((Value.bool true)), u72, u73, ((Value.pointer (some ⟨b, 0, none⟩))), ((Value.slice (some ⟨g7, o7, none⟩) (nums.length + 1 + 1) cap7)), ((Value.slice (some ⟨g7, o7, none⟩) (nums.length + 1 + 1) cap7)), ((Value.int IntKind.i64 (((nums.length : Nat) : Int) + 1 + 1))), ((Value.bool false)), u79, u80, u81, v82, v83, v84, v85, v86, v87, v88, v89, v90, v91, v92, v93, v94, v95, v96, u97, u98, u99, u100, u101, u102, undef], defers := [] } ∧ Rp19K n7 g7 o7 cap7 W12.heap.size d i nums us v7 (.slice oT nT cT) W8 L v82 v83 v84 v85 v86 v87 v88 v89 v90 v91 v92 v93 v94 v95 v96 w) ?_ ?_ ?_
                        · exact ⟨_, _, _, _, _, _, _, _, _, _, _, _, _, _, _, rfl, ⟨fun _ => below_drew W8 1, nofun, nofun, nofun, nofun, nofun, nofun, nofun, nofun, nofun, nofun, nofun, nofun, nofun, nofun, nofun, nofun, nofun, nofun, nofun, nofun, nofun, nofun, nofun, nofun, nofun, nofun, nofun, nofun, nofun, nofun, nofun⟩⟩
                        · intro iq oq ho L a w hL hd hJ
                          obtain ⟨v82, v83, v84, v85, v86, v87, v88, v89, v90, v91, v92, v93, v94, v95, v96, rfl, k⟩ := hJ
                          have hiq : iq < 16 := by have := (Array.getElem?_eq_some_iff.1 ho).1; simpa using this
                          match iq, hiq, ho, hL with
                          | 0, _, ho, hL =>
                            have ho2 := ho
                            simp only [List.getElem?_toArray, List.getElem?_cons_zero, List.getElem?_cons_succ, Option.some.injEq] at ho
                            subst ho
                            refine wpOp_step ho2 (fun K hK => ?_)
                            go_simp
                            exact hK _ _ ⟨_, _, _, _, _, _, _, _, _, _, _, _, _, _, _, rfl, ⟨k.wf, fun _ => rfl, k.f1, k.f2, k.f3, k.f4, k.f5, k.f6, k.f7, k.f8, k.f9, k.f10, k.f11, k.f12, k.f13, k.f14, k.f15, fun h => up_or (k.c1_0 h), fun h => up_or (k.c3_2 h), fun h => up_or (k.c4_3 h), fun h => up_or (k.c6_5 h), fun h => up_or (k.c7_6 h), fun h => up_or (k.c9_8 h), fun h => up_or (k.c10_9 h), fun h => up_or (k.c11_4 h), fun h => up_or (k.c11_7 h), fun h => up_or (k.c11_10 h), fun h => up_or (k.c12_11 h), fun h => up_or (k.c13_1 h), fun h => up_or (k.c13_12 h), fun h => up_or (k.c15_13 h), fun h => up_or (k.c15_14 h)⟩⟩
                          | 1, _, ho, hL =>
                            have ho2 := ho
                            simp only [List.getElem?_toArray, List.getElem?_cons_zero, List.getElem?_cons_succ, Option.some.injEq] at ho
                            subst ho
                            refine wpOp_step ho2 (fun K hK => ?_)
                            obtain rfl := k.f0 (hd ⟨0, .data⟩ (by simp) rfl)
                            have h13 : L 13 = false := by
                              cases h : L 13 with
                              | false => rfl
                              | true => exact absurd (hL.symm.trans (k.c13_1 h)) (by decide)
                            have hbx := HX8.out.keep (k.wf h13)
                            have c1 := hbx.c 1 _ rfl
                            have cl := hbx.lt
                            go_simp
                            exact hK _ _ ⟨_, _, _, _, _, _, _, _, _, _, _, _, _, _, _, rfl, ⟨k.wf, k.f0, fun _ => rfl, k.f2, k.f3, k.f4, k.f5, k.f6, k.f7, k.f8, k.f9, k.f10, k.f11, k.f12, k.f13, k.f14, k.f15, fun _ => up_or (hd ⟨0, .data⟩ (by simp) rfl), fun h => up_or (k.c3_2 h), fun h => up_or (k.c4_3 h), fun h => up_or (k.c6_5 h), fun h => up_or (k.c7_6 h), fun h => up_or (k.c9_8 h), fun h => up_or (k.c10_9 h), fun h => up_or (k.c11_4 h), fun h => up_or (k.c11_7 h), fun h => up_or (k.c11_10 h), fun h => up_or (k.c12_11 h), fun h => up_or (k.c13_1 h), fun h => up_or (k.c13_12 h), fun h => up_or (k.c15_13 h), fun h => up_or (k.c15_14 h)⟩⟩
                          | 2, _, ho, hL =>
                            have ho2 := ho
                            simp only [List.getElem?_toArray, List.getElem?_cons_zero, List.getElem?_cons_succ, Option.some.injEq] at ho
                            subst ho
                            refine wpOp_step ho2 (fun K hK => ?_)
                            go_simp
                            exact hK _ _ ⟨_, _, _, _, _, _, _, _, _, _, _, _, _, _, _, rfl, ⟨k.wf, k.f0, k.f1, fun _ => rfl, k.f3, k.f4, k.f5, k.f6, k.f7, k.f8, k.f9, k.f10, k.f11, k.f12, k.f13, k.f14, k.f15, fun h => up_or (k.c1_0 h), fun h => up_or (k.c3_2 h), fun h => up_or (k.c4_3 h), fun h => up_or (k.c6_5 h), fun h => up_or (k.c7_6 h), fun h => up_or (k.c9_8 h), fun h => up_or (k.c10_9 h), fun h => up_or (k.c11_4 h), fun h => up_or (k.c11_7 h), fun h => up_or (k.c11_10 h), fun h => up_or (k.c12_11 h), fun h => up_or (k.c13_1 h), fun h => up_or (k.c13_12 h), fun h => up_or (k.c15_13 h), fun h => up_or (k.c15_14 h)⟩⟩
                          | 3, _, ho, hL =>
                            have ho2 := ho
                            simp only [List.getElem?_toArray, List.getElem?_cons_zero, List.getElem?_cons_succ, Option.some.injEq] at ho
                            subst ho
                            refine wpOp_step ho2 (fun K hK => ?_)
                            obtain rfl := k.f2 (hd ⟨2, .data⟩ (by simp) rfl)
                            have hl2 : (0 : Int) < (nums.length : Int) + 1 + 1 := by omega
                            go_simp
                            exact hK _ _ ⟨_, _, _, _, _, _, _, _, _, _, _, _, _, _, _, rfl, ⟨k.wf, k.f0, k.f1, k.f2, fun _ => rfl, k.f4, k.f5, k.f6, k.f7, k.f8, k.f9, k.f10, k.f11, k.f12, k.f13, k.f14, k.f15, fun h => up_or (k.c1_0 h), fun _ => up_or (hd ⟨2, .data⟩ (by simp) rfl), fun h => up_or (k.c4_3 h), fun h => up_or (k.c6_5 h), fun h => up_or (k.c7_6 h), fun h => up_or (k.c9_8 h), fun h => up_or (k.c10_9 h), fun h => up_or (k.c11_4 h), fun h => up_or (k.c11_7 h), fun h => up_or (k.c11_10 h), fun h => up_or (k.c12_11 h), fun h => up_or (k.c13_1 h), fun h => up_or (k.c13_12 h), fun h => up_or (k.c15_13 h), fun h => up_or (k.c15_14 h)⟩⟩
                          | 4, _, ho, hL =>
                            have ho2 := ho
                            simp only [List.getElem?_toArray, List.getElem?_cons_zero, List.getElem?_cons_succ, Option.some.injEq] at ho
                            subst ho
                            refine wpOp_step ho2 (fun K hK => ?_)
                            obtain rfl := k.f3 (hd ⟨3, .data⟩ (by simp) rfl)
                            have h13 : L 13 = false := by
                              cases h : L 13 with
                              | false => rfl
                              | true => exact absurd (hL.symm.trans (k.c11_4 (k.c12_11 (k.c13_12 h)))) (by decide)
                            have x1 := HD7.out w (k.wf h13)
                            have gl := Nat.lt_of_lt_of_le HGL.out (k.wf h13).size
                            go_simp
                            exact hK _ _ ⟨_, _, _, _, _, _, _, _, _, _, _, _, _, _, _, rfl, ⟨k.wf, k.f0, k.f1, k.f2, k.f3, fun _ => rfl, k.f5, k.f6, k.f7, k.f8, k.f9, k.f10, k.f11, k.f12, k.f13, k.f14, k.f15, fun h => up_or (k.c1_0 h), fun h => up_or (k.c3_2 h), fun _ => up_or (hd ⟨3, .data⟩ (by simp) rfl), fun h => up_or (k.c6_5 h), fun h => up_or (k.c7_6 h), fun h => up_or (k.c9_8 h), fun h => up_or (k.c10_9 h), fun h => up_or (k.c11_4 h), fun h => up_or (k.c11_7 h), fun h => up_or (k.c11_10 h), fun h => up_or (k.c12_11 h), fun h => up_or (k.c13_1 h), fun h => up_or (k.c13_12 h), fun h => up_or (k.c15_13 h), fun h => up_or (k.c15_14 h)⟩⟩
                          | 5, _, ho, hL =>
                            have ho2 := ho
                            simp only [List.getElem?_toArray, List.getElem?_cons_zero, List.getElem?_cons_succ, Option.some.injEq] at ho
                            subst ho
                            refine wpOp_step ho2 (fun K hK => ?_)
                            go_simp
                            exact hK _ _ ⟨_, _, _, _, _, _, _, _, _, _, _, _, _, _, _, rfl, ⟨k.wf, k.f0, k.f1, k.f2, k.f3, k.f4, fun _ => rfl, k.f6, k.f7, k.f8, k.f9, k.f10, k.f11, k.f12, k.f13, k.f14, k.f15, fun h => up_or (k.c1_0 h), fun h => up_or (k.c3_2 h), fun h => up_or (k.c4_3 h), fun h => up_or (k.c6_5 h), fun h => up_or (k.c7_6 h), fun h => up_or (k.c9_8 h), fun h => up_or (k.c10_9 h), fun h => up_or (k.c11_4 h), fun h => up_or (k.c11_7 h), fun h => up_or (k.c11_10 h), fun h => up_or (k.c12_11 h), fun h => up_or (k.c13_1 h), fun h => up_or (k.c13_12 h), fun h => up_or (k.c15_13 h), fun h => up_or (k.c15_14 h)⟩⟩
                          | 6, _, ho, hL =>
                            have ho2 := ho
                            simp only [List.getElem?_toArray, List.getElem?_cons_zero, List.getElem?_cons_succ, Option.some.injEq] at ho
                            subst ho
                            refine wpOp_step ho2 (fun K hK => ?_)
                            obtain rfl := k.f5 (hd ⟨5, .data⟩ (by simp) rfl)
                            have hl2 : (1 : Int) < (nums.length : Int) + 1 + 1 := by omega
                            go_simp
                            exact hK _ _ ⟨_, _, _, _, _, _, _, _, _, _, _, _, _, _, _, rfl, ⟨k.wf, k.f0, k.f1, k.f2, k.f3, k.f4, k.f5, fun _ => rfl, k.f7, k.f8, k.f9, k.f10, k.f11, k.f12, k.f13, k.f14, k.f15, fun h => up_or (k.c1_0 h), fun h => up_or (k.c3_2 h), fun h => up_or (k.c4_3 h), fun _ => up_or (hd ⟨5, .data⟩ (by simp) rfl), fun h => up_or (k.c7_6 h), fun h => up_or (k.c9_8 h), fun h => up_or (k.c10_9 h), fun h => up_or (k.c11_4 h), fun h => up_or (k.c11_7 h), fun h => up_or (k.c11_10 h), fun h => up_or (k.c12_11 h), fun h => up_or (k.c13_1 h), fun h => up_or (k.c13_12 h), fun h => up_or (k.c15_13 h), fun h => up_or (k.c15_14 h)⟩⟩
                          | 7, _, ho, hL =>
                            have ho2 := ho
                            simp only [List.getElem?_toArray, List.getElem?_cons_zero, List.getElem?_cons_succ, Option.some.injEq] at ho
                            subst ho
                            refine wpOp_step ho2 (fun K hK => ?_)
                            obtain rfl := k.f6 (hd ⟨6, .data⟩ (by simp) rfl)
                            have h13 : L 13 = false := by
                              cases h : L 13 with
                              | false => rfl
                              | true => exact absurd (hL.symm.trans (k.c11_7 (k.c12_11 (k.c13_12 h)))) (by decide)
                            have x1 := HI7.out w (k.wf h13)
                            have gl := Nat.lt_of_lt_of_le HGL.out (k.wf h13).size
                            go_simp
                            exact hK _ _ ⟨_, _, _, _, _, _, _, _, _, _, _, _, _, _, _, rfl, ⟨k.wf, k.f0, k.f1, k.f2, k.f3, k.f4, k.f5, k.f6, fun _ => rfl, k.f8, k.f9, k.f10, k.f11, k.f12, k.f13, k.f14, k.f15, fun h => up_or (k.c1_0 h), fun h => up_or (k.c3_2 h), fun h => up_or (k.c4_3 h), fun h => up_or (k.c6_5 h), fun _ => up_or (hd ⟨6, .data⟩ (by simp) rfl), fun h => up_or (k.c9_8 h), fun h => up_or (k.c10_9 h), fun h => up_or (k.c11_4 h), fun h => up_or (k.c11_7 h), fun h => up_or (k.c11_10 h), fun h => up_or (k.c12_11 h), fun h => up_or (k.c13_1 h), fun h => up_or (k.c13_12 h), fun h => up_or (k.c15_13 h), fun h => up_or (k.c15_14 h)⟩⟩
                          | 8, _, ho, hL =>
                            have ho2 := ho
                            simp only [List.getElem?_toArray, List.getElem?_cons_zero, List.getElem?_cons_succ, Option.some.injEq] at ho
                            subst ho
                            refine wpOp_step ho2 (fun K hK => ?_)
                            go_simp
                            exact hK _ _ ⟨_, _, _, _, _, _, _, _, _, _, _, _, _, _, _, rfl, ⟨k.wf, k.f0, k.f1, k.f2, k.f3, k.f4, k.f5, k.f6, k.f7, fun _ => rfl, k.f9, k.f10, k.f11, k.f12, k.f13, k.f14, k.f15, fun h => up_or (k.c1_0 h), fun h => up_or (k.c3_2 h), fun h => up_or (k.c4_3 h), fun h => up_or (k.c6_5 h), fun h => up_or (k.c7_6 h), fun h => up_or (k.c9_8 h), fun h => up_or (k.c10_9 h), fun h => up_or (k.c11_4 h), fun h => up_or (k.c11_7 h), fun h => up_or (k.c11_10 h), fun h => up_or (k.c12_11 h), fun h => up_or (k.c13_1 h), fun h => up_or (k.c13_12 h), fun h => up_or (k.c15_13 h), fun h => up_or (k.c15_14 h)⟩⟩
                          | 9, _, ho, hL =>
                            have ho2 := ho
                            simp only [List.getElem?_toArray, List.getElem?_cons_zero, List.getElem?_cons_succ, Option.some.injEq] at ho
                            subst ho
                            refine wpOp_step ho2 (fun K hK => ?_)
                            obtain rfl := k.f8 (hd ⟨8, .data⟩ (by simp) rfl)
                            have hc1 : (2 : Int) ≤ (nums.length : Int) + 1 + 1 := by omega
                            go_simp
                            exact hK _ _ ⟨_, _, _, _, _, _, _, _, _, _, _, _, _, _, _, rfl, ⟨k.wf, k.f0, k.f1, k.f2, k.f3, k.f4, k.f5, k.f6, k.f7, k.f8, fun _ => ⟨_, _, rfl, fun h => if_neg (fun e => by have h2 := HCP.out.2; have h3 := List.length_pos_iff.2 h; omega)⟩, k.f10, k.f11, k.f12, k.f13, k.f14, k.f15, fun h => up_or (k.c1_0 h), fun h => up_or (k.c3_2 h), fun h => up_or (k.c4_3 h), fun h => up_or (k.c6_5 h), fun h => up_or (k.c7_6 h), fun _ => up_or (hd ⟨8, .data⟩ (by simp) rfl), fun h => up_or (k.c10_9 h), fun h => up_or (k.c11_4 h), fun h => up_or (k.c11_7 h), fun h => up_or (k.c11_10 h), fun h => up_or (k.c12_11 h), fun h => up_or (k.c13_1 h), fun h => up_or (k.c13_12 h), fun h => up_or (k.c15_13 h), fun h => up_or (k.c15_14 h)⟩⟩
                          | 10, _, ho, hL =>
                            have ho2 := ho
                            simp only [List.getElem?_toArray, List.getElem?_cons_zero, List.getElem?_cons_succ, Option.some.injEq] at ho
                            subst ho
                            refine wpOp_step ho2 (fun K hK => ?_)
                            have h13 : L 13 = false := by
                              cases h : L 13 with
                              | false => rfl
                              | true => exact absurd (hL.symm.trans (k.c11_10 (k.c12_11 (k.c13_12 h)))) (by decide)
                            obtain ⟨o42, c42, rfl, ho42⟩ := k.f9 (hd ⟨9, .data⟩ (by simp) rfl)
                            have hcall := narrow54 w o42 c42 nums (fun h => by rw [ho42 (fun e => h (by rw [e]; rfl))]; exact HSN.out.keep (k.wf h13) h) HNR.out HNL.out
                            go_simp
                            refine hcall.mono ?_
                            rintro e X ⟨v', rfl, hN, hb⟩
                            have hN2 := NumW.of hN (k.wf h13).size
                            replace k := k.keep h13 hb
                            exact hK _ _ ⟨_, _, _, _, _, _, _, _, _, _, _, _, _, _, _, rfl, ⟨k.wf, k.f0, k.f1, k.f2, k.f3, k.f4, k.f5, k.f6, k.f7, k.f8, k.f9, fun _ _ => hN2, k.f11, k.f12, k.f13, k.f14, k.f15, fun h => up_or (k.c1_0 h), fun h => up_or (k.c3_2 h), fun h => up_or (k.c4_3 h), fun h => up_or (k.c6_5 h), fun h => up_or (k.c7_6 h), fun h => up_or (k.c9_8 h), fun _ => up_or (hd ⟨9, .data⟩ (by simp) rfl), fun h => up_or (k.c11_4 h), fun h => up_or (k.c11_7 h), fun h => up_or (k.c11_10 h), fun h => up_or (k.c12_11 h), fun h => up_or (k.c13_1 h), fun h => up_or (k.c13_12 h), fun h => up_or (k.c15_13 h), fun h => up_or (k.c15_14 h)⟩⟩
                          | 11, _, ho, hL =>
                            have ho2 := ho
                            simp only [List.getElem?_toArray, List.getElem?_cons_zero, List.getElem?_cons_succ, Option.some.injEq] at ho
                            subst ho
                            refine wpOp_step ho2 (fun K hK => ?_)
                            obtain rfl := k.f4 (hd ⟨4, .data⟩ (by simp) rfl)
                            obtain rfl := k.f7 (hd ⟨7, .data⟩ (by simp) rfl)
                            have h13 : L 13 = false := by
                              cases h : L 13 with
                              | false => rfl
                              | true => exact absurd (hL.symm.trans (k.c12_11 (k.c13_12 h))) (by decide)
                            have hN := k.f10 (hd ⟨10, .data⟩ (by simp) rfl) h13
                            obtain ⟨o43, c43, rfl⟩ := hN.form
                            go_simp
                            exact hK _ _ ⟨_, _, _, _, _, _, _, _, _, _, _, _, _, _, _, rfl, ⟨k.wf, k.f0, k.f1, k.f2, k.f3, k.f4, k.f5, k.f6, k.f7, k.f8, k.f9, k.f10, fun _ _ => ⟨o43, c43, rfl, hN⟩, k.f12, k.f13, k.f14, k.f15, fun h => up_or (k.c1_0 h), fun h => up_or (k.c3_2 h), fun h => up_or (k.c4_3 h), fun h => up_or (k.c6_5 h), fun h => up_or (k.c7_6 h), fun h => up_or (k.c9_8 h), fun h => up_or (k.c10_9 h), fun _ => up_or (hd ⟨4, .data⟩ (by simp) rfl), fun _ => up_or (hd ⟨7, .data⟩ (by simp) rfl), fun _ => up_or (hd ⟨10, .data⟩ (by simp) rfl), fun h => up_or (k.c12_11 h), fun h => up_or (k.c13_1 h), fun h => up_or (k.c13_12 h), fun h => up_or (k.c15_13 h), fun h => up_or (k.c15_14 h)⟩⟩
                          | 12, _, ho, hL =>
                            have ho2 := ho
                            simp only [List.getElem?_toArray, List.getElem?_cons_zero, List.getElem?_cons_succ, Option.some.injEq] at ho
                            subst ho
                            refine wpOp_step ho2 (fun K hK => ?_)
                            have h13 : L 13 = false := by
                              cases h : L 13 with
                              | false => rfl
                              | true => exact absurd (hL.symm.trans (k.c13_12 h)) (by decide)
                            obtain ⟨o43, c43, rfl, hN⟩ := k.f11 (hd ⟨11, .data⟩ (by simp) rfl) h13
                            have hb : Below w.heap.size w (w.alloc (.cells #[.int .i64 d, .int .i64 i, .slice o43 nums.length c43] 54)) := (Below.refl _ _).alloc (Nat.le_refl _) _
                            have hbx := Bx.new w [.int .i64 d, .int .i64 i, .slice o43 nums.length c43] 54
                            go_simp
                            replace k := k.keep h13 hb
                            exact hK _ _ ⟨_, _, _, _, _, _, _, _, _, _, _, _, _, _, _, rfl, ⟨k.wf, k.f0, k.f1, k.f2, k.f3, k.f4, k.f5, k.f6, k.f7, k.f8, k.f9, k.f10, k.f11, fun _ _ => ⟨o43, c43, w.heap.size, rfl, hbx, hN.keep hb⟩, k.f13, k.f14, k.f15, fun h => up_or (k.c1_0 h), fun h => up_or (k.c3_2 h), fun h => up_or (k.c4_3 h), fun h => up_or (k.c6_5 h), fun h => up_or (k.c7_6 h), fun h => up_or (k.c9_8 h), fun h => up_or (k.c10_9 h), fun h => up_or (k.c11_4 h), fun h => up_or (k.c11_7 h), fun h => up_or (k.c11_10 h), fun _ => up_or (hd ⟨11, .data⟩ (by simp) rfl), fun h => up_or (k.c13_1 h), fun h => up_or (k.c13_12 h), fun h => up_or (k.c15_13 h), fun h => up_or (k.c15_14 h)⟩⟩
                          | 13, _, ho, hL =>
                            have ho2 := ho
                            simp only [List.getElem?_toArray, List.getElem?_cons_zero, List.getElem?_cons_succ, Option.some.injEq] at ho
                            subst ho
                            refine wpOp_step ho2 (fun K hK => ?_)
                            obtain rfl := k.f1 (hd ⟨1, .data⟩ (by simp) rfl)
                            obtain ⟨o43, c43, g45, rfl, hbx, hN⟩ := k.f12 (hd ⟨12, .data⟩ (by simp) rfl) hL
                            have hbw := k.wf hL
                            obtain ⟨rows, hV0⟩ := HRow8.out.ex
                            have hV := hV0.keep (AgI.of hbw)
                            have hrl := HXL.out rows hV0.len
                            have hlx : W12.heap.size ≤ w.heap.size := Nat.le_trans HLO.out hbw.size
                            obtain ⟨i0, hi0, hz0, hz1, hz2⟩ := info_parts info54
                            refine step_append_lies _ rfl (.tmp 83) (.tmp 94) 50 rfl W12.heap.size 54 i0 (.agg #[.int .i64 0, .int .i64 0, .slice none 0 0]) 3 40 under50 hi0 hz0 hz1 hz2 rfl (by decide) _ rows.length rows.flatten (by simp [Act.eval]) hV.own ⟨g45, 0, none⟩ 1 1 [.int .i64 d, .int .i64 i, .slice o43 nums.length c43] (by simp [Act.eval]) rfl (World.news_of_block hbx.h) (by intro u hu; simp at hu; rcases hu with rfl | rfl | rfl <;> rfl) (by decide) (by unfold maxLen; omega) (by omega) hlx _ rfl ?_
                            intro gN cN X hown hgrow hat hltN
                            have hrow : RowO UseAt 54 3 W12.heap.size X (.slice (some ⟨gN, 0, none⟩) (rows.length + 1) cN) (us ++ [⟨d, i, nums⟩]) := hV0.app (AgI.of hbw) (fun W' hW' => (hN W' hW').elim fun on h => h.elim fun nc h => ⟨on, nc, by rw [h.1], h.2.2⟩) rfl (Below.refl _ _) hown hgrow (hat.elim (fun e => .inl e.symm) (fun e => .inr (by rw [e]; rfl))) HLO.out
                            have hbn1 : Below W12.heap.size w X := grown_below hV.own hgrow hlx
                            have hbX : Bx X n7 [.slice oT nT cT, _] 52 := (HX8.out.keep hbw).low hbn1 hlo3
                            exact hK _ _ ⟨_, _, _, _, _, _, _, _, _, _, _, _, _, _, _, rfl, ⟨nofun, k.f0, k.f1, k.f2, k.f3, k.f4, k.f5, k.f6, k.f7, k.f8, k.f9, fun _ => nofun, fun _ => nofun, fun _ => nofun, fun _ => ⟨hrow, (Fr3.low (hbw.mono HLO.out)).trans (Fr3.low hbn1), fun _ => hbX⟩, k.f14, fun h => absurd (hL.symm.trans (k.c15_13 h)) (by decide), fun h => up_or (k.c1_0 h), fun h => up_or (k.c3_2 h), fun h => up_or (k.c4_3 h), fun h => up_or (k.c6_5 h), fun h => up_or (k.c7_6 h), fun h => up_or (k.c9_8 h), fun h => up_or (k.c10_9 h), fun h => up_or (k.c11_4 h), fun h => up_or (k.c11_7 h), fun h => up_or (k.c11_10 h), fun h => up_or (k.c12_11 h), fun _ => up_or (hd ⟨1, .data⟩ (by simp) rfl), fun _ => up_or (hd ⟨12, .data⟩ (by simp) rfl), fun h => up_or (k.c15_13 h), fun h => up_or (k.c15_14 h)⟩⟩
                          | 14, _, ho, hL =>
                            have ho2 := ho
                            simp only [List.getElem?_toArray, List.getElem?_cons_zero, List.getElem?_cons_succ, Option.some.injEq] at ho
                            subst ho
                            refine wpOp_step ho2 (fun K hK => ?_)
                            go_simp
                            exact hK _ _ ⟨_, _, _, _, _, _, _, _, _, _, _, _, _, _, _, rfl, ⟨k.wf, k.f0, k.f1, k.f2, k.f3, k.f4, k.f5, k.f6, k.f7, k.f8, k.f9, k.f10, k.f11, k.f12, k.f13, fun _ => rfl, k.f15, fun h => up_or (k.c1_0 h), fun h => up_or (k.c3_2 h), fun h => up_or (k.c4_3 h), fun h => up_or (k.c6_5 h), fun h => up_or (k.c7_6 h), fun h => up_or (k.c9_8 h), fun h => up_or (k.c10_9 h), fun h => up_or (k.c11_4 h), fun h => up_or (k.c11_7 h), fun h => up_or (k.c11_10 h), fun h => up_or (k.c12_11 h), fun h => up_or (k.c13_1 h), fun h => up_or (k.c13_12 h), fun h => up_or (k.c15_13 h), fun h => up_or (k.c15_14 h)⟩⟩
                          | 15, _, ho, hL =>
                            have ho2 := ho
                            simp only [List.getElem?_toArray, List.getElem?_cons_zero, List.getElem?_cons_succ, Option.some.injEq] at ho
                            subst ho
                            refine wpOp_step ho2 (fun K hK => ?_)
                            obtain rfl := k.f14 (hd ⟨14, .data⟩ (by simp) rfl)
                            have h15 := hd ⟨13, .data⟩ (by simp) rfl
                            obtain ⟨hr15, hb15, hx15⟩ := k.f13 h15
                            have hbx := hx15 hL
                            have bl := hbx.lt
                            have bf := hbx.f 1
                            have bc := hbx.c 1 _ rfl
                            obtain ⟨o46, c46, rfl, _⟩ := hr15.done
                            simp only [List.length_append, List.length_cons, List.length_nil, Nat.zero_add] at hr15
                            go_simp
                            exact hK _ _ ⟨_, _, _, _, _, _, _, _, _, _, _, _, _, _, _, rfl, ⟨fun h => absurd (h15.symm.trans h) (by decide), k.f0, k.f1, k.f2, k.f3, k.f4, k.f5, k.f6, k.f7, k.f8, k.f9, fun _ h => absurd (h15.symm.trans h) (by decide), fun _ h => absurd (h15.symm.trans h) (by decide), fun _ h => absurd (h15.symm.trans h) (by decide), fun _ => ⟨hr15.keep (AgI.set w _ hlo3), hb15.trans (Fr3.set w 1 _), nofun⟩, k.f14, fun _ => hbx.put2 _, fun h => up_or (k.c1_0 h), fun h => up_or (k.c3_2 h), fun h => up_or (k.c4_3 h), fun h => up_or (k.c6_5 h), fun h => up_or (k.c7_6 h), fun h => up_or (k.c9_8 h), fun h => up_or (k.c10_9 h), fun h => up_or (k.c11_4 h), fun h => up_or (k.c11_7 h), fun h => up_or (k.c11_10 h), fun h => up_or (k.c12_11 h), fun h => up_or (k.c13_1 h), fun h => up_or (k.c13_12 h), fun _ => up_or (hd ⟨13, .data⟩ (by simp) rfl), fun _ => up_or (hd ⟨14, .data⟩ (by simp) rfl)⟩⟩
                          | n + 16, h, _, _ => omega
                        · intro L a w hL hJ
                          obtain ⟨v82, v83, v84, v85, v86, v87, v88, v89, v90, v91, v92, v93, v94, v95, v96, rfl, k⟩ := hJ
                          obtain ⟨hr15, hb15, -⟩ := k.f13 (hL 13 (by decide))
                          have hx17 := k.f15 (hL 15 (by decide))
                          obtain rfl := k.f0 (hL 0 (by decide))
                          obtain rfl := k.f2 (hL 2 (by decide))
                          obtain rfl := k.f3 (hL 3 (by decide))
                          obtain rfl := k.f4 (hL 4 (by decide))
                          obtain rfl := k.f5 (hL 5 (by decide))
                          obtain rfl := k.f6 (hL 6 (by decide))
                          obtain rfl := k.f7 (hL 7 (by decide))
                          obtain rfl := k.f8 (hL 8 (by decide))
                          obtain rfl := k.f14 (hL 14 (by decide))
                          dsimp only
                          have HRY := Lib.hid hr15
                          have HXY := Lib.hid hx17
                          have HSY := Lib.hid (HS8.out.fr hb15 hbg3.1 hbg3.2 hbn7.1 hbn7.2)
                          have HFY := Lib.hid (HF8.out.trans hb15.weak)
                          clear hr15 hb15 hx17 k hL
                          have hwr : IntKind.i64.wrap ((r : Int) - 1) = (((r - 1 : Nat)) : Int) := by rw [IntWalk.i64_in _ (by omega)]; omega
                          go_wp2_with fail
                          go_roundw
                          case rel => exact ⟨r - 1, us ++ [⟨d, i, nums⟩], r', false, _, by omega, rfl, by rw [List.length_append, List.length_cons, List.length_nil]; have := HUL.out; omega, HXY.out, HRY.out, HSY.out, HFY.out, fun _ => ⟨by rw [List.length_append, List.length_cons, List.length_nil]; exact HNX.out.1, HNX.out.2⟩, nofun⟩
                          case measure => simp [intOf]; omega
                      · have hqd : decide ((ns.length : Int) < 2) = true := decide_eq_true (by omega)
                        have HON : Hid (oe = none) := Lib.hid (HOEN.out (by
                          unfold Fm.rdUse
                          rw [HO3.out]
                          match ns, hns with
                          | [], _ => rfl
                          | [d], _ => rfl
                          | d :: i :: nums, h => exact absurd (by simp) h))
                        obtain ⟨⟨i6, hi6, -, hX96⟩, -⟩ := id hS
                        have c2 := hX96.c 2 _ rfl
                        have f2 := hX96.f 2
                        have cl := hX96.lt
                        have HSX := Lib.hid (hS.set (q2 := []) (i := i6) (bad2 := true) 2 (v := .bool true) (hX96.put3 (.bool true)).2 hi6 nofun)
                        have HBX := Lib.hid ((HX5.out.grown hG (Ne.symm hbn7.1)).other (Ne.symm hbn7.1) 2 (.bool true))
                        have HGX := Lib.hid (grown_trans hG (grown_set W8 b 2 (.bool true)))
                        clear h8' hN hS hG hX96 hs hcap
                        go_wp2_with fail
                        go_meet
                        exact HOUT.out _ true [] HBX.out HSX.out (HF.out.trans (Fr3.grown HGX.out HF.out.size)) (grown_ag HGX.out _ hbg3.1) nofun (fun _ => HON.out)
                · have hke : r = 0 := by omega
                  subst hke
                  have hd : decide ((0 : Int) < ((0 : Nat) : Int)) = false := rfl
                  go_wp2_with fail
                  go_meet
                  exact HOUT.out W5 bd9 q6 HX5.out HS5.out HF.out (AgI.refl _ _) (fun e => ⟨by first | rfl | trivial, e, rfl⟩) HBD5.out
            case rest =>
              obtain ⟨z, q6, bd9, oU, nU, cU, hX, hN, hS, hF, hgood, hbad⟩ := hcut
              obtain ⟨W8, rfl⟩ : ∃ X, X = wc := ⟨_, rfl⟩
              have hw5 : W6.heap.size ≤ W5.heap.size := HF.out.size
              have hw7 : W7.heap.size = W5.heap.size + 1 := by have := HZ7.out; have := HN7.out; omega
              have hn7 : n7 = W5.heap.size := HN7.out
              have hz6 := HZ6.out
              have hfr : ∀ k, k < W5.heap.size → k ≠ b → W8.heap[k]? = W5.heap[k]? := fun k h1 h2 => (hF.block k (by omega) h2 (by omega)).trans (HB7.out.block k h1)
              have hx3 : Bx W8 (n2 + 1) [.slice op zs.length np, ve] 25 := ⟨(hfr (n2 + 1) HX5.out.lt (by omega)).trans HX5.out.h⟩
              have hag : AgI W6.heap.size W5 W8 := ⟨by have := hF.size; omega, fun k h1 h2 => hfr k h2 (by omega)⟩
              have HX38 := Lib.hid hx3
              have HAG := Lib.hid hag
              have HND := Lib.hid (show New W5.heap.size W8 (fun Y => EdO Y [.slice oT nT cT, .slice oU nU cU] z) from fun Y hY => hN Y fun j hj => hY j ⟨by have := hj.1; omega, hj.2⟩)
              have HS8 := Lib.hid hS
              have HFR : Hid (Fr3 W6.heap.size b (n2 + 1) W5 W8) := Lib.hid ⟨hF.os.trans HB7.out.os, hF.tape.trans HB7.out.tape, hF.output.trans HB7.out.output, hag.size, fun k h1 h2 _ => hfr k (by omega) h2⟩
              have HGD8 := Lib.hid hgood
              have HBD8 := Lib.hid hbad
              have HW := Lib.hid hw5
              have a0 := hX.c 0 _ rfl
              have a1 := hX.c 1 _ rfl
              have al := hX.lt
              have p1 := hx3.c 1 _ rfl
              have pf := hx3.f 1
              have pl := hx3.lt
              obtain ⟨i0, hi0, hz0, hz1, hz2⟩ := info_parts info52
              obtain ⟨rows, hV0⟩ := HRow5.out.ex
              have hrl : rows.length = k := by rw [hV0.len]; exact HWL.out
              have hV8 := hV0.keep hag
              have hb9 : Below W8.heap.size W8 (W8.alloc (.cells #[.slice oT nT cT, .slice oU nU cU] 52)) := (Below.refl _ _).alloc (Nat.le_refl _) _
              have HV0 := Lib.hid hV0
              have HV9 := Lib.hid (hV8.keep (AgI.of hb9))
              have HB9 := Lib.hid hb9
              have HSZ9 : Hid (W6.heap.size ≤ (W8.alloc (.cells #[.slice oT nT cT, .slice oU nU cU] 52)).heap.size) := Lib.hid (Nat.le_trans hw5 (Nat.le_trans hag.size hb9.size))
              have hbx9 := hx3.keep hb9
              have HRL := Lib.hid hrl
              have HH7 := Lib.hid hn7
              clear hX hN hS hF hgood hbad hfr hx3 hag hV0 hV8 hb9 hrl hw5 hw7 hn7
              have hkn : k + 1 ≤ 1048576 := by omega
              go_wp2_with (at_builtin; refine wpList_append_own_at _ rfl _ _ 23 rfl W6.heap.size 52 i0 (.agg #[.slice none 0 0, .slice none 0 0]) 2 48 under23 hi0 hz0 hz1 hz2 rfl (by decide) _ _ _ rfl HV9.out.own ⟨W8.heap.size, 0, none⟩ 1 1 [.slice oT nT cT, .slice oU nU cU] rfl rfl ?c1 ?c2 ?c3 ?c4 ?c5 ?_)
              case c1 => exact new_cells _ _ _
              case c2 => intro u hu; simp at hu; rcases hu with rfl | rfl <;> rfl
              case c3 => rw [HRL.out]; unfold maxLen; omega
              case c4 => rw [HRL.out]; omega
              case c5 => exact HSZ9.out
              intro v' w' hown' hgrow _ hat
              have hrow := HV0.out.app HAG.out HND.out rfl HB9.out hown' hgrow (by simpa using hat) HW.out
              have hbn1 : Below W6.heap.size W8 w' := (HB9.out.mono (Nat.le_trans HW.out HAG.out.size)).trans (grown_below HV9.out.own hgrow HSZ9.out)
              have hbx' : Bx w' (n2 + 1) [.slice op zs.length np, ve] 25 := HX38.out.low hbn1 (by omega)
              have q1 := hbx'.c 1 _ rfl
              have qf := hbx'.f 1
              have ql := hbx'.lt
              have HROW := Lib.hid (hrow.keep (AgI.set (i := 1) w' v' (show n2 + 1 < W6.heap.size by omega)))
              have HXF := Lib.hid (hbx'.put2 v')
              have HSF := Lib.hid ((HS8.out.keepA hbn1 (by omega) (by omega)).grown3 (n := n2 + 1) (i := 1) v' (by omega) (by omega))
              have HFF := Lib.hid (((HF.out.trans HFR.out).trans (Fr3.low (b := b) (n := n2 + 1) hbn1)).trans (Fr3.set w' 1 v'))
              obtain ⟨oV, cV, rfl, -, -, -⟩ := hrow.done
              clear hown' hgrow hat hrow hbn1 hbx' hi0 hz0 hz1 hz2 a0 a1 al p1 pf pl
              have hwk : IntKind.i64.wrap ((k : Int) + 1 + 1) = (k : Int) + 1 + 1 := IntWalk.i64_in _ (by omega)
              have HGN : Hid (bd9 = false → (∃ es, ws ++ [z] = es.map some ∧ Fm.RepAt Fm.rdEdge (n - 1) q2 (k + 1) es q6) ∧ bd2 = false) := Lib.hid (fun e => by
                obtain ⟨ed, h1, h2⟩ := HGD8.out e
                obtain ⟨⟨es, h3, h4⟩, h5⟩ := HGD5.out (by first | rfl | trivial)
                exact ⟨⟨es ++ [ed], by rw [h3, h2]; simp, h4.step (by omega) (by rw [HOE.out, h1])⟩, h5⟩)
              have HBN : Hid (bd9 = true → o = none) := Lib.hid (fun e => by
                obtain ⟨h1, h2⟩ := HBD8.out e
                obtain ⟨⟨es, h3, h4⟩, h5⟩ := HGD5.out (by first | rfl | trivial)
                obtain ⟨⟨ps, h6, h7⟩, h8⟩ := HGD6.out h5
                rw [← HO.out]
                exact Fm.rdPath_none3 (HGD3.out h8) h7 (h4.none (by omega) (by rw [HOE.out, h1])))
              go_wp2_with fail
              go_roundw
              case rel => exact ⟨k + 1, ws ++ [z], q6, bd9, _, by omega, by simp, by rw [List.length_append, HWL.out]; rfl, by first | exact HXF.out | (rw [List.length_append] at HXF; exact HXF.out), by first | exact HROW.out | (rw [List.length_append] at HROW; exact HROW.out), by first | exact HSF.out | (rw [List.length_append] at HSF; exact HSF.out), by first | exact HFF.out | (rw [List.length_append] at HFF; exact HFF.out), HGN.out, HBN.out⟩
              case measure => simp [intOf]; omega
        · have hd : decide ((k : Int) + 1 < (n : Int)) = false := decide_eq_false (by omega)
          go_wp2_with fail
          go_meet
          exact ⟨ws, q3, bd4, ve, HX5.out, HRow5.out, HS5.out, HF.out, fun e => ⟨(HGD5.out e).1.elim fun es h => ⟨es, h.1, by
            have h1 := h.2
            have h2 : k = n - 1 := by have := h1.1; omega
            rw [h2] at h1
            exact h1.done⟩, (HGD5.out e).2⟩, HBD5.out⟩
    case rest =>
      obtain ⟨ws, q3, bd4, ve, hX, hRow, hS, hF, hgood, hbad⟩ := hcut
      obtain ⟨W8, rfl⟩ : ∃ X, X = wc := ⟨_, rfl⟩
      obtain ⟨oe, ne, rfl, hEN, -, -⟩ := hRow.done
      have hz6 := HZ6.out
      have hb2 : Bx W8 n2 [.slice none 0 0, .slice none 0 0] 25 := ⟨(hF.block n2 (by omega) (by omega) (by omega)).trans HX26.out.h⟩
      have hG6 : W.grownBy W6 (some b) := HF6.out.back HG3.out (by rw [← HN2.out]; omega) (by rw [← HN2.out]; omega)
      have hG8 : W.grownBy W8 (some b) := hF.back hG6 (by rw [← HN2.out]; omega) (by rw [← HN2.out]; omega)
      have hPT : New (n2 + 2) W8 (fun Y => Rws PtO 1 Y op zs) := fun Y hY => HPN.out Y fun j hj => by
        have h1 := hj.1; have h2 := hj.2
        rw [hY j ⟨h1, Nat.lt_of_lt_of_le h2 hF.size⟩]
        exact hF.block j h2 (by omega) (by omega)
      have HPT := Lib.hid hPT
      have HEN := Lib.hid hEN
      have HS8 := Lib.hid hS
      have HGD8 := Lib.hid hgood
      have HBD8 := Lib.hid hbad
      have HF8 := Lib.hid hF.size
      have a0 := hX.c 0 _ rfl
      have a1 := hX.c 1 _ rfl
      have al := hX.lt
      have b0 := hb2.c 0 _ rfl
      have b1 := hb2.c 1 _ rfl
      have bf0 := hb2.f 0
      have bf1 := hb2.f 1
      have bl := hb2.lt
      have HBF := Lib.hid ((hb2.put1 (.slice op zs.length np)).put2 (.slice oe ws.length ne))
      have HLQ : Hid (∀ k, k ≠ n2 → ((W8.setCell ⟨n2, 0, none⟩ (.slice op zs.length np)).setCell ⟨n2, 1, none⟩ (.slice oe ws.length ne)).heap[k]? = W8.heap[k]?) := Lib.hid (fun k hk => (Below.heap_setCell _ ⟨n2, 1, none⟩ _ k hk).trans (Below.heap_setCell _ ⟨n2, 0, none⟩ _ k hk))
      have HSQ : Hid (((W8.setCell ⟨n2, 0, none⟩ (.slice op zs.length np)).setCell ⟨n2, 1, none⟩ (.slice oe ws.length ne)).heap.size = W8.heap.size) := Lib.hid (by simp [World.setCell])
      have HGQ : Hid (W.grownBy ((W8.setCell ⟨n2, 0, none⟩ (.slice op zs.length np)).setCell ⟨n2, 1, none⟩ (.slice oe ws.length ne)) (some b)) := Lib.hid (by
        refine grown_low2 hG8 (lo := W.heap.size) ?_ (Nat.le_refl _)
        have h2 : W.heap.size ≤ n2 := Nat.le_of_eq HN2.out.symm
        exact (((Below.refl _ _).setCell (p := ⟨n2, 0, none⟩) h2 _).setCell (p := ⟨n2, 1, none⟩) h2 _))
      have HSF := Lib.hid ((hS.grown3 (n := n2) (i := 0) (.slice op zs.length np) (by omega) (by omega)).grown3 (n := n2) (i := 1) (.slice oe ws.length ne) (by omega) (by omega))
      clear hX hRow hS hF hgood hbad hb2 hG6 hG8 hPT hEN
      go_wp2
      generalize ((W8.setCell ⟨n2, 0, none⟩ (.slice op zs.length np)).setCell ⟨n2, 1, none⟩ (.slice oe ws.length ne)) = W9 at HBF HLQ HSQ HGQ HSF ⊢
      clear a0 a1 al b0 b1 bf0 bf1 bl
      have c0 := HBF.out.c 0 _ rfl
      have c1 := HBF.out.c 1 _ rfl
      have cl := HBF.out.lt
      refine bodyPost_ret (v := .agg #[.slice op zs.length np, .slice oe ws.length ne]) (by simp [results, Tryz.results45, go_sem, c0, c1]) rfl ?_
      cases hbd : bd4 with
      | true =>
        have hs := HSF.out
        rw [hbd] at hs
        exact RrP.mkno (HBD8.out hbd) (fun _ _ => ⟨_, _, _, _, _, _, rfl⟩) hs.any HGQ.out
      | false =>
        obtain ⟨⟨es, h1, h2⟩, h3⟩ := HGD8.out hbd
        obtain ⟨⟨ps, h4, h5⟩, h6⟩ := HGD6.out h3
        have hs := HSF.out
        rw [hbd] at hs
        refine RrP.mk (x := ⟨ps, es⟩) (r := q3) (by rw [← HO.out]; exact Fm.rdPath_mk (HGD3.out h6) hn h5 h2) (fun Y hY => ?_) hs HGQ.out
        have hn2w := HN2.out
        have hcov : ∀ j, n2 + 2 ≤ j → j < W8.heap.size → Y.heap[j]? = W8.heap[j]? := fun j ha hb => by
          rw [hY j ⟨by omega, by rw [HSQ.out]; exact hb⟩, HLQ.out j (by omega)]
        refine ⟨op, np, oe, ne, by rw [h1, h4, List.length_map, List.length_map], rws_some (fun W r x h => h) h4 (HPT.out Y fun j hj => hcov j hj.1 hj.2), rws_some (fun W r x h => h) h1 (HEN.out Y fun j hj => hcov j (by have := hj.1; omega) hj.2)⟩
theorem path45 (W : World) (b gL : Nat) (Ln ls : List (List UInt8)) (h : RfS W b gL Ln ls false) (hL : LibW W) :
    Calls Tryz.prog 45 #[.pointer (some ⟨b, 0, none⟩)] W (RrP b gL Ln PathV PathZ W (Fm.rdPath ls)) := path45_gen W b gL Ln ls false h hL
end Go.Proofs.Ng
