/-
  Texts put together: Te Ch.
-/
import Derived.Test.YthcmkpcefiiiaaaGreatDoorZFormatCanonicalCard11
import Derived.Laws.CopyRow
import Derived.Test.YthcmkpcefiiiaaaGreatDoorZFormatCanonicalCard8
import Derived.Defers
import Derived.Recover
set_option linter.unusedVariables false
section
/-
 Walks: a box is halved (the code's way).
-/
namespace Go.Proofs.Ng
open Go.RowKit
/-- copy of elements of two cells over a whole row. -/
theorem run_copy_two {P : Program} (w : World) (dT sT ty elem : TypeId) (g n dCap : Nat) (a : Addr) (sCap : Nat) (cur : Array Value) (t : TypeId) (cs : List Value)
  (hu : P.underlying dT = some (.slice elem)) (hs : (P.info? elem).map (·.size) = some 2)
  (hg : w.heap[g]? = some (.cells cur t (0, 0))) (hn : cs.length = n * 2) (hcur : cur.size = n * 2)
  (hsrc : ∀ j v, cs[j]? = some v → w.cell? (a.add j) = some v) (h1 : ∀ v ∈ cs, v.oneCell' = true) :
  (Builtin.copy_ #[dT, sT] ty #[.slice (some ⟨g, 0, none⟩) n dCap, .slice (some a) n sCap]).run P w = .ok (goInt n) (w.setRow g cs.toArray) := by
 have hl := run_loadCells_list (P := P) w a cs hsrc
 have hst := run_storeCells_at P g 0 t cs 0 cur w hg (by omega) h1
 cases hq : P.info? elem with
 | none => simp [hq] at hs
 | some i =>
  have hi : i.size = 2 := by simpa [hq] using hs
  have e1 : (cur.toList.take 0 ++ cs ++ cur.toList.drop (0 + 0 + cs.length)) = cs := by
   rw [List.take_zero, List.nil_append, List.drop_eq_nil_of_le (by simp; omega), List.append_nil]
  rw [show (0 : Nat) + 0 = 0 from rfl] at hst e1
  rw [e1] at hst
  simp [Builtin.copy_, run_underlying hu, Builtin.lenOf, Builtin.firstCells, sizeOf, typeInfo, hq, hi, ← hn, hl, hst]
theorem wpList_copy_two {P : Program} {w : World} {ops : Array Oper} {rest : List Oper} {o : Oper} {a : Act} {Q : Exit → Act → World → Prop} (hgd : o.guard = none) (d s : Operand) (dT sT : TypeId)
  (ho : o.op = .call { callee := .builtin .copy, args := #[d, s], argTypes := #[dT, sT] }) (elem : TypeId) (hu : P.underlying dT = some (.slice elem)) (hsz : (P.info? elem).map (·.size) = some 2)
  (g n dCap : Nat) (ad : Addr) (sCap : Nat) (hd : a.eval d = .slice (some ⟨g, 0, none⟩) n dCap) (hs : a.eval s = .slice (some ad) n sCap)
  (cur : Array Value) (t : TypeId) (hg : w.heap[g]? = some (.cells cur t (0, 0))) (cs : List Value) (hn : cs.length = n * 2) (hcur : cur.size = n * 2)
  (hsrc : ∀ j v, cs[j]? = some v → w.cell? (ad.add j) = some v) (h1 : ∀ v ∈ cs, v.oneCell' = true)
  (h : ∀ w', w'.heap[g]? = some (.cells cs.toArray t (0, 0)) → (∀ k, k ≠ g → w'.heap[k]? = w.heap[k]?) → (∀ B, B ≤ g → Below B w w') → wpList P ops Q rest (a.put o.dst (goInt n)) w') : wpList P ops Q (o :: rest) a w := by
 refine wpList_plain hgd fun K hK => ?_
 have hrun := run_copy_two (P := P) w dT sT o.type elem g n dCap ad sCap cur t cs hu hsz hg hn hcur hsrc h1
 unfold Oper.wp
 simp [execOp, ho, resolve, invoke, builtin, hd, hs, hrun, Result.andThen]
 exact hK _ _ (h _ (setRow_heap w g cur _ t _ hg) (fun k hk => setRow_other w g k _ hk) (fun B hB => ⟨rfl, rfl, rfl, by simp [World.setRow], fun k hk => setRow_other w g k _ (by omega)⟩))
theorem run_make33 (n : Nat) (hn : n ≤ 1000000) : ∃ C : Array Value, C.size = n * 2 ∧ ∀ u, (Instr.makeSlice 33 (.int .i64 (n : Nat)) (.int .i64 (n : Nat))).run Tryz.prog u = .ok (.slice (some ⟨u.heap.size, 0, none⟩) n n) (u.alloc (.cells C 79)) := by
 obtain ⟨i, hi, hz, hs, hb⟩ := info_parts info79
 refine ⟨madeCells (Value.agg #[.int .i64 0, .int .i64 0]).cells (n * 2), size_madeCells _ _, fun u => ?_⟩
 have := run_makeSlice (P := Tryz.prog) u 33 79 i (.agg #[.int .i64 0, .int .i64 0]) under33 hi hz .i64 .i64 n n (by omega) (Int.le_refl _) (by rw [hs]; simp; omega) (by rw [hb]; simp; omega) (by omega)
 rw [hs] at this
 simpa using this
theorem own_full {W : World} {base g n : Nat} {cs : List Value} (h : W.heap[g]? = some (.cells cs.toArray 79 (0, 0))) (hb : base ≤ g) (hl : cs.length = n * 2) (hm : n ≤ 1000000) : W.ownsRow base 79 2 (.slice (some ⟨g, 0, none⟩) n n) n cs :=
 ⟨by rw [hl], .inr ⟨g, n, cs.toArray, rfl, hb, h, Nat.le_refl _, by unfold maxLen; omega, by simp [hl], by rw [show cs.toArray.toList = cs from rfl, List.take_of_length_le (by omega)]⟩⟩
theorem size79 : (Tryz.prog.info? 79).map (·.size) = some 2 := by kernel_rfl
theorem two_newT (W : World) (C : Array Value) (ty : TypeId) : ∃ p q, p = W.heap.size ∧ q = W.heap.size + 1 ∧ ((W.alloc (.cells C ty)).alloc (.cells C ty)).drew.heap[p]? = some (.cells C ty (0, 0)) ∧ ((W.alloc (.cells C ty)).alloc (.cells C ty)).drew.heap[q]? = some (.cells C ty (0, 0)) ∧ Below W.heap.size W ((W.alloc (.cells C ty)).alloc (.cells C ty)).drew ∧ q < ((W.alloc (.cells C ty)).alloc (.cells C ty)).drew.heap.size := by
 refine ⟨_, _, rfl, rfl, ?_, ?_, ?_, ?_⟩
 ·show ((W.heap.push _).push _)[W.heap.size]? = _
  rw [Array.getElem?_push_lt (by simp)]
  simp
 ·show ((W.heap.push _).push _)[W.heap.size + 1]? = _
  have : W.heap.size + 1 = (W.heap.push (.cells C ty (0, 0))).size := by simp
  rw [this]
  exact Array.getElem?_push_size
 ·exact (((Below.refl _ _).alloc (Nat.le_refl _) _).alloc (by simp) _).drew
 ·show W.heap.size + 1 < ((W.heap.push _).push _).size
  simp
set_option maxRecDepth 100000 in
set_option maxHeartbeats 8000000 in
theorem halve104 (w0 : World) (o : Option Addr) (cap : Nat) (b : Fm.BoxD) (j : Int) (h : Sl w0 o 2 (ivs b)) (hn : b.length ≤ 1000000) : Calls Tryz.prog 104 #[.slice o b.length cap, .int .i64 j] w0 (HalvP b j w0) := by
 by_cases hj : j < 0
 ·have E := Lib.hid (halve_b (b := b) (j := j) (by omega))
  clear h
  go_enter Tryz.func104, Tryz.ntmps104
  go_wp2
  refine bodyPost_ret (v := .tuple #[.slice none 0 0, .slice none 0 0, .bool false]) (by simp [results, Tryz.results104, go_sem]) rfl ?_
  exact HalvP.no E.out (Below.refl _ _)
 ·by_cases hj2 : (b.length : Int) ≤ j
  ·have E := Lib.hid (halve_b (b := b) (j := j) (by omega))
   have hj0 : decide (j < 0) = false := decide_eq_false hj
   have hj1 : decide ((b.length : Int) ≤ j) = true := decide_eq_true hj2
   clear h hj hj2
   go_enter Tryz.func104, Tryz.ntmps104
   go_wp2
   refine bodyPost_ret (v := .tuple #[.slice none 0 0, .slice none 0 0, .bool false]) (by simp [results, Tryz.results104, go_sem]) rfl ?_
   exact HalvP.no E.out (Below.refl _ _)
  ·obtain ⟨kk, rfl⟩ : ∃ kk : Nat, j = (kk : Nat) := ⟨j.toNat, by omega⟩
   have hkl : kk < b.length := by omega
   have hj0 : decide ((kk : Int) < 0) = false := decide_eq_false hj
   have hj1 : decide ((b.length : Int) ≤ (kk : Int)) = false := decide_eq_false hj2
   have HV := Lib.hid (valid118 w0 o cap b h (by omega))
   by_cases hv : b.all Fm.validI = false
   ·have E := Lib.hid (halve_a (j := kk) hv)
    rw [hv] at HV
    clear hv h hj hj2
    go_enter Tryz.func104, Tryz.ntmps104
    go_wp2_with fail
    refine HV.out.mono ?_
    rintro e W1 ⟨rfl, hw⟩
    go_wp2
    refine bodyPost_ret (v := .tuple #[.slice none 0 0, .slice none 0 0, .bool false]) (by simp [results, Tryz.results104, go_sem]) rfl ?_
    exact HalvP.no E.out hw
   ·replace hv : b.all Fm.validI = true := by simpa using hv
    rw [hv] at HV
    obtain ⟨⟨lo, hi⟩, hk⟩ : ∃ v, b[kk]? = some v := ⟨_, List.getElem?_eq_getElem hkl⟩
    obtain ⟨g, off, rfl, hr⟩ := h (by intro e; rw [← List.length_eq_zero_iff, ivs_len] at e; omega)
    have HXA := Lib.hid (fun X (hX : Below w0.heap.size w0 X) => (show X.cell? ⟨g, off + kk * 2, none⟩ = some (.int .i64 lo) ∧ X.cell? ⟨g, off + kk * 2 + 1, none⟩ = some (.int .i64 hi) ∧ g < X.heap.size from by
     have hr2 := hr.keep hX
     have hq : (ivs b)[kk]? = some (iv2 (lo, hi)) := by simp [ivs, hk]
     exact ⟨hr2.c kk _ hq 0 _ rfl, hr2.c kk _ hq 1 _ rfl, hr2.lt⟩))
    have HWD := Lib.hid (fun X => width119 lo hi X (all_at hv hk))
    by_cases hw2 : hi - lo < 2
    ·have E := Lib.hid (halve_d hk (by show ¬ 2 ≤ hi - lo; omega))
     have hd2 : decide (hi - lo < 2) = true := decide_eq_true hw2
     clear hv hj hj2 hw2 hr hk
     go_enter Tryz.func104, Tryz.ntmps104
     go_wp2_with fail
     refine HV.out.mono ?_
     rintro e W1 ⟨rfl, hw⟩
     obtain ⟨x0, x1, gl⟩ := HXA.out W1 hw
     go_wp2_with fail
     refine (HWD.out _).mono ?_
     rintro e W2 ⟨rfl, hw2⟩
     have hb2 := hw.trans (hw2.mono hw.size)
     clear hw2
     go_wp2
     refine bodyPost_ret (v := .tuple #[.slice none 0 0, .slice none 0 0, .bool false]) (by simp [results, Tryz.results104, go_sem]) rfl ?_
     exact HalvP.no E.out hb2
    ·have E : Hid (Fm.halve b (kk : Nat) = some (b.set kk (lo, (lo + hi) / 2), b.set kk ((lo + hi) / 2, hi))) := Lib.hid (halve_e hk (by show 2 ≤ hi - lo; omega) hv)
     have hd2 : decide (hi - lo < 2) = false := decide_eq_false hw2
     have HMID := Lib.hid (fun X => mid120 lo hi X (all_at hv hk))
     have HR := Lib.hid hr
     have HK := Lib.hid hk
     clear hv hj hj2 hw2 hr hk
     generalize hbn : b.length = n at HV hn hj1 hkl ⊢
     have HBN := Lib.hid hbn
     clear hbn
     obtain ⟨C, hC, hmk⟩ := run_make33 n hn
     have HC := Lib.hid hC
     clear hC
     go_enter Tryz.func104, Tryz.ntmps104
     go_wp2_with fail
     refine HV.out.mono ?_
     rintro e W1 ⟨rfl, hw⟩
     obtain ⟨x0, x1, gl⟩ := HXA.out W1 hw
     go_wp2_with fail
     refine (HWD.out _).mono ?_
     rintro e W2 ⟨rfl, hw2⟩
     have hb2 := hw.trans (hw2.mono hw.size)
     clear hw2 x0 x1 gl hw HV HWD
     obtain ⟨x0, x1, gl⟩ := HXA.out W2 hb2
     go_wp2_with fail
     refine (HMID.out _).mono ?_
     rintro e W3 ⟨rfl, hw3⟩
     have hb3 := hb2.trans (hw3.mono hb2.size)
     clear hw3 x0 x1 gl hb2 HMID HXA
     generalize (lo + hi) / 2 = mid at E ⊢
     have HB3 := Lib.hid hb3
     have hs3 := hb3.size
     clear hb3
     go_upto_region 4 with fail
     go_region
     ·obtain ⟨gp, gq, e1, e2, hA0, hB0, hX, hlt⟩ := two_newT W3 C 79
      rw [← e2, ← e1]
      generalize ((W3.alloc (.cells C 79)).alloc (.cells C 79)).drew = X5 at hA0 hB0 hX hlt ⊢
      have hpq : gp < gq := by omega
      have hp0 : w0.heap.size ≤ gp := by omega
      clear e1 e2 hmk
      have hb5 : Below w0.heap.size w0 X5 := HB3.out.trans (hX.mono hs3)
      have HB5 := Lib.hid hb5
      clear hX hb5
      go_wp2_with (with_reducible refine wpList_copy_two rfl (.tmp 42) (.tmp 43) 33 33 rfl 79 under33 size79 gp n n ⟨g, off, none⟩ cap rfl rfl C 79 ?c0 (ivs b).flatten ?c1 HC.out ?c2 (ivs_cell b) ?_)
      case c0 => assumption
      case c1 => rw [ivs_flen, HBN.out]
      case c2 => exact iv_addr (HR.out.keep HB5.out)
      intro X6 hA6 ho6 hb6
      have hB6 : X6.heap[gq]? = some (.cells C 79 (0, 0)) := (ho6 _ (by omega)).trans (by assumption)
      have HB6 := Lib.hid (HB5.out.trans (hb6 _ (by omega : w0.heap.size ≤ gp)))
      have HA6 := Lib.hid hA6
      clear hA0 hB0 ho6 hb6 hA6
      go_wp2_with (with_reducible refine wpList_copy_two rfl (.tmp 45) (.tmp 46) 33 33 rfl 79 under33 size79 gq n n ⟨g, off, none⟩ cap rfl rfl C 79 ?c0 (ivs b).flatten ?c1 HC.out ?c2 (ivs_cell b) ?_)
      case c0 => exact hB6
      case c1 => rw [ivs_flen, HBN.out]
      case c2 => exact iv_addr (HR.out.keep HB6.out)
      intro W4 hB7 ho7 hb7
      have hA7 := (ho7 gp (by omega)).trans HA6.out
      have HB4 := Lib.hid (HB6.out.trans (hb7 _ (by omega : w0.heap.size ≤ gq)))
      have hfl : (ivs b).flatten.length = n * 2 := by rw [ivs_flen, HBN.out]
      have HO1' := Lib.hid (own_full hA7 (by omega : w0.heap.size ≤ gp) hfl hn)
      have HO2 := Lib.hid (own_full hB7 (by omega : w0.heap.size ≤ gq) hfl hn)
      clear hB6 ho7 hb7 hB7 hA7 HA6
      have hne : ¬ gq = gp := by omega
      have hne' : ¬ gp = gq := by omega
      obtain ⟨u1, hu1⟩ : ∃ u, (ivs b).flatten[kk * 2 + 1]? = some u := ⟨_, List.getElem?_eq_getElem (by omega)⟩
      obtain ⟨u2, hu2⟩ : ∃ u, (ivs b).flatten[kk * 2]? = some u := ⟨_, List.getElem?_eq_getElem (by omega)⟩
      have c1 := own_at HO1'.out _ _ hu1
      have c2 := own_at HO2.out _ _ hu2
      have f1 := own_frozen HO1'.out (by omega) (kk * 2 + 1)
      have f2 := own_frozen HO2.out (by omega) (kk * 2)
      have l1 := (own_lt HO1'.out gp rfl).1
      have l2 := (own_lt HO2.out gq rfl).1
      have r1 := own_set1 HO1'.out (kk * 2 + 1) (by omega) (.int .i64 mid)
      have r1' := own_blk (W' := (W4.setCell ⟨gp, kk * 2 + 1, none⟩ (.int .i64 mid)).setCell ⟨gq, kk * 2, none⟩ (.int .i64 mid)) r1 (fun k hk _ _ => by injection hk with hk; subst hk; exact Below.heap_setCell _ ⟨gq, kk * 2, none⟩ _ _ hne')
      have r2 := own_blk (W' := W4.setCell ⟨gp, kk * 2 + 1, none⟩ (.int .i64 mid)) HO2.out (fun k hk _ _ => by injection hk with hk; subst hk; exact Below.heap_setCell _ ⟨gp, kk * 2 + 1, none⟩ _ _ hne)
      have r2' := own_set1 r2 (kk * 2) (by omega) (.int .i64 mid)
      rw [← ivs_set1 (v := (lo, hi)) mid HK.out] at r1'
      rw [← ivs_set0 (v := (lo, hi)) mid HK.out] at r2'
      have hb9 : Below w0.heap.size w0 ((W4.setCell ⟨gp, kk * 2 + 1, none⟩ (.int .i64 mid)).setCell ⟨gq, kk * 2, none⟩ (.int .i64 mid)) := by
       refine HB4.out.trans ⟨rfl, rfl, rfl, by simp [World.setCell], fun k hk => ?_⟩
       rw [Below.heap_setCell _ ⟨gq, kk * 2, none⟩ _ _ (by show k ≠ gq; omega), Below.heap_setCell _ ⟨gp, kk * 2 + 1, none⟩ _ _ (by show k ≠ gp; omega)]
      have R1 := Lib.hid r1'
      have R2 := Lib.hid r2'
      have HB9 := Lib.hid hb9
      clear r1 r1' r2 r2' hb9 hu1 hu2 hfl
      go_wp2
      refine bodyPost_ret (v := .tuple #[.slice (some ⟨gp, 0, none⟩) n n, .slice (some ⟨gq, 0, none⟩) n n, .bool true]) (by simp [results, Tryz.results104, go_sem]) rfl ?_
      exact HalvP.yes E.out HBN.out (by rw [List.length_set, HBN.out]) (by rw [List.length_set, HBN.out]) R1.out R2.out (Nat.le_refl _) (Nat.le_refl _) HB9.out
     ·obtain ⟨gp, gq, e1, e2, hA0, hB0, hX, hlt⟩ := two_newT W3 C 79
      rw [← e2, ← e1]
      generalize ((W3.alloc (.cells C 79)).alloc (.cells C 79)).drew = X5 at hA0 hB0 hX hlt ⊢
      have hpq : gp < gq := by omega
      have hp0 : w0.heap.size ≤ gp := by omega
      clear e1 e2 hmk
      have hb5 : Below w0.heap.size w0 X5 := HB3.out.trans (hX.mono hs3)
      have HB5 := Lib.hid hb5
      clear hX hb5
      go_wp2_with (with_reducible refine wpList_copy_two rfl (.tmp 42) (.tmp 43) 33 33 rfl 79 under33 size79 gq n n ⟨g, off, none⟩ cap rfl rfl C 79 ?c0 (ivs b).flatten ?c1 HC.out ?c2 (ivs_cell b) ?_)
      case c0 => assumption
      case c1 => rw [ivs_flen, HBN.out]
      case c2 => exact iv_addr (HR.out.keep HB5.out)
      intro X6 hA6 ho6 hb6
      have hB6 : X6.heap[gp]? = some (.cells C 79 (0, 0)) := (ho6 _ (by omega)).trans (by assumption)
      have HB6 := Lib.hid (HB5.out.trans (hb6 _ (by omega : w0.heap.size ≤ gq)))
      have HA6 := Lib.hid hA6
      clear hA0 hB0 ho6 hb6 hA6
      go_wp2_with (with_reducible refine wpList_copy_two rfl (.tmp 45) (.tmp 46) 33 33 rfl 79 under33 size79 gp n n ⟨g, off, none⟩ cap rfl rfl C 79 ?c0 (ivs b).flatten ?c1 HC.out ?c2 (ivs_cell b) ?_)
      case c0 => exact hB6
      case c1 => rw [ivs_flen, HBN.out]
      case c2 => exact iv_addr (HR.out.keep HB6.out)
      intro W4 hB7 ho7 hb7
      have hA7 := (ho7 gq (by omega)).trans HA6.out
      have HB4 := Lib.hid (HB6.out.trans (hb7 _ (by omega : w0.heap.size ≤ gp)))
      have hfl : (ivs b).flatten.length = n * 2 := by rw [ivs_flen, HBN.out]
      have HO1' := Lib.hid (own_full hA7 (by omega : w0.heap.size ≤ gq) hfl hn)
      have HO2 := Lib.hid (own_full hB7 (by omega : w0.heap.size ≤ gp) hfl hn)
      clear hB6 ho7 hb7 hB7 hA7 HA6
      have hne : ¬ gp = gq := by omega
      have hne' : ¬ gq = gp := by omega
      obtain ⟨u1, hu1⟩ : ∃ u, (ivs b).flatten[kk * 2 + 1]? = some u := ⟨_, List.getElem?_eq_getElem (by omega)⟩
      obtain ⟨u2, hu2⟩ : ∃ u, (ivs b).flatten[kk * 2]? = some u := ⟨_, List.getElem?_eq_getElem (by omega)⟩
      have c1 := own_at HO1'.out _ _ hu1
      have c2 := own_at HO2.out _ _ hu2
      have f1 := own_frozen HO1'.out (by omega) (kk * 2 + 1)
      have f2 := own_frozen HO2.out (by omega) (kk * 2)
      have l1 := (own_lt HO1'.out gq rfl).1
      have l2 := (own_lt HO2.out gp rfl).1
      have r1 := own_set1 HO1'.out (kk * 2 + 1) (by omega) (.int .i64 mid)
      have r1' := own_blk (W' := (W4.setCell ⟨gq, kk * 2 + 1, none⟩ (.int .i64 mid)).setCell ⟨gp, kk * 2, none⟩ (.int .i64 mid)) r1 (fun k hk _ _ => by injection hk with hk; subst hk; exact Below.heap_setCell _ ⟨gp, kk * 2, none⟩ _ _ hne')
      have r2 := own_blk (W' := W4.setCell ⟨gq, kk * 2 + 1, none⟩ (.int .i64 mid)) HO2.out (fun k hk _ _ => by injection hk with hk; subst hk; exact Below.heap_setCell _ ⟨gq, kk * 2 + 1, none⟩ _ _ hne)
      have r2' := own_set1 r2 (kk * 2) (by omega) (.int .i64 mid)
      rw [← ivs_set1 (v := (lo, hi)) mid HK.out] at r1'
      rw [← ivs_set0 (v := (lo, hi)) mid HK.out] at r2'
      have hb9 : Below w0.heap.size w0 ((W4.setCell ⟨gq, kk * 2 + 1, none⟩ (.int .i64 mid)).setCell ⟨gp, kk * 2, none⟩ (.int .i64 mid)) := by
       refine HB4.out.trans ⟨rfl, rfl, rfl, by simp [World.setCell], fun k hk => ?_⟩
       rw [Below.heap_setCell _ ⟨gp, kk * 2, none⟩ _ _ (by show k ≠ gp; omega), Below.heap_setCell _ ⟨gq, kk * 2 + 1, none⟩ _ _ (by show k ≠ gq; omega)]
      have R1 := Lib.hid r1'
      have R2 := Lib.hid r2'
      have HB9 := Lib.hid hb9
      clear r1 r1' r2 r2' hb9 hu1 hu2 hfl
      go_wp2
      refine bodyPost_ret (v := .tuple #[.slice (some ⟨gq, 0, none⟩) n n, .slice (some ⟨gp, 0, none⟩) n n, .bool true]) (by simp [results, Tryz.results104, go_sem]) rfl ?_
      exact HalvP.yes E.out HBN.out (by rw [List.length_set, HBN.out]) (by rw [List.length_set, HBN.out]) R1.out R2.out (Nat.le_refl _) (Nat.le_refl _) HB9.out
end Go.Proofs.Ng
end

section
/-
 Walks: ParsePath.
-/
namespace Go.Proofs.Ng
open Go.RowKit
/-- The first error of a text that should be of a kind. -/
def openN (s : List UInt8) (k : Nat) : Int := if 1048576 < s.length then 4301 else if kindN s = k then 0 else 4302
set_option maxRecDepth 100000 in
set_option maxHeartbeats 2000000 in
theorem opening37 (s : ByteArray) (k : Nat) (W : World) (hs : s.size ≤ 9223372036854775807) : Calls Tryz.prog 39 #[.string s, .int .i64 (k : Nat)] W (fun e W' => e = .returned (.int .i64 (openN s.data.toList k)) ∧ W' = W) := by
 have hsz : s.data.toList.length = s.size := by rw [Array.length_toList]; rfl
 unfold openN
 rw [hsz]
 have HK := Lib.hid (kind11 s W)
 clear hsz
 by_cases h1 : 1048576 < s.size
 ·rw [if_pos h1]
  have hd : decide ((1048576 : Int) < (s.size : Int)) = true := decide_eq_true (by omega)
  go_enter Tryz.func39, Tryz.ntmps39
  go_wp2
  go_ret
  exact ⟨rfl, rfl⟩
 ·rw [if_neg h1]
  have hd : decide ((1048576 : Int) < (s.size : Int)) = false := decide_eq_false (by omega)
  by_cases h2 : kindN s.data.toList = k
  ·rw [if_pos h2]
   rw [h2] at HK
   have hq : ((k : Int) != (k : Int)) = false := by simp
   clear h2
   go_enter Tryz.func39, Tryz.ntmps39
   go_wp2_with fail
   refine HK.out.mono ?_
   rintro e X ⟨rfl, hX⟩
   subst hX
   go_wp2
   go_ret
   exact ⟨rfl, rfl⟩
  ·rw [if_neg h2]
   have hq : ((kindN s.data.toList : Int) != (k : Int)) = true := by simp; omega
   generalize kindN s.data.toList = j at HK hq
   clear h2
   go_enter Tryz.func39, Tryz.ntmps39
   go_wp2_with fail
   refine HK.out.mono ?_
   rintro e X ⟨rfl, hX⟩
   subst hX
   go_wp2
   go_ret
   exact ⟨rfl, rfl⟩
theorem catch38_idle (p q : Addr) (w : World) :
  CallsD Tryz.prog 40 #[.pointer (some p), .pointer (some q)] .returning w fun e u' w' => e = .returned (.tuple #[]) ∧ u' = .returning ∧ w' = w := by
 refine callsD_of_wpS Tryz.func40 rfl fun c₀ cs hu => ?_
 apply wpS_seq
 apply wpS_region
 simp [wpOpsS, go_sem, recoverD, hu, Tryz.ntmps40, Exit.thenS]
 refine wpS_cond (t := false) (by simp [Act.eval, Array.replicate]) ?_
 simp only [Bool.false_eq_true, if_false]
 refine wpS_of_wp (wp_skip ?_)
 cases c₀
 simp_all [bodyPostS, results, Tryz.results40]
theorem Bx.other {W : World} {n b : Nat} {cs : List Value} {ty : TypeId} (h : Bx W n cs ty) (hne : n ≠ b) (i : Nat) (v : Value) : Bx (W.setCell ⟨b, i, none⟩ v) n cs ty := ⟨(Below.heap_setCell W ⟨b, i, none⟩ v n hne).trans h.h⟩
set_option maxRecDepth 100000 in
set_option maxHeartbeats 2000000 in
theorem catch38_panic (b2 b3 : Nat) (x y : Value) (n : Int) (older : List PanicEntry) (w : World) (h2 : Bx w b2 [x, y] 29) (h3 : Bx w b3 [.int .i64 n] 23) (hne : b3 ≠ b2) :
  CallsD Tryz.prog 40 #[.pointer (some ⟨b2, 0, none⟩), .pointer (some ⟨b3, 0, none⟩)] (.panicking ({ v := .iface 133 (.agg #[]), recovered := false } :: older)) w fun e u' w' =>
   e = .returned (.tuple #[]) ∧ u' = .panicking ({ v := .iface 133 (.agg #[]), recovered := true } :: older) ∧ w' = ((w.setCell ⟨b2, 0, none⟩ (.slice none 0 0)).setCell ⟨b2, 1, none⟩ (.slice none 0 0)).setCell ⟨b3, 0, none⟩ (.int .i64 4301) := by
 have c0 := h2.c 0 _ rfl
 have c1 := h2.c 1 _ rfl
 have f0 := h2.f 0
 have f1 := h2.f 1
 have l2 := h2.lt
 have hA := h2.put1 (.slice none 0 0)
 have c1A := hA.c 1 _ rfl
 have f1A := hA.f 1
 have h3B : Bx ((w.setCell ⟨b2, 0, none⟩ (.slice none 0 0)).setCell ⟨b2, 1, none⟩ (.slice none 0 0)) b3 [.int .i64 n] 23 := (h3.other hne 0 _).other hne 1 _
 have d0B := h3B.c 0 _ rfl
 have e0B := h3B.f 0
 refine callsD_of_wpS Tryz.func40 rfl fun c₀ cs hu => ?_
 apply wpS_seq
 apply wpS_region
 simp [wpOpsS, go_sem, recoverD, hu, Tryz.ntmps40, Exit.thenS]
 refine wpS_cond (t := true) (by simp [Act.eval, Array.replicate]) ?_
 simp only [if_true]
 apply wpS_region
 simp [wpOpsS, go_sem, c0, c1, f0, f1, l2, c1A, f1A, d0B, e0B, bodyPostS, results, Tryz.results40]
/-- What the code's reader answers: the path and the error. -/
def parseRes (s : List UInt8) : Fm.PathD × Int := if 1048576 < s.length then (⟨[], []⟩, 4301) else if kindN s = 1 then (match Fm.parseP s with | some p => (p, 0) | none => (⟨[], []⟩, 4301)) else (⟨[], []⟩, 4302)
/-- A value and an error. -/
def ParP {A : Type} (V : Value → A → World → Prop) (x : A × Int) (W : World) (e : Ending) (W' : World) : Prop := ∃ v, e = .returned (.tuple #[v, .int .i64 x.2]) ∧ New W.heap.size W' (V v x.1) ∧ Below W.heap.size W W'
theorem pathV_nil (W : World) : PathV (.agg #[.slice none 0 0, .slice none 0 0]) ⟨[], []⟩ W := ⟨none, 0, none, 0, rfl, ⟨[], rfl, fun h => absurd rfl h, fun k r x h => by simp at h⟩, ⟨[], rfl, fun h => absurd rfl h, fun k r x h => by simp at h⟩⟩
theorem fin17 {X W : World} {n : Nat} {a c : Value} {code : Int} {res : Fm.PathD × Int} {p : Fm.PathD} (h2 : Bx X n [a, c] 29) (h3 : Bx X (n + 1) [.int .i64 code] 23) (hr : res = (p, code)) (hV : New W.heap.size X (PathV (.agg #[a, c]) p)) (hb : Below W.heap.size W X) :
  X.cell? ⟨n, 0, none⟩ = some a ∧ X.cell? ⟨n, 1, none⟩ = some c ∧ X.cell? ⟨n + 1, 0, none⟩ = some (.int .i64 code) ∧ ParP PathV res W (.returned (.tuple #[.agg #[a, c], .int .i64 code])) X := by
 subst hr
 exact ⟨h2.c 0 _ rfl, h2.c 1 _ rfl, h3.c 0 _ rfl, _, rfl, hV, hb⟩
set_option maxRecDepth 100000 in
set_option maxHeartbeats 8000000 in
theorem parsePath17 (s : ByteArray) (W : World) (hs : s.size ≤ 9223372036854775807) (hL : LibW W) : Calls Tryz.prog 13 #[.string s] W (ParP PathV (parseRes s.data.toList) W) := by
 have hmf : ∀ (fn : Fn) (first cap : Array Value) (w : World), (Instr.makeFunc fn first cap).run Tryz.prog w = .ok (.func fn first cap) w := fun _ _ _ _ => rfl
 generalize hR : parseRes s.data.toList = res
 unfold parseRes at hR
 have hsz : s.data.toList.length = s.size := by rw [Array.length_toList]; rfl
 have hb1 : Below W.heap.size W ((W.alloc (.cells #[.slice none 0 0, .slice none 0 0] 29)).alloc (.cells #[.int .i64 0] 23)) := ((Below.refl _ _).alloc (Nat.le_refl _) _).alloc (by simp) _
 have hz : ((W.alloc (.cells #[.slice none 0 0, .slice none 0 0] 29)).alloc (.cells #[.int .i64 0] 23)).heap.size = W.heap.size + 2 := by simp
 have hsz1 : (W.alloc (.cells #[.slice none 0 0, .slice none 0 0] 29)).heap.size = W.heap.size + 1 := by simp
 have HX2 := Lib.hid ((Bx.new W [.slice none 0 0, .slice none 0 0] 29).keep ((Below.refl _ (W.alloc (.cells #[.slice none 0 0, .slice none 0 0] 29))).alloc (Nat.le_refl _) (.cells #[.int .i64 0] 23)))
 have HX3 := Lib.hid (Bx.new (W.alloc (.cells #[.slice none 0 0, .slice none 0 0] 29)) [.int .i64 0] 23)
 rw [hsz1] at HX3
 have HL := Lib.hid (hL.keep hb1)
 have HB := Lib.hid hb1
 have HZ := Lib.hid hz
 have HS8 : Hid (8 ≤ W.heap.size) := Lib.hid hL.gt
 clear hb1 hz hsz1 hL
 go_enter_defers Tryz.func13, Tryz.ntmps13
 go_wp2_with fail
 generalize ((W.alloc (.cells #[.slice none 0 0, .slice none 0 0] 29)).alloc (.cells #[.int .i64 0] 23)) = W1 at HX2 HX3 HL HB HZ ⊢
 obtain ⟨n2, hn2⟩ : ∃ n, n = W.heap.size := ⟨_, rfl⟩
 have HN2 := Lib.hid hn2
 rw [← hn2] at HX2 HX3 HZ HS8 ⊢
 clear hn2
 refine (opening37 s 1 W1 hs).mono ?_
 rintro e W2 ⟨rfl, hw⟩
 subst hw
 unfold openN
 rw [hsz]
 by_cases h1 : 1048576 < s.size
 ·rw [if_pos h1]
  rw [hsz, if_pos h1] at hR
  have HR := Lib.hid hR
  clear hR h1
  have c0 := HX2.out.c 0 _ rfl
  have c1 := HX2.out.c 1 _ rfl
  have f0 := HX2.out.f 0
  have f1 := HX2.out.f 1
  have l2 := HX2.out.lt
  have hA := HX2.out.put1 (.slice none 0 0)
  have c1A := hA.c 1 _ rfl
  have f1A := hA.f 1
  have hne : n2 + 1 ≠ n2 := by omega
  have h3B := (HX3.out.other hne 0 (.slice none 0 0)).other hne 1 (.slice none 0 0)
  have d0B := h3B.c 0 _ rfl
  have e0B := h3B.f 0
  clear hA h3B
  go_wp2
  have HF := Lib.hid (fin17 (X := ((W2.setCell ⟨n2, 0, none⟩ (.slice none 0 0)).setCell ⟨n2, 1, none⟩ (.slice none 0 0)).setCell ⟨n2 + 1, 0, none⟩ (.int .i64 4301)) (n := n2) (W := W) (res := res) (p := ⟨[], []⟩) (code := 4301) ((((HX2.out.put1 _).put2 _).other (by omega) 0 _)) (((HX3.out.other hne 0 _).other hne 1 _).put _) HR.out.symm (fun X _ => pathV_nil X) (((HB.out.setCell (p := ⟨n2, 0, none⟩) (Nat.le_of_eq HN2.out.symm) _).setCell (p := ⟨n2, 1, none⟩) (Nat.le_of_eq HN2.out.symm) _).setCell (p := ⟨n2 + 1, 0, none⟩) (by have := HN2.out; show W.heap.size ≤ n2 + 1; omega) _))
  clear c0 c1 f0 f1 l2 c1A f1A d0B e0B
  generalize ((W2.setCell ⟨n2, 0, none⟩ (.slice none 0 0)).setCell ⟨n2, 1, none⟩ (.slice none 0 0)).setCell ⟨n2 + 1, 0, none⟩ (.int .i64 4301) = X at HF ⊢
  obtain ⟨c0, c1, d0, hP⟩ := HF.out
  simp [bodyPostD, Leaves, settle, results, Tryz.results13, go_sem, c0, c1, d0]
  exact hP
 ·rw [if_neg h1]
  rw [hsz, if_neg h1] at hR
  by_cases hk : kindN s.data.toList = 1
  ·rw [if_pos hk]
   rw [if_pos hk, Fm.parseP_R] at hR
   have HR := Lib.hid hR
   clear hR hk
   have hb5 : Below W2.heap.size W2 (W2.alloc (.cells #[.string s] 96)) := (Below.refl _ _).alloc (Nat.le_refl _) _
   have HS : Hid (RdS (W2.alloc (.cells #[.string s] 96)) W2.heap.size (Fm.linesT s.data.toList).1 (Fm.linesT s.data.toList).2) := Lib.hid ⟨⟨s, Bx.new W2 [.string s] 96, rfl, by omega⟩, by have := HZ.out; have := HS8.out; omega⟩
   have HX25 := Lib.hid (HX2.out.keep hb5)
   have HX35 := Lib.hid (HX3.out.keep hb5)
   have HL5 := Lib.hid (HL.out.keep hb5)
   have HB5 := Lib.hid (below_call HB.out hb5)
   clear hb5
   go_wp2_with fail
   have hbn : n2 + 2 ≤ W2.heap.size := by have := HZ.out; omega
   generalize W2.alloc (.cells #[.string s] 96) = W3 at HS HX25 HX35 HL5 HB5 ⊢
   generalize W2.heap.size = b at HS hbn ⊢
   have HC := Lib.hid (path39 W3 b _ _ HS.out HL5.out)
   refine HC.out.mono ?_
   rintro e W4 h4
   cases hq : Fm.rdPathR (Fm.linesT s.data.toList).1 with
   | none =>
    rw [hq] at h4
    have HRN : Hid (res = (⟨[], []⟩, 4301)) := Lib.hid (by rw [← HR.out, hq])
    obtain ⟨rfl, hG⟩ := h4.no
    have hx2 := HX25.out.grown hG (by omega)
    have hx3 := HX35.out.grown hG (by omega)
    have HB6 : Hid (Below W.heap.size W W4) := Lib.hid (HB5.out.trans ⟨hG.os, hG.tape, hG.output, hG.size, fun k hk => hG.block k (Nat.lt_of_lt_of_le hk HB5.out.size) (fun e => by have := HN2.out; injection e with e; omega)⟩)
    clear h4 hG HC hq
    unfold malP
    go_wp2
    refine leaves_cons (f := 40) (args := #[.pointer (some ⟨n2, 0, none⟩), .pointer (some ⟨n2 + 1, 0, none⟩)]) (by simp) (by simp [go_sem]) ?_
    refine (catch38_panic n2 (n2 + 1) _ _ _ [] W4 hx2 hx3 (by omega)).mono ?_
    rintro e u' w'' ⟨rfl, rfl, rfl⟩
    have HF := Lib.hid (fin17 (X := ((W4.setCell ⟨n2, 0, none⟩ (.slice none 0 0)).setCell ⟨n2, 1, none⟩ (.slice none 0 0)).setCell ⟨n2 + 1, 0, none⟩ (.int .i64 4301)) (n := n2) (W := W) (res := res) (p := ⟨[], []⟩) (code := 4301) ((((hx2.put1 _).put2 _).other (b := n2 + 1) (by omega) 0 _)) (((hx3.other (b := n2) (by omega) 0 _).other (b := n2) (by omega) 1 _).put _) HRN.out (fun X _ => pathV_nil X) (((HB6.out.setCell (p := ⟨n2, 0, none⟩) (Nat.le_of_eq HN2.out.symm) _).setCell (p := ⟨n2, 1, none⟩) (Nat.le_of_eq HN2.out.symm) _).setCell (p := ⟨n2 + 1, 0, none⟩) (by have := HN2.out; show W.heap.size ≤ n2 + 1; omega) _))
    clear hx2 hx3
    generalize ((W4.setCell ⟨n2, 0, none⟩ (.slice none 0 0)).setCell ⟨n2, 1, none⟩ (.slice none 0 0)).setCell ⟨n2 + 1, 0, none⟩ (.int .i64 4301) = X at HF ⊢
    obtain ⟨c0, c1, d0, hP⟩ := HF.out
    simp [Leaves, settle, results, Tryz.results13, go_sem, c0, c1, d0]
    exact hP
   | some pr =>
    obtain ⟨p, r⟩ := pr
    rw [hq] at h4
    obtain ⟨v, rfl, hN, hS, hG⟩ := h4.yes
    obtain ⟨op, np, oe, ne, rfl, -, -⟩ := hN.now
    have hx2 := HX25.out.grown hG (by omega)
    have hx3 := HX35.out.grown hG (by omega)
    have HB4 : Hid (Below W.heap.size W W4) := Lib.hid (HB5.out.trans ⟨hG.os, hG.tape, hG.output, hG.size, fun k hk => hG.block k (Nat.lt_of_lt_of_le hk HB5.out.size) (fun e => by have := HN2.out; injection e with e; omega)⟩)
    have HNW := Lib.hid hN
    have HLW := Lib.hid (HL5.out.keepG hG (by have := HS8.out; omega))
    have HS4 : Hid (RdS ((W4.setCell ⟨n2, 0, none⟩ (.slice op p.pts.length np)).setCell ⟨n2, 1, none⟩ (.slice oe p.edges.length ne)) b r (Fm.linesT s.data.toList).2) := Lib.hid ((hS.other (n := n2) _ (by omega)).other (n := n2) _ (by omega))
    have HX26 := Lib.hid ((hx2.put1 (.slice op p.pts.length np)).put2 (.slice oe p.edges.length ne))
    have HX36 := Lib.hid ((hx3.other (b := n2) (by omega) 0 (.slice op p.pts.length np)).other (b := n2) (by omega) 1 (.slice oe p.edges.length ne))
    have HW3 := Lib.hid hG.size
    have HBT := Lib.hid HS.out.lt
    have HLE : Hid (n2 + 2 ≤ W3.heap.size) := Lib.hid HX35.out.lt
    have c0 := hx2.c 0 _ rfl
    have c1 := hx2.c 1 _ rfl
    have f0 := hx2.f 0
    have f1 := hx2.f 1
    have l2 := hx2.lt
    have hA := hx2.put1 (.slice op p.pts.length np)
    have c1A := hA.c 1 _ rfl
    have f1A := hA.f 1
    clear h4 hN hS hG HC hx2 hx3 hA
    go_wp2_with fail
    have hbel : Below n2 W4 ((W4.setCell ⟨n2, 0, none⟩ (.slice op p.pts.length np)).setCell ⟨n2, 1, none⟩ (.slice oe p.edges.length ne)) := (((Below.refl _ _).setCell (p := ⟨n2, 0, none⟩) (Nat.le_refl _) _).setCell (p := ⟨n2, 1, none⟩) (Nat.le_refl _) _)
    have hblk : ∀ k, k ≠ n2 → ((W4.setCell ⟨n2, 0, none⟩ (.slice op p.pts.length np)).setCell ⟨n2, 1, none⟩ (.slice oe p.edges.length ne)).heap[k]? = W4.heap[k]? := fun k hk => (Below.heap_setCell _ ⟨n2, 1, none⟩ _ k hk).trans (Below.heap_setCell _ ⟨n2, 0, none⟩ _ k hk)
    have HL6 := Lib.hid (HLW.out.low (hbel.mono HS8.out))
    have HBL := Lib.hid hblk
    have HB6 : Hid (Below W.heap.size W ((W4.setCell ⟨n2, 0, none⟩ (.slice op p.pts.length np)).setCell ⟨n2, 1, none⟩ (.slice oe p.edges.length ne))) := Lib.hid (HB4.out.trans (hbel.mono (Nat.le_of_eq HN2.out.symm)))
    have hsz6 : ((W4.setCell ⟨n2, 0, none⟩ (.slice op p.pts.length np)).setCell ⟨n2, 1, none⟩ (.slice oe p.edges.length ne)).heap.size = W4.heap.size := by simp [World.setCell]
    have HSZ6 := Lib.hid hsz6
    clear hbel hblk c0 c1 f0 f1 l2 c1A f1A hsz6
    generalize ((W4.setCell ⟨n2, 0, none⟩ (.slice op p.pts.length np)).setCell ⟨n2, 1, none⟩ (.slice oe p.edges.length ne)) = W6 at HS4 HX26 HX36 HL6 HBL HB6 HSZ6 ⊢
    refine (finish40 W6 b r _ HS4.out HL6.out).mono ?_
    rintro e W7 ⟨he, hG7⟩
    have hx2 := HX26.out.grown hG7 (by omega)
    have hx3 := HX36.out.grown hG7 (by omega)
    cases hend : Fm.rdEnd r (Fm.linesT s.data.toList).2 with
    | false =>
     rw [hend] at he
     have HRN : Hid (res = (⟨[], []⟩, 4301)) := Lib.hid (by rw [← HR.out, hq]; simp only; rw [hend]; rfl)
     have HB4 := HB6
     have HB6 : Hid (Below W.heap.size W W7) := Lib.hid (HB4.out.trans ⟨hG7.os, hG7.tape, hG7.output, hG7.size, fun k hk => hG7.block k (Nat.lt_of_lt_of_le hk HB4.out.size) (fun e => by have := HN2.out; injection e with e; omega)⟩)
     simp only [Bool.false_eq_true, if_false] at he
     subst he
     clear hG7 hend hq
     unfold malP
     go_wp2
     refine leaves_cons (f := 40) (args := #[.pointer (some ⟨n2, 0, none⟩), .pointer (some ⟨n2 + 1, 0, none⟩)]) (by simp) (by simp [go_sem]) ?_
     refine (catch38_panic n2 (n2 + 1) _ _ _ [] W7 hx2 hx3 (by omega)).mono ?_
     rintro e u' w'' ⟨rfl, rfl, rfl⟩
     have HF := Lib.hid (fin17 (X := ((W7.setCell ⟨n2, 0, none⟩ (.slice none 0 0)).setCell ⟨n2, 1, none⟩ (.slice none 0 0)).setCell ⟨n2 + 1, 0, none⟩ (.int .i64 4301)) (n := n2) (W := W) (res := res) (p := ⟨[], []⟩) (code := 4301) ((((hx2.put1 _).put2 _).other (b := n2 + 1) (by omega) 0 _)) (((hx3.other (b := n2) (by omega) 0 _).other (b := n2) (by omega) 1 _).put _) HRN.out (fun X _ => pathV_nil X) (((HB6.out.setCell (p := ⟨n2, 0, none⟩) (Nat.le_of_eq HN2.out.symm) _).setCell (p := ⟨n2, 1, none⟩) (Nat.le_of_eq HN2.out.symm) _).setCell (p := ⟨n2 + 1, 0, none⟩) (by have := HN2.out; show W.heap.size ≤ n2 + 1; omega) _))
     clear hx2 hx3
     generalize ((W7.setCell ⟨n2, 0, none⟩ (.slice none 0 0)).setCell ⟨n2, 1, none⟩ (.slice none 0 0)).setCell ⟨n2 + 1, 0, none⟩ (.int .i64 4301) = X at HF ⊢
     obtain ⟨c0, c1, d0, hP⟩ := HF.out
     simp [Leaves, settle, results, Tryz.results13, go_sem, c0, c1, d0]
     exact hP
    | true =>
     rw [hend] at he
     simp only [if_true] at he
     subst he
     have HRN : Hid (res = (p, 0)) := Lib.hid (by rw [← HR.out, hq]; simp only; rw [hend]; rfl)
     have HB7 : Hid (Below W.heap.size W W7) := Lib.hid (HB6.out.trans ⟨hG7.os, hG7.tape, hG7.output, hG7.size, fun k hk => hG7.block k (Nat.lt_of_lt_of_le hk HB6.out.size) (fun e => by have := HN2.out; injection e with e; omega)⟩)
     have HN7 : Hid (∀ X : World, (∀ k, k ≠ n2 → k ≠ n2 + 1 → W.heap.size ≤ k → k < W7.heap.size → X.heap[k]? = W7.heap[k]?) → PathV (.agg #[.slice op p.pts.length np, .slice oe p.edges.length ne]) p X) := Lib.hid (fun X hX => HNW.out X fun k hk => by
      have h1 := hk.1; have h2 := hk.2
      have h3 := HLE.out
      have h4 : k < W6.heap.size := by rw [HSZ6.out]; exact h2
      rw [hX k (by omega) (by omega) (by have := HB5.out.size; omega) (Nat.lt_of_lt_of_le h4 hG7.size), hG7.block k h4 (fun e => by have h5 := HBT.out; injection e with e; omega), HBL.out k (by omega)])
     clear hG7 hend hq
     have c0 := hx2.c 0 _ rfl
     have c1 := hx2.c 1 _ rfl
     have f0 := hx2.f 0
     have f1 := hx2.f 1
     have l2 := hx2.lt
     have hA := hx2.put1 (.slice op p.pts.length np)
     have c1A := hA.c 1 _ rfl
     have f1A := hA.f 1
     have hB := (hx3.other (b := n2) (by omega) 0 (.slice op p.pts.length np)).other (b := n2) (by omega) 1 (.slice oe p.edges.length ne)
     have d0 := hB.c 0 _ rfl
     have g0 := hB.f 0
     clear hA hB
     go_wp2
     have HF := Lib.hid (fin17 (X := ((W7.setCell ⟨n2, 0, none⟩ (.slice op p.pts.length np)).setCell ⟨n2, 1, none⟩ (.slice oe p.edges.length ne)).setCell ⟨n2 + 1, 0, none⟩ (.int .i64 0)) (n := n2) (W := W) (res := res) (p := p) (code := 0) ((((hx2.put1 _).put2 _).other (b := n2 + 1) (by omega) 0 _)) (((hx3.other (b := n2) (by omega) 0 _).other (b := n2) (by omega) 1 _).put _) HRN.out (fun X hX => HN7.out X fun k h1 h2 h5 h3 => by
      rw [hX k ⟨h5, by simp [World.setCell]; exact h3⟩]
      exact (Below.heap_setCell _ ⟨n2 + 1, 0, none⟩ _ k h2).trans ((Below.heap_setCell _ ⟨n2, 1, none⟩ _ k h1).trans (Below.heap_setCell _ ⟨n2, 0, none⟩ _ k h1))) (((HB7.out.setCell (p := ⟨n2, 0, none⟩) (Nat.le_of_eq HN2.out.symm) _).setCell (p := ⟨n2, 1, none⟩) (Nat.le_of_eq HN2.out.symm) _).setCell (p := ⟨n2 + 1, 0, none⟩) (by have := HN2.out; show W.heap.size ≤ n2 + 1; omega) _))
     clear hx2 hx3 c0 c1 f0 f1 l2 c1A f1A d0 g0
     generalize ((W7.setCell ⟨n2, 0, none⟩ (.slice op p.pts.length np)).setCell ⟨n2, 1, none⟩ (.slice oe p.edges.length ne)).setCell ⟨n2 + 1, 0, none⟩ (.int .i64 0) = X at HF ⊢
     refine leaves_cons (f := 40) (args := #[.pointer (some ⟨n2, 0, none⟩), .pointer (some ⟨n2 + 1, 0, none⟩)]) (by simp) (by simp [go_sem]) ?_
     refine (catch38_idle ⟨n2, 0, none⟩ ⟨n2 + 1, 0, none⟩ X).mono ?_
     rintro e u' w'' ⟨rfl, rfl, rfl⟩
     obtain ⟨c0, c1, d0, hP⟩ := HF.out
     simp [Leaves, settle, results, Tryz.results13, go_sem, c0, c1, d0]
     exact hP
  ·rw [if_neg hk]
   rw [if_neg hk] at hR
   have HR := Lib.hid hR
   clear hR hk
   have c0 := HX2.out.c 0 _ rfl
   have c1 := HX2.out.c 1 _ rfl
   have f0 := HX2.out.f 0
   have f1 := HX2.out.f 1
   have l2 := HX2.out.lt
   have hA := HX2.out.put1 (.slice none 0 0)
   have c1A := hA.c 1 _ rfl
   have f1A := hA.f 1
   have hne : n2 + 1 ≠ n2 := by omega
   have h3B := (HX3.out.other hne 0 (.slice none 0 0)).other hne 1 (.slice none 0 0)
   have d0B := h3B.c 0 _ rfl
   have e0B := h3B.f 0
   clear hA h3B
   go_wp2
   have HF := Lib.hid (fin17 (X := ((W2.setCell ⟨n2, 0, none⟩ (.slice none 0 0)).setCell ⟨n2, 1, none⟩ (.slice none 0 0)).setCell ⟨n2 + 1, 0, none⟩ (.int .i64 4302)) (n := n2) (W := W) (res := res) (p := ⟨[], []⟩) (code := 4302) ((((HX2.out.put1 _).put2 _).other (by omega) 0 _)) (((HX3.out.other hne 0 _).other hne 1 _).put _) HR.out.symm (fun X _ => pathV_nil X) (((HB.out.setCell (p := ⟨n2, 0, none⟩) (Nat.le_of_eq HN2.out.symm) _).setCell (p := ⟨n2, 1, none⟩) (Nat.le_of_eq HN2.out.symm) _).setCell (p := ⟨n2 + 1, 0, none⟩) (by have := HN2.out; show W.heap.size ≤ n2 + 1; omega) _))
   clear c0 c1 f0 f1 l2 c1A f1A d0B e0B
   generalize ((W2.setCell ⟨n2, 0, none⟩ (.slice none 0 0)).setCell ⟨n2, 1, none⟩ (.slice none 0 0)).setCell ⟨n2 + 1, 0, none⟩ (.int .i64 4302) = X at HF ⊢
   obtain ⟨c0, c1, d0, hP⟩ := HF.out
   simp [bodyPostD, Leaves, settle, results, Tryz.results13, go_sem, c0, c1, d0]
   exact hP
end Go.Proofs.Ng
end

