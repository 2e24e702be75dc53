/-
  Texts put together: Ab Ac Ad.
-/
import Derived.Test.YthcmkpcefiiiaaaGreatDoorZFormatCanonicalCard1
import Derived.Test.YthcmkpcefiiiaaaGreatDoorZFormatCanonicalCard2
import Derived.Lib.OthersKept
import Derived.Lib.AppendStr
set_option linter.unusedVariables false
section
/-
 Walks: the writer's state; full, open, end.
-/
namespace Go.Proofs.Ng
open Go.RowKit
theorem info_parts {P : Program} {t : TypeId} {z : Value} {s b : Nat} (h : (P.info? t).map (fun i => (i.zero, i.size, i.bytes)) = some (some z, s, b)) : ∃ i, P.info? t = some i ∧ i.zero = some z ∧ i.size = s ∧ i.bytes = b := by
 cases hi : P.info? t with
 | none => rw [hi] at h; cases h
 | some i =>
  rw [hi] at h
  simp at h
  exact ⟨i, rfl, h.1, h.2.1, h.2.2⟩
theorem info5 : (Tryz.prog.info? 5).map (fun i => (i.zero, i.size, i.bytes)) = some (some (.int .u8 0), 1, 1) := by kernel_rfl
theorem under72 : Tryz.prog.underlying 102 = some (.slice 5) := by kernel_rfl
theorem under9 : Tryz.prog.underlying 9 = some .string := by kernel_rfl
theorem own_sl {W : World} {base : Nat} {e : TypeId} {size n : Nat} {v : Value} {xs : List Value} (h : W.ownsRow base e size v n xs) : ∃ oa cap, v = .slice oa n cap := by
 rcases h.2 with ⟨rfl, h0⟩ | ⟨g, cap, cur, rfl, _⟩
 ·exact ⟨none, 0, by rw [h0]⟩
 ·exact ⟨_, cap, rfl⟩
/-- What a writer's function leaves as it was: all below base, and all but the writer's box and rows of bytes. -/
structure Fr (base b : Nat) (W W' : World) : Prop where
 bel : Below base W W'
 oth : Lib.OthersKept 5 (some b) W W'
theorem Fr.refl (base b : Nat) (W : World) : Fr base b W W := ⟨Below.refl _ _, Lib.OthersKept.refl _ _ _⟩
theorem Fr.trans {base b : Nat} {a c d : World} (h : Fr base b a c) (k : Fr base b c d) : Fr base b a d := ⟨h.bel.trans k.bel, h.oth.trans k.oth⟩
theorem Fr.of {base b : Nat} {W W' : World} (hb : base ≤ W.heap.size) (h : Below W.heap.size W W') : Fr base b W W' :=
 ⟨h.mono hb, fun k o hk _ _ => by rw [h.block k (Array.getElem?_eq_some_iff.1 hk).1]; exact hk⟩
/-- The writer's box and its text. -/
structure WrS (W : World) (base b : Nat) (t : List UInt8) (v : Value) : Prop where
 blk : W.heap[b]? = some (.cells #[v] 104 (0, 0))
 own : W.ownsRow base 5 1 v t.length (Lib.byteCells t)
 hb : base ≤ b
section
variable {W W' W1 : World} {base b : Nat} {t t' : List UInt8} {v v' : Value}
theorem WrS.lt (h : WrS W base b t v) : b < W.heap.size := (Array.getElem?_eq_some_iff.1 h.blk).1
theorem WrS.sz (h : WrS W base b t v) : base ≤ W.heap.size := Nat.le_trans h.hb (Nat.le_of_lt h.lt)
theorem WrS.c (h : WrS W base b t v) : W.cell? ⟨b, 0, none⟩ = some v := by simp [World.cell?, h.blk]
theorem WrS.f (h : WrS W base b t v) : W.frozen? ⟨b, 0, none⟩ = false := by simp [World.frozen?, h.blk]
theorem WrS.keep (h : WrS W base b t v) (hb : Below W.heap.size W W') : WrS W' base b t v := ⟨(hb.block b h.lt).trans h.blk, own_keep h.own hb, h.hb⟩
theorem own_type {n : Nat} {xs : List Value} {ty : TypeId} {s : Nat} (h : W.ownsRow base ty s v n xs) (g : Nat) (hg : v.ownBlock = some g) : ∃ c fz, W.heap[g]? = some (.cells c ty fz) := by
 rcases h.2 with ⟨rfl, _⟩ | ⟨g', cap, cur, rfl, hbg, hh, rest⟩
 ·cases hg
 ·simp [Value.ownBlock] at hg
  subst hg
  exact ⟨cur, _, hh⟩
theorem WrS.ne (h : WrS W base b t v) (g : Nat) (hg : v.ownBlock = some g) : g ≠ b := by
 rintro rfl
 obtain ⟨c, fz, hc⟩ := own_type h.own g hg
 rw [h.blk] at hc
 injection hc with hc
 injection hc with _ hc _
 cases hc
/-- Behind an append and the store into the writer's box. -/
theorem WrS.app (h : WrS W base b t v) (hg : W.grownBy W1 v.ownBlock) (ho : W1.ownsRow base 5 1 v' t'.length (Lib.byteCells t')) : WrS (W1.setCell ⟨b, 0, none⟩ v') base b t' v' ∧ Fr base b W (W1.setCell ⟨b, 0, none⟩ v') := by
 have hB : Below base W W1 := grown_below h.own hg h.sz
 have hbk : W1.heap[b]? = some (.cells #[v] 104 (0, 0)) := (hg.block b h.lt (fun e => h.ne b e.symm rfl)).trans h.blk
 have hne : ∀ g, v'.ownBlock = some g → g ≠ b := by
  rintro g hg' rfl
  obtain ⟨c, fz, hc⟩ := own_type ho g hg'
  rw [hbk] at hc
  injection hc with hc
  injection hc with _ hc _
  cases hc
 refine ⟨⟨?_, own_blk ho fun g hg' _ _ => Below.heap_setCell W1 ⟨b, 0, none⟩ v' g (hne g hg'), h.hb⟩, ⟨hB.setCell (p := ⟨b, 0, none⟩) h.hb v', ?_⟩⟩
 ·simp [World.setCell, Array.getElem?_modify, hbk]
 ·refine Lib.OthersKept.setCell ?_ ⟨b, 0, none⟩ rfl v'
  intro k o hk hne' hty
  rw [hg.block k (Array.getElem?_eq_some_iff.1 hk).1 ?_]
  ·exact hk
  ·intro e
   obtain ⟨c, fz, hc⟩ := own_type h.own k e.symm
   rw [hk] at hc
   injection hc with hc
   exact hty c fz hc
/-- The same behind AppendInt's contract. -/
theorem WrS.put (h : WrS W base b t v) (hB : Below base W W1) (hk : Lib.OthersKept 5 none W W1) (ho : W1.ownsRow base 5 1 v' t'.length (Lib.byteCells t')) : WrS (W1.setCell ⟨b, 0, none⟩ v') base b t' v' ∧ Fr base b W (W1.setCell ⟨b, 0, none⟩ v') := by
 have hbk : W1.heap[b]? = some (.cells #[v] 104 (0, 0)) := hk b _ h.blk (by simp) (fun c fz e => by injection e with _ e _; cases e)
 have hne : ∀ g, v'.ownBlock = some g → g ≠ b := by
  rintro g hg' rfl
  obtain ⟨c, fz, hc⟩ := own_type ho g hg'
  rw [hbk] at hc
  injection hc with hc
  injection hc with _ hc _
  cases hc
 refine ⟨⟨?_, own_blk ho fun g hg' _ _ => Below.heap_setCell W1 ⟨b, 0, none⟩ v' g (hne g hg'), h.hb⟩, ⟨hB.setCell (p := ⟨b, 0, none⟩) h.hb v', ?_⟩⟩
 ·simp [World.setCell, Array.getElem?_modify, hbk]
 ·refine Lib.OthersKept.setCell ?_ ⟨b, 0, none⟩ rfl v'
  exact fun k o h1 _ h3 => hk k o h1 (by simp) h3
/-- A block that a writer's functions leave alone. -/
def Safe (W : World) (base b g : Nat) : Prop := g < base ∨ g ≠ b ∧ ∃ c ty fz, W.heap[g]? = some (.cells c ty fz) ∧ ty ≠ 5
theorem Fr.block (h : Fr base b W W') {g : Nat} (hs : Safe W base b g) : W'.heap[g]? = W.heap[g]? := by
 rcases hs with hs | ⟨hne, c, ty, fz, hc, ht⟩
 ·exact h.bel.block g hs
 ·rw [hc]
  exact h.oth g _ hc (fun e => hne (by injection e)) (fun c' fz' e => by injection e with _ e _; exact ht e)
theorem Safe.keep {g : Nat} (hs : Safe W base b g) (h : Fr base b W W') : Safe W' base b g := by
 have e := h.block hs
 rcases hs with hs | ⟨hne, c, ty, fz, hc, ht⟩
 ·exact .inl hs
 ·exact .inr ⟨hne, c, ty, fz, by rw [e]; exact hc, ht⟩
/-- Numbers that a writer's functions leave alone. -/
def Ns (W : World) (base b : Nat) (on : Option Addr) (ns : List Int) : Prop := ns ≠ [] → ∃ g off, on = some ⟨g, off, none⟩ ∧ RowsAt W g off 1 (pvals ns) ∧ Safe W base b g
theorem Ns.keep {on : Option Addr} {ns : List Int} (h : Ns W base b on ns) (hf : Fr base b W W') : Ns W' base b on ns := by
 intro hne
 obtain ⟨g, off, e, hr, hs⟩ := h hne
 have eb := hf.block hs
 exact ⟨g, off, e, ⟨Nat.lt_of_lt_of_le hr.lt hf.bel.size, fun i r hi k v hv => by rw [← hr.c i r hi k v hv]; simp [World.cell?, eb]⟩, hs.keep hf⟩
theorem Ns.get {on : Option Addr} {ns : List Int} (h : Ns W base b on ns) {k : Nat} {x : Int} (hk : ns[k]? = some x) : ∃ g off, on = some ⟨g, off, none⟩ ∧ W.cell? ⟨g, off + k, none⟩ = some (.int .i64 x) ∧ g < W.heap.size := by
 obtain ⟨g, off, e, hr, -⟩ := h (by rintro rfl; simp at hk)
 refine ⟨g, off, e, ?_, hr.lt⟩
 have := hr.c k _ (pvals_get hk) 0 _ rfl
 simpa using this
/-- Numbers that lay there before. -/
theorem Ns.old {w0 : World} {on : Option Addr} {ns : List Int} (h : Sl w0 on 1 (pvals ns)) (hb : Below w0.heap.size w0 W) (b : Nat) : Ns W w0.heap.size b on ns := by
 intro hne
 obtain ⟨g, off, e, hr⟩ := h (fun e => hne (by simpa [pvals] using e))
 exact ⟨g, off, e, hr.keep hb, .inl hr.lt⟩
/-- Numbers in a new box. -/
theorem Ns.new (W : World) (base b : Nat) (ns : List Int) (ty : TypeId) (ht : ty ≠ 5) (hb : b < W.heap.size) : Ns (W.alloc (.cells (pflat ns).toArray ty)) base b (some ⟨W.heap.size, 0, none⟩) ns := by
 intro _
 refine ⟨W.heap.size, 0, rfl, ⟨by simp, fun i r hi k v hv => ?_⟩, .inr ⟨by omega, (pflat ns).toArray, ty, (0, 0), ?_, ht⟩⟩
 ·have hi' : ns[i]?.map (fun p => [Value.int .i64 p]) = some r := by simpa [pvals] using hi
  rw [Option.map_eq_some_iff] at hi'
  obtain ⟨x, hx, rfl⟩ := hi'
  have hk0 : k = 0 := by
   rcases Nat.eq_zero_or_pos k with h | h
   ·exact h
   ·rw [List.getElem?_eq_none (by simp; omega)] at hv; cases hv
  subst hk0
  simp at hv
  subst hv
  have := (Row.new W (pflat ns) ty).c i (.int .i64 x) (by simp [pflat, hx])
  simpa using this
 ·show (W.heap.push _)[W.heap.size]? = _
  exact Array.getElem?_push_size
end
/-- What a writer's function answers. -/
def WrP (base b : Nat) (t : List UInt8) (W : World) (e : Ending) (W' : World) : Prop := e = .returned (.tuple #[]) ∧ ∃ v', WrS W' base b t v' ∧ Fr base b W W'
theorem byteCells_app (a c : List UInt8) : Lib.byteCells (a ++ c) = Lib.byteCells a ++ Lib.byteCells c := by simp [Lib.byteCells]
theorem full59 (W : World) (base b : Nat) (t : List UInt8) (v : Value) (h : WrS W base b t v) (hl : t.length ≤ 1048576) :
  Calls Tryz.prog 79 #[.pointer (some ⟨b, 0, none⟩)] W (fun e W' => e = .returned (.bool false) ∧ W' = W) := by
 obtain ⟨oa, cap, rfl⟩ := own_sl h.own
 have hc := h.c
 have hlt := h.lt
 have hd : decide ((1048576 : Int) < (t.length : Int)) = false := decide_eq_false (by omega)
 go_enter Tryz.func79, Tryz.ntmps79
 go_wp2
 go_ret
 exact ⟨ret_bool (by first | exact hd | simp <;> omega), rfl⟩
set_option maxRecDepth 100000 in
set_option maxHeartbeats 2000000 in
theorem open60 (W : World) (base b : Nat) (t : List UInt8) (v : Value) (s : ByteArray) (h : WrS W base b t v) (hl : t.length + s.size ≤ 1048576) :
  Calls Tryz.prog 80 #[.pointer (some ⟨b, 0, none⟩), .string s] W (WrP base b (t ++ s.data.toList) W) := by
 have hc := h.c
 have hf := h.f
 have hlt := h.lt
 obtain ⟨i0, hi, hz0, hz1, hz2⟩ := info_parts info5
 have H := Lib.hid h
 clear h
 go_enter Tryz.func80, Tryz.ntmps80
 go_wp2_with (at_builtin; refine Lib.wpList_append_own_string _ rfl _ _ 102 9 rfl base 5 i0 under72 under9 hi hz0 hz1 hz2 v t.length (Lib.byteCells t) rfl H.out.own s rfl ?c3 ?c4 ?c5 ?_)
 case c3 => unfold maxLen; omega
 case c4 => omega
 case c5 => exact H.out.sz
 intro v' w' hown' hgrow _
 obtain ⟨oa, cap, rfl⟩ := own_sl hown'
 have hlen : (t ++ s.data.toList).length = t.length + s.size := by rw [List.length_append, Array.length_toList]; rfl
 have hw : w'.ownsRow base 5 1 (.slice oa (t.length + s.size) cap) (t ++ s.data.toList).length (Lib.byteCells (t ++ s.data.toList)) := by rw [hlen, byteCells_app]; exact hown'
 have ha := H.out.app hgrow hw
 have hsz := Nat.lt_of_lt_of_le hlt hgrow.size
 have hc' : w'.cell? ⟨b, 0, none⟩ = some v := (World.cell?_of_block (hgrow.block b hlt (fun e => H.out.ne b e.symm rfl))).trans hc
 have hf' : w'.frozen? ⟨b, 0, none⟩ = false := (World.frozen?_of_block (hgrow.block b hlt (fun e => H.out.ne b e.symm rfl))).trans hf
 have HA := Lib.hid ha
 clear ha hw hown' hgrow
 go_wp2
 refine bodyPost_end (v := .tuple #[]) (by simp [results, Tryz.results80, go_sem]) rfl ?_
 exact ⟨rfl, _, HA.out⟩
set_option maxRecDepth 100000 in
set_option maxHeartbeats 2000000 in
theorem end63 (W : World) (base b : Nat) (t : List UInt8) (v : Value) (h : WrS W base b t v) (hl : t.length + 1 ≤ 1048576) :
  Calls Tryz.prog 83 #[.pointer (some ⟨b, 0, none⟩)] W (WrP base b (t ++ [10]) W) := by
 have hc := h.c
 have hf := h.f
 have hlt := h.lt
 obtain ⟨i0, hi, hz0, hz1, hz2⟩ := info_parts info5
 have hb2 : Below W.heap.size W (W.alloc (.cells #[.int .u8 10] 5)) := (Below.refl _ _).alloc (Nat.le_refl _) _
 have H2 := Lib.hid (h.keep hb2)
 have HF2 := Lib.hid (Fr.of (b := b) h.sz hb2)
 have HSZ : base ≤ (W.alloc (.cells #[.int .u8 10] 5)).heap.size := Nat.le_trans h.sz hb2.size
 clear h
 go_enter Tryz.func83, Tryz.ntmps83
 go_wp2_with (at_builtin; refine wpList_append_own _ rfl _ _ 102 rfl base 5 i0 (.int .u8 0) 1 1 under72 hi hz0 hz1 hz2 rfl (by decide) v t.length (Lib.byteCells t) rfl H2.out.own ⟨W.heap.size, 0, none⟩ 1 1 [.int .u8 10] rfl rfl ?c1 ?c2 ?c3 ?c4 ?c5 ?_)
 case c1 => exact new_cells _ _ _
 case c2 => intro u hu; simp at hu; subst hu; rfl
 case c3 => unfold maxLen; omega
 case c4 => omega
 case c5 => exact HSZ
 intro v' w' hown' hgrow _
 obtain ⟨oa, cap, rfl⟩ := own_sl hown'
 have hw : w'.ownsRow base 5 1 (.slice oa (t.length + 1) cap) (t ++ [10]).length (Lib.byteCells (t ++ [10])) := by rw [byteCells_app, List.length_append]; exact hown'
 have ha := H2.out.app hgrow hw
 have hne : ∀ g, v.ownBlock = some g → g ≠ b := H2.out.ne
 have hlt2 := H2.out.lt
 have hc' : w'.cell? ⟨b, 0, none⟩ = some v := (World.cell?_of_block (hgrow.block b hlt2 (fun e => hne b e.symm rfl))).trans H2.out.c
 have hf' : w'.frozen? ⟨b, 0, none⟩ = false := (World.frozen?_of_block (hgrow.block b hlt2 (fun e => hne b e.symm rfl))).trans H2.out.f
 have hlt' : b < w'.heap.size := Nat.lt_of_lt_of_le hlt2 hgrow.size
 have HA : Hid (WrS (w'.setCell ⟨b, 0, none⟩ (.slice oa (t.length + 1) cap)) base b (t ++ [10]) (.slice oa (t.length + 1) cap) ∧ Fr base b W (w'.setCell ⟨b, 0, none⟩ (.slice oa (t.length + 1) cap))) := Lib.hid ⟨ha.1, HF2.out.trans ha.2⟩
 clear ha hw hown' hgrow hne hlt2 H2 HF2 HSZ hb2 hc hf hlt
 go_wp2
 refine bodyPost_end (v := .tuple #[]) (by simp [results, Tryz.results83, go_sem]) rfl ?_
 exact ⟨rfl, _, HA.out⟩
end Go.Proofs.Ng
end

section
/-
 Walks: add and line. Printed by gen_ac.py.
-/
namespace Go.Proofs.Ng
open Go.RowKit
abbrev TabW (base : Nat) (W : World) : Prop := Lib.TabBelow Tryz.prog base W "internal/strconv.uint64pow10" .u64 Lib.pow10Tab
theorem itoa_le {n : Int} (h : Fm.inR64 n) : (Lib.itoa n).length ≤ 20 := by
 have hd := Fm.okD_un (d := (if n < 0 then (Lib.itoa n).tail else Lib.itoa n)) (s := Lib.itoa n) ?_
 ·have := hd.2.1
  split at this
  ·rw [List.length_tail] at this; omega
  ·omega
 ·have hs := Fm.spelled_itoa n h.1 h.2
  unfold Fm.spelledL at hs
  split at hs
  ·rename_i hneg
   split at hs
   ·rename_i hc
    have hn : n ≤ 0 := by injection hs with hs; omega
    by_cases h0 : n < 0
    ·rw [if_pos h0]; exact hc.1
    ·exfalso
     have : n = 0 := by omega
     subst this
     rw [show (0 : Int) = ((0 : Nat) : Int) from rfl, Lib.itoa_nonneg, Lib.decDigits_one (by omega)] at hneg
     exact absurd hneg (by decide)
   ·cases hs
  ·rename_i hneg
   split at hs
   ·rename_i hc
    have hn : 0 ≤ n := by injection hs with hs; omega
    rw [if_neg (by omega)]; exact hc.1
   ·cases hs
theorem app78 (W : World) (base n : Nat) (x : Int) (hx : Fm.inR64 x) (sv : Value) (xs : List Value) (hown : W.ownsRow base 5 1 sv n xs) (hb : base ≤ W.heap.size) (hl : n ≤ 1048576) (ht : TabW base W) :
  Calls Tryz.prog 105 #[sv, .int .i64 x, .int .i64 10] W (fun e w' => ∃ v', e = .returned v' ∧ w'.ownsRow base 5 1 v' (n + (Lib.itoa x).length) (xs ++ Lib.byteCells (Lib.itoa x)) ∧ Below base W w' ∧ Lib.OthersKept 5 none W w') :=
 Any.strconv_AppendInt_10 Tryz.appL base n x hx.1 hx.2 sv xs W hown hb (by omega) ht
def numsT (ns : List Int) : List UInt8 := (ns.map Fm.numT).flatten
theorem numsT_ge : ∀ ns : List Int, ns.length ≤ (numsT ns).length
 | [] => Nat.le_refl _
 | n :: ns => by
  have := numsT_ge ns
  simp only [numsT, List.map_cons, List.flatten_cons, List.length_append, Fm.numT, List.length_cons] at this ⊢
  omega
theorem numsT_snoc (ns : List Int) (x : Int) : numsT (ns ++ [x]) = numsT ns ++ [32] ++ Lib.itoa x := by simp [numsT, Fm.numT]
theorem numsT_take {ns : List Int} {k : Nat} {x : Int} (h : ns[k]? = some x) : numsT (ns.take (k + 1)) = numsT (ns.take k) ++ [32] ++ Lib.itoa x := by
 rw [List.take_add_one, h, ← numsT_snoc]; rfl
theorem numsT_le (ns : List Int) (k : Nat) : (numsT (ns.take k)).length ≤ (numsT ns).length := by
 have e : numsT ns = numsT (ns.take k) ++ numsT (ns.drop k) := by simp only [numsT]; rw [← List.flatten_append, ← List.map_append, List.take_append_drop]
 rw [e, List.length_append]; omega
theorem numsT_app (a c : List Int) : numsT (a ++ c) = numsT a ++ numsT c := by simp [numsT]
theorem lineT_eq (kw : List UInt8) (ns : List Int) : Fm.lineT kw ns = kw ++ numsT ns ++ [10] := rfl
set_option maxRecDepth 100000 in
set_option maxHeartbeats 4000000 in
theorem add61 (w : World) (base b : Nat) (t : List UInt8) (v : Value) (on : Option Addr) (nc : Nat) (ns : List Int) (h : WrS w base b t v) (hN : Ns w base b on ns) (hr : ∀ n ∈ ns, Fm.inR64 n) (hl : t.length + (numsT ns).length ≤ 1048576) (htab : TabW base w) :
  Calls Tryz.prog 81 #[.pointer (some ⟨b, 0, none⟩), .slice on ns.length nc] w (WrP base b (t ++ numsT ns) w) := by
 have hns : ns.length ≤ 1048576 := by have := numsT_ge ns; omega
 have H0 := Lib.hid h
 have HN := Lib.hid hN
 have HR := Lib.hid hr
 have HL := Lib.hid hl
 have HT := Lib.hid htab
 clear h hN hr hl htab
 go_enter Tryz.func81, Tryz.ntmps81
 go_wp2_with fail
 go_loopw [8] (fun i W => ∃ k : Nat, k ≤ ns.length ∧ i = .int .i64 (k : Nat) ∧ (∃ v, WrS W base b (t ++ numsT (ns.take k)) v) ∧ Fr base b w W) (fun i _ => ns.length - (intOf i).toNat)
 case atStart => exact ⟨0, Nat.zero_le _, rfl, ⟨v, by rw [List.take_zero, show numsT [] = [] from rfl, List.append_nil]; exact H0.out⟩, Fr.refl _ _ _⟩
 case round =>
  obtain ⟨k, hk, rfl, ⟨v1, hW⟩, hF⟩ := hrel
  clear H0
  by_cases hlt : k < ns.length
  ·obtain ⟨x, hx⟩ : ∃ x, ns[k]? = some x := ⟨_, List.getElem?_eq_getElem hlt⟩
   have hxr := HR.out x (List.mem_of_getElem? hx)
   obtain ⟨g, off, hon, x0, glt⟩ := (HN.out.keep hF).get hx
   subst hon
   have hle1 := HL.out
   have hle2 := numsT_le ns (k + 1)
   have htk := numsT_take hx
   have hlen : (t ++ numsT (ns.take k)).length + 1 + (Lib.itoa x).length ≤ 1048576 := by
    rw [htk] at hle2
    simp only [List.length_append, List.length_cons, List.length_nil] at hle2 ⊢
    omega
   generalize ht1 : t ++ numsT (ns.take k) = t1 at hW hlen
   have ht2 : t ++ numsT (ns.take (k + 1)) = t1 ++ [32] ++ Lib.itoa x := by rw [htk, ← ht1]; simp
   have HFU := Lib.hid (full59 wr base b t1 v1 hW (by omega))
   have HW := Lib.hid hW
   have HF := Lib.hid hF
   have HT2 := Lib.hid ht2
   have HX := Lib.hid hx
   have HLN := Lib.hid hlen
   have HXR := Lib.hid hxr
   clear hle1 hle2 htk ht1 ht2 hW hF hx hlen hxr
   go_wp2_with fail
   refine HFU.out.mono ?_
   rintro e W0 ⟨rfl, hw0⟩
   subst hw0
   have hc := HW.out.c
   have hf := HW.out.f
   have hltb := HW.out.lt
   obtain ⟨i0, hi, hz0, hz1, hz2⟩ := info_parts info5
   have hb2 : Below W0.heap.size W0 (W0.alloc (.cells #[.int .u8 32] 5)) := (Below.refl _ _).alloc (Nat.le_refl _) _
   have H2 := Lib.hid (HW.out.keep hb2)
   have HF2 := Lib.hid (HF.out.trans (Fr.of (b := b) HW.out.sz hb2))
   have HSZ : base ≤ (W0.alloc (.cells #[.int .u8 32] 5)).heap.size := Nat.le_trans HW.out.sz hb2.size
   have hL1 := HLN.out
   clear HW HF HFU hb2
   go_wp2_with (at_builtin; refine wpList_append_own _ rfl _ _ 102 rfl base 5 i0 (.int .u8 0) 1 1 under72 hi hz0 hz1 hz2 rfl (by decide) v1 t1.length (Lib.byteCells t1) rfl H2.out.own ⟨W0.heap.size, 0, none⟩ 1 1 [.int .u8 32] rfl rfl ?c1 ?c2 ?c3 ?c4 ?c5 ?_)
   case c1 => exact new_cells _ _ _
   case c2 => intro u hu; simp at hu; subst hu; rfl
   case c3 => unfold maxLen; omega
   case c4 => omega
   case c5 => exact HSZ
   intro v' w' hown' hgrow _
   obtain ⟨oa, cap, rfl⟩ := own_sl hown'
   have hw : w'.ownsRow base 5 1 (.slice oa (t1.length + 1) cap) (t1 ++ [32]).length (Lib.byteCells (t1 ++ [32])) := by rw [byteCells_app, List.length_append]; exact hown'
   have ha := H2.out.app hgrow hw
   have hne : ∀ g, v1.ownBlock = some g → g ≠ b := H2.out.ne
   have hlt2 := H2.out.lt
   have hc' : w'.cell? ⟨b, 0, none⟩ = some v1 := (World.cell?_of_block (hgrow.block b hlt2 (fun e => hne b e.symm rfl))).trans H2.out.c
   have hf' : w'.frozen? ⟨b, 0, none⟩ = false := (World.frozen?_of_block (hgrow.block b hlt2 (fun e => hne b e.symm rfl))).trans H2.out.f
   have hlt' : b < w'.heap.size := Nat.lt_of_lt_of_le hlt2 hgrow.size
   have HA := Lib.hid ha.1
   have HF3 := Lib.hid (HF2.out.trans ha.2)
   clear ha hw hown' hgrow hne hlt2 H2 HF2 HSZ hc hf hltb hi hz0 hz1 hz2
   go_wp2_with fail
   have HSC : Hid ((w'.setCell ⟨b, 0, none⟩ (.slice oa (t1.length + 1) cap)).cell? ⟨b, 0, none⟩ = some (.slice oa (t1.length + 1) cap)) := Lib.hid HA.out.c
   generalize w'.setCell ⟨b, 0, none⟩ (.slice oa (t1.length + 1) cap) = W3 at HA HF3 HSC ⊢
   clear hc' hf' hlt'
   have hc3 := HSC.out
   have hf3 := HA.out.f
   have hlt3 := HA.out.lt
   clear HSC
   have H78 := Lib.hid (app78 W3 base (t1 ++ [32]).length x HXR.out (.slice oa (t1.length + 1) cap) (Lib.byteCells (t1 ++ [32])) HA.out.own HA.out.sz (by rw [List.length_append, List.length_cons, List.length_nil]; omega) (HT.out.on HF3.out.bel))
   go_wp2_with fail
   refine H78.out.mono ?_
   clear H78
   rintro e w4 ⟨v4, rfl, hown4, hB4, hO4⟩
   rw [← List.length_append, ← byteCells_app] at hown4
   obtain ⟨oa4, cap4, rfl⟩ := own_sl hown4
   have hown5 := hown4
   have ha4 := HA.out.put hB4 hO4 hown5
   generalize (t1 ++ [32] ++ Lib.itoa x).length = n4 at ha4 ⊢
   have hbk : w4.heap[b]? = some (.cells #[.slice oa (t1.length + 1) cap] 104 (0, 0)) := hO4 b _ HA.out.blk (by simp) (fun c fz e => by injection e with _ e _; cases e)
   have hc4 : w4.cell? ⟨b, 0, none⟩ = some (.slice oa (t1.length + 1) cap) := by simp [World.cell?, hbk]
   have hf4 : w4.frozen? ⟨b, 0, none⟩ = false := by simp [World.frozen?, hbk]
   have hlt4 : b < w4.heap.size := (Array.getElem?_eq_some_iff.1 hbk).1
   have HA4 := Lib.hid ha4.1
   have HF4 := Lib.hid (HF3.out.trans ha4.2)
   clear ha4 hown5 hown4 hB4 hO4 hbk hc3 hf3 hlt3 HA HF3
   go_wp2_with fail
   go_roundw
   case rel => exact ⟨k + 1, by omega, by simp, ⟨_, by rw [HT2.out]; exact HA4.out⟩, HF4.out⟩
   case measure => simp [intOf]; omega
  ·have hke : k = ns.length := by omega
   subst hke
   rw [List.take_length] at hW
   have HW := Lib.hid hW
   have HF := Lib.hid hF
   clear hW hF
   go_wp2
   refine bodyPost_end (v := .tuple #[]) (by simp [results, Tryz.results81, go_sem]) rfl ?_
   exact ⟨rfl, _, HW.out, HF.out⟩
set_option maxRecDepth 100000 in
set_option maxHeartbeats 4000000 in
theorem line56 (w : World) (base b : Nat) (t : List UInt8) (kw : ByteArray) (on : Option Addr) (nc : Nat) (ns : List Int) (h : ∃ v, WrS w base b t v) (hN : Ns w base b on ns) (hr : ∀ n ∈ ns, Fm.inR64 n) (hl : t.length + (Fm.lineT kw.data.toList ns).length ≤ 1048576) (htab : TabW base w) :
  Calls Tryz.prog 76 #[.pointer (some ⟨b, 0, none⟩), .string kw, .slice on ns.length nc] w (WrP base b (t ++ Fm.lineT kw.data.toList ns) w) := by
 obtain ⟨v, h⟩ := h
 have hkl : kw.data.toList.length = kw.size := by rw [Array.length_toList]; rfl
 rw [lineT_eq, List.length_append, List.length_append, hkl, List.length_cons, List.length_nil] at hl
 have H1 := Lib.hid (full59 w base b t v h (by omega))
 have H2 := Lib.hid (open60 w base b t v kw h (by omega))
 have HN := Lib.hid hN
 have HR := Lib.hid hr
 have HT := Lib.hid htab
 clear h hN hr htab
 go_enter Tryz.func76, Tryz.ntmps76
 go_wp2_with fail
 refine H1.out.mono ?_
 rintro e W0 ⟨rfl, hw0⟩
 subst hw0
 go_wp2_with fail
 refine H2.out.mono ?_
 rintro e W2 ⟨rfl, v2, hW2, hF2⟩
 have H3 := Lib.hid (add61 W2 base b _ v2 on nc ns hW2 (HN.out.keep hF2) HR.out (by rw [List.length_append, hkl]; omega) (HT.out.on hF2.bel))
 have HF2 := Lib.hid hF2
 clear hW2 hF2 H1 H2
 go_wp2_with fail
 refine H3.out.mono ?_
 rintro e W3 ⟨rfl, v3, hW3, hF3⟩
 have H4 := Lib.hid (end63 W3 base b _ v3 hW3 (by rw [List.length_append, List.length_append, hkl]; omega))
 have HF3 := Lib.hid (HF2.out.trans hF3)
 clear hW3 hF3 H3 HF2
 go_wp2_with fail
 refine H4.out.mono ?_
 rintro e W4 ⟨rfl, v4, hW4, hF4⟩
 have HE : Hid (WrP base b (t ++ Fm.lineT kw.data.toList ns) W0 (.returned (.tuple #[])) W4) := Lib.hid ⟨rfl, v4, by rw [lineT_eq, ← List.append_assoc, ← List.append_assoc]; exact hW4, HF3.out.trans hF4⟩
 clear hW4 hF4 HF3 H4
 go_wp2
 refine bodyPost_end (v := .tuple #[]) (by simp [results, Tryz.results76, go_sem]) rfl ?_
 exact HE.out
set_option maxRecDepth 100000 in
set_option maxHeartbeats 4000000 in
theorem add62 (w : World) (base b : Nat) (t : List UInt8) (v : Value) (on : Option Addr) (nc : Nat) (ns : List Int) (h : WrS w base b t v) (hN : Ns w base b on ns) (hr : ∀ n ∈ ns, Fm.inR64 n) (hl : t.length + (numsT ns).length ≤ 1048576) (htab : TabW base w) :
  Calls Tryz.prog 82 #[.pointer (some ⟨b, 0, none⟩), .slice on ns.length nc] w (WrP base b (t ++ numsT ns) w) := by
 have hns : ns.length ≤ 1048576 := by have := numsT_ge ns; omega
 have H0 := Lib.hid h
 have HN := Lib.hid hN
 have HR := Lib.hid hr
 have HL := Lib.hid hl
 have HT := Lib.hid htab
 clear h hN hr hl htab
 go_enter Tryz.func82, Tryz.ntmps82
 go_wp2_with fail
 go_loopw [8] (fun i W => ∃ k : Nat, k ≤ ns.length ∧ i = .int .i64 (k : Nat) ∧ (∃ v, WrS W base b (t ++ numsT (ns.take k)) v) ∧ Fr base b w W) (fun i _ => ns.length - (intOf i).toNat)
 case atStart => exact ⟨0, Nat.zero_le _, rfl, ⟨v, by rw [List.take_zero, show numsT [] = [] from rfl, List.append_nil]; exact H0.out⟩, Fr.refl _ _ _⟩
 case round =>
  obtain ⟨k, hk, rfl, ⟨v1, hW⟩, hF⟩ := hrel
  clear H0
  by_cases hlt : k < ns.length
  ·obtain ⟨x, hx⟩ : ∃ x, ns[k]? = some x := ⟨_, List.getElem?_eq_getElem hlt⟩
   have hxr := HR.out x (List.mem_of_getElem? hx)
   obtain ⟨g, off, hon, x0, glt⟩ := (HN.out.keep hF).get hx
   subst hon
   have hle1 := HL.out
   have hle2 := numsT_le ns (k + 1)
   have htk := numsT_take hx
   have hlen : (t ++ numsT (ns.take k)).length + 1 + (Lib.itoa x).length ≤ 1048576 := by
    rw [htk] at hle2
    simp only [List.length_append, List.length_cons, List.length_nil] at hle2 ⊢
    omega
   generalize ht1 : t ++ numsT (ns.take k) = t1 at hW hlen
   have ht2 : t ++ numsT (ns.take (k + 1)) = t1 ++ [32] ++ Lib.itoa x := by rw [htk, ← ht1]; simp
   have HFU := Lib.hid (full59 wr base b t1 v1 hW (by omega))
   have HW := Lib.hid hW
   have HF := Lib.hid hF
   have HT2 := Lib.hid ht2
   have HX := Lib.hid hx
   have HLN := Lib.hid hlen
   have HXR := Lib.hid hxr
   clear hle1 hle2 htk ht1 ht2 hW hF hx hlen hxr
   go_wp2_with fail
   refine HFU.out.mono ?_
   rintro e W0 ⟨rfl, hw0⟩
   subst hw0
   have hc := HW.out.c
   have hf := HW.out.f
   have hltb := HW.out.lt
   obtain ⟨i0, hi, hz0, hz1, hz2⟩ := info_parts info5
   have hb2 : Below W0.heap.size W0 (W0.alloc (.cells #[.int .u8 32] 5)) := (Below.refl _ _).alloc (Nat.le_refl _) _
   have H2 := Lib.hid (HW.out.keep hb2)
   have HF2 := Lib.hid (HF.out.trans (Fr.of (b := b) HW.out.sz hb2))
   have HSZ : base ≤ (W0.alloc (.cells #[.int .u8 32] 5)).heap.size := Nat.le_trans HW.out.sz hb2.size
   have hL1 := HLN.out
   clear HW HF HFU hb2
   go_wp2_with (at_builtin; refine wpList_append_own _ rfl _ _ 102 rfl base 5 i0 (.int .u8 0) 1 1 under72 hi hz0 hz1 hz2 rfl (by decide) v1 t1.length (Lib.byteCells t1) rfl H2.out.own ⟨W0.heap.size, 0, none⟩ 1 1 [.int .u8 32] rfl rfl ?c1 ?c2 ?c3 ?c4 ?c5 ?_)
   case c1 => exact new_cells _ _ _
   case c2 => intro u hu; simp at hu; subst hu; rfl
   case c3 => unfold maxLen; omega
   case c4 => omega
   case c5 => exact HSZ
   intro v' w' hown' hgrow _
   obtain ⟨oa, cap, rfl⟩ := own_sl hown'
   have hw : w'.ownsRow base 5 1 (.slice oa (t1.length + 1) cap) (t1 ++ [32]).length (Lib.byteCells (t1 ++ [32])) := by rw [byteCells_app, List.length_append]; exact hown'
   have ha := H2.out.app hgrow hw
   have hne : ∀ g, v1.ownBlock = some g → g ≠ b := H2.out.ne
   have hlt2 := H2.out.lt
   have hc' : w'.cell? ⟨b, 0, none⟩ = some v1 := (World.cell?_of_block (hgrow.block b hlt2 (fun e => hne b e.symm rfl))).trans H2.out.c
   have hf' : w'.frozen? ⟨b, 0, none⟩ = false := (World.frozen?_of_block (hgrow.block b hlt2 (fun e => hne b e.symm rfl))).trans H2.out.f
   have hlt' : b < w'.heap.size := Nat.lt_of_lt_of_le hlt2 hgrow.size
   have HA := Lib.hid ha.1
   have HF3 := Lib.hid (HF2.out.trans ha.2)
   clear ha hw hown' hgrow hne hlt2 H2 HF2 HSZ hc hf hltb hi hz0 hz1 hz2
   go_wp2_with fail
   have HSC : Hid ((w'.setCell ⟨b, 0, none⟩ (.slice oa (t1.length + 1) cap)).cell? ⟨b, 0, none⟩ = some (.slice oa (t1.length + 1) cap)) := Lib.hid HA.out.c
   generalize w'.setCell ⟨b, 0, none⟩ (.slice oa (t1.length + 1) cap) = W3 at HA HF3 HSC ⊢
   clear hc' hf' hlt'
   have hc3 := HSC.out
   have hf3 := HA.out.f
   have hlt3 := HA.out.lt
   clear HSC
   have H78 := Lib.hid (app78 W3 base (t1 ++ [32]).length x HXR.out (.slice oa (t1.length + 1) cap) (Lib.byteCells (t1 ++ [32])) HA.out.own HA.out.sz (by rw [List.length_append, List.length_cons, List.length_nil]; omega) (HT.out.on HF3.out.bel))
   go_wp2_with fail
   refine H78.out.mono ?_
   clear H78
   rintro e w4 ⟨v4, rfl, hown4, hB4, hO4⟩
   rw [← List.length_append, ← byteCells_app] at hown4
   obtain ⟨oa4, cap4, rfl⟩ := own_sl hown4
   have hown5 := hown4
   have ha4 := HA.out.put hB4 hO4 hown5
   generalize (t1 ++ [32] ++ Lib.itoa x).length = n4 at ha4 ⊢
   have hbk : w4.heap[b]? = some (.cells #[.slice oa (t1.length + 1) cap] 104 (0, 0)) := hO4 b _ HA.out.blk (by simp) (fun c fz e => by injection e with _ e _; cases e)
   have hc4 : w4.cell? ⟨b, 0, none⟩ = some (.slice oa (t1.length + 1) cap) := by simp [World.cell?, hbk]
   have hf4 : w4.frozen? ⟨b, 0, none⟩ = false := by simp [World.frozen?, hbk]
   have hlt4 : b < w4.heap.size := (Array.getElem?_eq_some_iff.1 hbk).1
   have HA4 := Lib.hid ha4.1
   have HF4 := Lib.hid (HF3.out.trans ha4.2)
   clear ha4 hown5 hown4 hB4 hO4 hbk hc3 hf3 hlt3 HA HF3
   go_wp2_with fail
   go_roundw
   case rel => exact ⟨k + 1, by omega, by simp, ⟨_, by rw [HT2.out]; exact HA4.out⟩, HF4.out⟩
   case measure => simp [intOf]; omega
  ·have hke : k = ns.length := by omega
   subst hke
   rw [List.take_length] at hW
   have HW := Lib.hid hW
   have HF := Lib.hid hF
   clear hW hF
   go_wp2
   refine bodyPost_end (v := .tuple #[]) (by simp [results, Tryz.results82, go_sem]) rfl ?_
   exact ⟨rfl, _, HW.out, HF.out⟩
set_option maxRecDepth 100000 in
set_option maxHeartbeats 4000000 in
theorem line57 (w : World) (base b : Nat) (t : List UInt8) (kw : ByteArray) (on : Option Addr) (nc : Nat) (ns : List Int) (h : ∃ v, WrS w base b t v) (hN : Ns w base b on ns) (hr : ∀ n ∈ ns, Fm.inR64 n) (hl : t.length + (Fm.lineT kw.data.toList ns).length ≤ 1048576) (htab : TabW base w) :
  Calls Tryz.prog 77 #[.pointer (some ⟨b, 0, none⟩), .string kw, .slice on ns.length nc] w (WrP base b (t ++ Fm.lineT kw.data.toList ns) w) := by
 obtain ⟨v, h⟩ := h
 have hkl : kw.data.toList.length = kw.size := by rw [Array.length_toList]; rfl
 rw [lineT_eq, List.length_append, List.length_append, hkl, List.length_cons, List.length_nil] at hl
 have H1 := Lib.hid (full59 w base b t v h (by omega))
 have H2 := Lib.hid (open60 w base b t v kw h (by omega))
 have HN := Lib.hid hN
 have HR := Lib.hid hr
 have HT := Lib.hid htab
 clear h hN hr htab
 go_enter Tryz.func77, Tryz.ntmps77
 go_wp2_with fail
 refine H1.out.mono ?_
 rintro e W0 ⟨rfl, hw0⟩
 subst hw0
 go_wp2_with fail
 refine H2.out.mono ?_
 rintro e W2 ⟨rfl, v2, hW2, hF2⟩
 have H3 := Lib.hid (add62 W2 base b _ v2 on nc ns hW2 (HN.out.keep hF2) HR.out (by rw [List.length_append, hkl]; omega) (HT.out.on hF2.bel))
 have HF2 := Lib.hid hF2
 clear hW2 hF2 H1 H2
 go_wp2_with fail
 refine H3.out.mono ?_
 rintro e W3 ⟨rfl, v3, hW3, hF3⟩
 have H4 := Lib.hid (end63 W3 base b _ v3 hW3 (by rw [List.length_append, List.length_append, hkl]; omega))
 have HF3 := Lib.hid (HF2.out.trans hF3)
 clear hW3 hF3 H3 HF2
 go_wp2_with fail
 refine H4.out.mono ?_
 rintro e W4 ⟨rfl, v4, hW4, hF4⟩
 have HE : Hid (WrP base b (t ++ Fm.lineT kw.data.toList ns) W0 (.returned (.tuple #[])) W4) := Lib.hid ⟨rfl, v4, by rw [lineT_eq, ← List.append_assoc, ← List.append_assoc]; exact hW4, HF3.out.trans hF4⟩
 clear hW4 hF4 HF3 H4
 go_wp2
 refine bodyPost_end (v := .tuple #[]) (by simp [results, Tryz.results77, go_sem]) rfl ?_
 exact HE.out
end Go.Proofs.Ng
end

section
/-
 Paths in memory; walks: the writer's normals.
-/
namespace Go.Proofs.Ng
open Go.RowKit
/-- A box known whole. -/
structure Bx (W : World) (n : Nat) (cs : List Value) (ty : TypeId) : Prop where
 h : W.heap[n]? = some (.cells cs.toArray ty (0, 0))
section
variable {W W' : World} {n base b : Nat} {cs : List Value} {ty : TypeId}
theorem Bx.new (W : World) (cs : List Value) (ty : TypeId) : Bx (W.alloc (.cells cs.toArray ty)) W.heap.size cs ty := ⟨by show (W.heap.push _)[W.heap.size]? = _; exact Array.getElem?_push_size⟩
theorem Bx.lt (h : Bx W n cs ty) : n < W.heap.size := (Array.getElem?_eq_some_iff.1 h.h).1
theorem Bx.c (h : Bx W n cs ty) (i : Nat) (v : Value) (hv : cs[i]? = some v) : W.cell? ⟨n, i, none⟩ = some v := by simp [World.cell?, h.h, hv]
theorem Bx.f (h : Bx W n cs ty) (i : Nat) : W.frozen? ⟨n, i, none⟩ = false := by simp [World.frozen?, h.h]
theorem Bx.keep (h : Bx W n cs ty) (hb : Below W.heap.size W W') : Bx W' n cs ty := ⟨(hb.block n h.lt).trans h.h⟩
theorem Bx.low {B : Nat} (h : Bx W n cs ty) (hb : Below B W W') (hn : n < B) : Bx W' n cs ty := ⟨(hb.block n hn).trans h.h⟩
theorem Bx.fr (h : Bx W n cs ty) (hf : Fr base b W W') (hne : n ≠ b) (ht : ty ≠ 5) : Bx W' n cs ty :=
 ⟨hf.oth n _ h.h (fun e => hne (by injection e)) (fun c fz e => by injection e with _ e _; exact ht e)⟩
theorem Bx.blk (h : Bx W n cs ty) : Blk W n cs := ⟨h.c, h.f, h.lt⟩
end
def vec3 (v : Int × Int × Int) : List Value := [.int .i64 v.1, .int .i64 v.2.1, .int .i64 v.2.2]
def vecsV (l : List (Int × Int × Int)) : List (List Value) := l.map vec3
/-- A use in memory. -/
def UseAt (W : World) (r : List Value) (u : Fm.UseD) : Prop := ∃ on nc, r = [.int .i64 u.depth, .int .i64 u.index, .slice on u.nums.length nc] ∧ Sl W on 1 (pvals u.nums)
structure Uses (W : World) (oa : Option Addr) (l : List Fm.UseD) : Prop where
 ex : ∃ rows : List (List Value), rows.length = l.length ∧ Sl W oa 3 rows ∧ ∀ (k : Nat) (r : List Value) (u : Fm.UseD), rows[k]? = some r → l[k]? = some u → UseAt W r u
def EdgeAt (W : World) (r : List Value) (e : Fm.EdgeD) : Prop := ∃ ot nt ou nu, r = [.slice ot e.table.length nt, .slice ou e.uses.length nu] ∧ Sl W ot 3 (vecsV e.table) ∧ Uses W ou e.uses
structure Edges (W : World) (oa : Option Addr) (l : List Fm.EdgeD) : Prop where
 ex : ∃ rows : List (List Value), rows.length = l.length ∧ Sl W oa 2 rows ∧ ∀ (k : Nat) (r : List Value) (e : Fm.EdgeD), rows[k]? = some r → l[k]? = some e → EdgeAt W r e
def PathAt (W : World) (v : Value) (p : Fm.PathD) : Prop := ∃ op np oe ne, v = .agg #[.slice op p.pts.length np, .slice oe p.edges.length ne] ∧ Pts W op p.pts ∧ Edges W oe p.edges
theorem UseAt.keep {W W' : World} {r : List Value} {u : Fm.UseD} (h : UseAt W r u) (hb : Below W.heap.size W W') : UseAt W' r u := by
 obtain ⟨on, nc, e, hs⟩ := h
 exact ⟨on, nc, e, hs.keep hb⟩
theorem Uses.keep {W W' : World} {oa : Option Addr} {l : List Fm.UseD} (h : Uses W oa l) (hb : Below W.heap.size W W') : Uses W' oa l := by
 obtain ⟨rows, h1, h2, h3⟩ := h.ex
 exact ⟨rows, h1, h2.keep hb, fun k r u hr hu => (h3 k r u hr hu).keep hb⟩
theorem EdgeAt.keep {W W' : World} {r : List Value} {e : Fm.EdgeD} (h : EdgeAt W r e) (hb : Below W.heap.size W W') : EdgeAt W' r e := by
 obtain ⟨ot, nt, ou, nu, e, h1, h2⟩ := h
 exact ⟨ot, nt, ou, nu, e, h1.keep hb, h2.keep hb⟩
theorem Edges.keep {W W' : World} {oa : Option Addr} {l : List Fm.EdgeD} (h : Edges W oa l) (hb : Below W.heap.size W W') : Edges W' oa l := by
 obtain ⟨rows, h1, h2, h3⟩ := h.ex
 exact ⟨rows, h1, h2.keep hb, fun k r u hr hu => (h3 k r u hr hu).keep hb⟩
theorem PathAt.keep {W W' : World} {v : Value} {p : Fm.PathD} (h : PathAt W v p) (hb : Below W.heap.size W W') : PathAt W' v p := by
 obtain ⟨op, np, oe, ne, e, h1, h2⟩ := h
 exact ⟨op, np, oe, ne, e, h1.keep hb, h2.keep hb⟩
theorem Uses.get {W : World} {oa : Option Addr} {l : List Fm.UseD} (h : Uses W oa l) {k : Nat} {u : Fm.UseD} (hk : l[k]? = some u) :
  ∃ b off on nc, oa = some ⟨b, off, none⟩ ∧ b < W.heap.size ∧ W.cell? ⟨b, off + k * 3, none⟩ = some (.int .i64 u.depth) ∧ W.cell? ⟨b, off + k * 3 + 1, none⟩ = some (.int .i64 u.index) ∧ W.cell? ⟨b, off + k * 3 + 2, none⟩ = some (.slice on u.nums.length nc) ∧ Sl W on 1 (pvals u.nums) := by
 obtain ⟨rows, h1, h2, h3⟩ := h.ex
 have hlt := (List.getElem?_eq_some_iff.1 hk).1
 obtain ⟨r, hr⟩ : ∃ r, rows[k]? = some r := ⟨_, List.getElem?_eq_getElem (by rw [h1]; exact hlt)⟩
 obtain ⟨on, nc, rfl, hs⟩ := h3 k r u hr hk
 obtain ⟨b, off, e, ha⟩ := h2 (by rintro rfl; simp at hr)
 exact ⟨b, off, on, nc, e, ha.lt, ha.c k _ hr 0 _ rfl, ha.c k _ hr 1 _ rfl, ha.c k _ hr 2 _ rfl, hs⟩
theorem Edges.get {W : World} {oa : Option Addr} {l : List Fm.EdgeD} (h : Edges W oa l) {k : Nat} {u : Fm.EdgeD} (hk : l[k]? = some u) :
  ∃ b off ot nt ou nu, oa = some ⟨b, off, none⟩ ∧ b < W.heap.size ∧ W.cell? ⟨b, off + k * 2, none⟩ = some (.slice ot u.table.length nt) ∧ W.cell? ⟨b, off + k * 2 + 1, none⟩ = some (.slice ou u.uses.length nu) ∧ Sl W ot 3 (vecsV u.table) ∧ Uses W ou u.uses := by
 obtain ⟨rows, h1, h2, h3⟩ := h.ex
 have hlt := (List.getElem?_eq_some_iff.1 hk).1
 obtain ⟨r, hr⟩ : ∃ r, rows[k]? = some r := ⟨_, List.getElem?_eq_getElem (by rw [h1]; exact hlt)⟩
 obtain ⟨ot, nt, ou, nu, rfl, hs, hu⟩ := h3 k r u hr hk
 obtain ⟨b, off, e, ha⟩ := h2 (by rintro rfl; simp at hr)
 exact ⟨b, off, ot, nt, ou, nu, e, ha.lt, ha.c k _ hr 0 _ rfl, ha.c k _ hr 1 _ rfl, hs, hu⟩
theorem vec_get {W : World} {oa : Option Addr} {l : List (Int × Int × Int)} (h : Sl W oa 3 (vecsV l)) {k : Nat} {v : Int × Int × Int} (hk : l[k]? = some v) :
  ∃ b off, oa = some ⟨b, off, none⟩ ∧ b < W.heap.size ∧ W.cell? ⟨b, off + k * 3, none⟩ = some (.int .i64 v.1) ∧ W.cell? ⟨b, off + k * 3 + 1, none⟩ = some (.int .i64 v.2.1) ∧ W.cell? ⟨b, off + k * 3 + 2, none⟩ = some (.int .i64 v.2.2) := by
 have hr : (vecsV l)[k]? = some (vec3 v) := by simp [vecsV, hk]
 obtain ⟨b, off, e, ha⟩ := h (by intro e; rw [e] at hr; simp at hr)
 exact ⟨b, off, e, ha.lt, ha.c k _ hr 0 _ rfl, ha.c k _ hr 1 _ rfl, ha.c k _ hr 2 _ rfl⟩
/-- Texts one behind another. -/
def flT {A : Type} (f : A → List UInt8) (l : List A) : List UInt8 := (l.map f).flatten
theorem flT_take {A : Type} {f : A → List UInt8} {l : List A} {k : Nat} {x : A} (h : l[k]? = some x) : flT f (l.take (k + 1)) = flT f (l.take k) ++ f x := by
 rw [List.take_add_one, h]; simp [flT]
theorem flT_le {A : Type} (f : A → List UInt8) (l : List A) (k : Nat) : (flT f (l.take k)).length ≤ (flT f l).length := by
 have e : flT f l = flT f (l.take k) ++ flT f (l.drop k) := by simp only [flT]; rw [← List.flatten_append, ← List.map_append, List.take_append_drop]
 rw [e, List.length_append]; omega
theorem lineT_pos (kw : List UInt8) (ns : List Int) : 1 ≤ (Fm.lineT kw ns).length := by rw [lineT_eq, List.length_append, List.length_cons]; omega
theorem flT_ge {A : Type} {f : A → List UInt8} (hf : ∀ x, 1 ≤ (f x).length) : ∀ l : List A, l.length ≤ (flT f l).length
 | [] => Nat.le_refl _
 | x :: l => by
  have := flT_ge hf l
  have := hf x
  simp only [flT, List.map_cons, List.flatten_cons, List.length_append, List.length_cons] at *
  omega
def normT (v : Int × Int × Int) : List UInt8 := Fm.lineT Fm.kwNormal (Fm.vecL v)
set_option maxRecDepth 100000 in
set_option maxHeartbeats 4000000 in
theorem normals58 (w0 w : World) (b : Nat) (t : List UInt8) (ot : Option Addr) (nc : Nat) (tb : List (Int × Int × Int)) (hb0 : Below w0.heap.size w0 w) (hV : Sl w0 ot 3 (vecsV tb)) (h : ∃ v, WrS w w0.heap.size b t v) (hr : ∀ v ∈ tb, ∀ n ∈ Fm.vecL v, Fm.inR64 n) (hl : t.length + (flT normT tb).length ≤ 1048576) (htab : TabW w0.heap.size w0) :
  Calls Tryz.prog 78 #[.pointer (some ⟨b, 0, none⟩), .slice ot tb.length nc] w (WrP w0.heap.size b (t ++ flT normT tb) w) := by
 have hns : tb.length ≤ 1048576 := by have := flT_ge (f := normT) (fun x => lineT_pos _ _) tb; omega
 have H0 := Lib.hid h
 have HB := Lib.hid hb0
 have HV := Lib.hid hV
 have HR := Lib.hid hr
 have HL := Lib.hid hl
 have HT := Lib.hid htab
 clear h hb0 hV hr hl htab
 go_enter Tryz.func78, Tryz.ntmps78
 go_wp2_with fail
 go_loopw [8] (fun i W => ∃ k : Nat, k ≤ tb.length ∧ i = .int .i64 (k : Nat) ∧ (∃ v, WrS W w0.heap.size b (t ++ flT normT (tb.take k)) v) ∧ Fr w0.heap.size b w W) (fun i _ => tb.length - (intOf i).toNat)
 case atStart => exact ⟨0, Nat.zero_le _, rfl, by rw [List.take_zero, show flT normT [] = [] from rfl, List.append_nil]; exact H0.out, Fr.refl _ _ _⟩
 case round =>
  obtain ⟨k, hk, rfl, ⟨v1, hW⟩, hF⟩ := hrel
  clear H0
  by_cases hlt : k < tb.length
  ·obtain ⟨x, hx⟩ : ∃ x, tb[k]? = some x := ⟨_, List.getElem?_eq_getElem hlt⟩
   have hxr := HR.out x (List.mem_of_getElem? hx)
   have hbw := HB.out.trans hF.bel
   obtain ⟨g, off, hon, glt, x0, x1, x2⟩ := vec_get (HV.out.keep hbw) hx
   subst hon
   have hle1 := HL.out
   have hle2 := flT_le normT tb (k + 1)
   have htk := flT_take (f := normT) hx
   have hlen : (t ++ flT normT (tb.take k)).length + (normT x).length ≤ 1048576 := by
    rw [htk] at hle2
    simp only [List.length_append] at hle2 ⊢
    omega
   generalize ht1 : t ++ flT normT (tb.take k) = t1 at hW hlen
   have ht2 : t ++ flT normT (tb.take (k + 1)) = t1 ++ normT x := by rw [htk, ← ht1]; simp
   have hb2 : Below wr.heap.size wr (wr.alloc (.cells #[.int .i64 x.1, .int .i64 x.2.1, .int .i64 x.2.2] 40)) := (Below.refl _ _).alloc (Nat.le_refl _) _
   have hf2 := Fr.of (b := b) hW.sz hb2
   have hN := Ns.new wr w0.heap.size b (Fm.vecL x) 40 (by decide) hW.lt
   have H57 := Lib.hid (line57 (wr.alloc (.cells #[.int .i64 x.1, .int .i64 x.2.1, .int .i64 x.2.2] 40)) w0.heap.size b t1 ⟨#[110, 111, 114, 109, 97, 108]⟩ (some ⟨wr.heap.size, 0, none⟩) 3 (Fm.vecL x) ⟨v1, hW.keep hb2⟩ hN hxr hlen (HT.out.on (hbw.trans hf2.bel)))
   have HF := Lib.hid (hF.trans hf2)
   have HT2 := Lib.hid ht2
   clear hle1 hle2 htk ht1 ht2 hW hF hx hlen hxr hbw hb2 hf2 hN
   go_wp2_with fail
   refine H57.out.mono ?_
   rintro e W3 ⟨rfl, v3, hW3, hF3⟩
   have HW3 : Hid (WrS W3 w0.heap.size b (t1 ++ normT x) v3) := Lib.hid hW3
   have HF3 := Lib.hid (HF.out.trans hF3)
   clear hW3 hF3 HF H57 x0 x1 x2
   go_wp2_with fail
   go_roundw
   case rel => exact ⟨k + 1, by omega, by simp, ⟨_, by rw [HT2.out]; exact HW3.out⟩, HF3.out⟩
   case measure => simp [intOf]; omega
  ·have hke : k = tb.length := by omega
   subst hke
   rw [List.take_length] at hW
   have HW := Lib.hid hW
   have HF := Lib.hid hF
   clear hW hF
   go_wp2
   refine bodyPost_end (v := .tuple #[]) (by simp [results, Tryz.results78, go_sem]) rfl ?_
   exact ⟨rfl, _, HW.out, HF.out⟩
end Go.Proofs.Ng
end

