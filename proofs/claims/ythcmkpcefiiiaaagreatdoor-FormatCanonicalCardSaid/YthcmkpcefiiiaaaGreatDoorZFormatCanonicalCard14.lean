/-
  Texts put together: Tf Tg Th Ti.
-/
import Derived.Test.YthcmkpcefiiiaaaGreatDoorZFormatCanonicalCard12
import Derived.Test.YthcmkpcefiiiaaaGreatDoorZFormatCanonicalCard13
set_option linter.unusedVariables false
section
/-
 Trees in memory; the table of boxes.
-/
namespace Go.Proofs.Ng
open Go.RowKit
def CellAt (W : World) (r : List Value) (c : Fm.CellD) : Prop := ∃ on ol or cn cl cr, r = celV c on ol or cn cl cr ∧ Sl W on 3 (vecsV c.verd.normals) ∧ Sl W ol 1 (pvals c.verd.left) ∧ Sl W or 1 (pvals c.verd.right)
structure Cells (W : World) (oa : Option Addr) (l : List Fm.CellD) : Prop where
 ex : ∃ rows : List (List Value), rows.length = l.length ∧ Sl W oa 8 rows ∧ ∀ (k : Nat) (r : List Value) (u : Fm.CellD), rows[k]? = some r → l[k]? = some u → CellAt W r u
def TreeAt (W : World) (v : Value) (t : Fm.TreeD) : Prop := ∃ or cr oc cc, v = .agg #[.slice or t.root.length cr, .slice oc t.cells.length cc] ∧ Sl W or 2 (ivs t.root) ∧ Cells W oc t.cells
theorem CellAt.keep {W W' : World} {r : List Value} {c : Fm.CellD} (h : CellAt W r c) (hb : Below W.heap.size W W') : CellAt W' r c := by
 obtain ⟨on, ol, or, cn, cl, cr, rfl, h1, h2, h3⟩ := h
 exact ⟨on, ol, or, cn, cl, cr, rfl, h1.keep hb, h2.keep hb, h3.keep hb⟩
theorem Cells.keep {W W' : World} {oa : Option Addr} {l : List Fm.CellD} (h : Cells W oa l) (hb : Below W.heap.size W W') : Cells W' oa l := by
 obtain ⟨rows, h1, h2, h3⟩ := h.ex
 exact ⟨rows, h1, h2.keep hb, fun k r u hr hu => (h3 k r u hr hu).keep hb⟩
theorem TreeAt.keep {W W' : World} {v : Value} {t : Fm.TreeD} (h : TreeAt W v t) (hb : Below W.heap.size W W') : TreeAt W' v t := by
 obtain ⟨or, cr, oc, cc, rfl, h1, h2⟩ := h
 exact ⟨or, cr, oc, cc, rfl, h1.keep hb, h2.keep hb⟩
theorem Cells.get {W : World} {oa : Option Addr} {l : List Fm.CellD} (h : Cells W oa l) {k : Nat} {u : Fm.CellD} (hk : l[k]? = some u) :
  ∃ b off on ol or cn cl cr, oa = some ⟨b, off, none⟩ ∧ b < W.heap.size ∧ W.cell? ⟨b, off + k * 8, none⟩ = some (.int .i64 u.joint) ∧ W.cell? ⟨b, off + k * 8 + 1, none⟩ = some (.int .i64 u.low) ∧ W.cell? ⟨b, off + k * 8 + 2, none⟩ = some (.int .i64 u.high) ∧ W.cell? ⟨b, off + k * 8 + 3, none⟩ = some (.int .i64 u.verd.kind) ∧ W.cell? ⟨b, off + k * 8 + 4, none⟩ = some (.slice on u.verd.normals.length cn) ∧ W.cell? ⟨b, off + k * 8 + 5, none⟩ = some (.int .i64 u.verd.pair) ∧ W.cell? ⟨b, off + k * 8 + 6, none⟩ = some (.slice ol u.verd.left.length cl) ∧ W.cell? ⟨b, off + k * 8 + 7, none⟩ = some (.slice or u.verd.right.length cr) ∧ Sl W on 3 (vecsV u.verd.normals) ∧ Sl W ol 1 (pvals u.verd.left) ∧ Sl W or 1 (pvals u.verd.right) := by
 obtain ⟨rows, h1, h2, h3⟩ := h.ex
 have hlt := (List.getElem?_eq_some_iff.1 hk).1
 obtain ⟨r, hr⟩ : ∃ r, rows[k]? = some r := ⟨_, List.getElem?_eq_getElem (by rw [h1]; exact hlt)⟩
 obtain ⟨on, ol, or, cn, cl, cr, rfl, hs, ht, hu⟩ := h3 k r u hr hk
 obtain ⟨b, off, e, ha⟩ := h2 (by rintro rfl; simp at hr)
 exact ⟨b, off, on, ol, or, cn, cl, cr, e, ha.lt, ha.c k _ hr 0 _ rfl, ha.c k _ hr 1 _ rfl, ha.c k _ hr 2 _ rfl, ha.c k _ hr 3 _ rfl, ha.c k _ hr 4 _ rfl, ha.c k _ hr 5 _ rfl, ha.c k _ hr 6 _ rfl, ha.c k _ hr 7 _ rfl, hs, ht, hu⟩
/-- The table of the boxes known so far: J is their length. -/
structure Tab (W : World) (g J : Nat) (out : List (Option Fm.BoxD)) (cs : List Value) : Prop where
 bx : Bx W g cs 33
 len : cs.length = out.length
 no : ∀ (i : Nat), out[i]? = some none → cs[i]? = some (.slice none 0 0)
 yes : ∀ (i : Nat) (b : Fm.BoxD), out[i]? = some (some b) → b.length = J ∧ ∃ a c, cs[i]? = some (.slice (some a) J c) ∧ Fp (fun k => k ≠ g ∧ k < W.heap.size) W (fun X => Sl X (some a) 2 (ivs b))
theorem Tab.keep {W X : World} {g J : Nat} {out : List (Option Fm.BoxD)} {cs : List Value} (h : Tab W g J out cs) (hb : Below W.heap.size W X) : Tab X g J out cs :=
 ⟨h.bx.keep hb, h.len, h.no, fun i b hi => ⟨(h.yes i b hi).1, (h.yes i b hi).2.elim fun a h => h.elim fun c h => ⟨a, c, h.1, fun Y hY => h.2 Y fun k hk => (hY k ⟨hk.1, Nat.lt_of_lt_of_le hk.2 hb.size⟩).trans (hb.block k hk.2)⟩⟩⟩
theorem Tab.put {W : World} {g J i c : Nat} {a : Addr} {b : Fm.BoxD} {out : List (Option Fm.BoxD)} {cs : List Value} (h : Tab W g J out cs) (hi : i < out.length) (hb : b.length = J) (hD : Fp (fun k => k ≠ g ∧ k < W.heap.size) W (fun X => Sl X (some a) 2 (ivs b))) :
  Tab (W.setCell ⟨g, i, none⟩ (.slice (some a) J c)) g J (out.set i (some b)) (cs.set i (.slice (some a) J c)) := by
 have hsz : (W.setCell ⟨g, i, none⟩ (.slice (some a) J c)).heap.size = W.heap.size := by simp [World.setCell]
 have hot : ∀ k, k ≠ g → (W.setCell ⟨g, i, none⟩ (.slice (some a) J c)).heap[k]? = W.heap[k]? := fun k hk => Below.heap_setCell W ⟨g, i, none⟩ _ k hk
 have hF : ∀ {Q : World → Prop}, Fp (fun k => k ≠ g ∧ k < W.heap.size) W Q → Fp (fun k => k ≠ g ∧ k < (W.setCell ⟨g, i, none⟩ (.slice (some a) J c)).heap.size) (W.setCell ⟨g, i, none⟩ (.slice (some a) J c)) Q := fun hQ Y hY => hQ Y fun k hk => (hY k ⟨hk.1, by rw [hsz]; exact hk.2⟩).trans (hot k hk.1)
 refine ⟨⟨by simp [World.setCell, Array.getElem?_modify, h.bx.h]⟩, by simp [h.len], fun k hk => ?_, fun k b' hk => ?_⟩
 ·rw [List.getElem?_set] at hk
  split at hk
  ·first | cases hk | (split at hk <;> cases hk)
  ·rename_i hne
   rw [List.getElem?_set_ne hne]
   exact h.no k hk
 ·rw [List.getElem?_set] at hk
  split at hk
  ·rename_i e
   subst e
   try rw [if_pos hi] at hk
   injection hk with hk
   injection hk with hk
   subst hk
   exact ⟨hb, a, c, by rw [List.getElem?_set_self (by rw [h.len]; exact hi)], hF hD⟩
  ·rename_i hne
   obtain ⟨h1, a', c', h2, h3⟩ := h.yes k b' hk
   exact ⟨h1, a', c', by rw [List.getElem?_set_ne hne]; exact h2, hF h3⟩
theorem info33 : (Tryz.prog.info? 33).map (fun i => (i.zero, i.size, i.bytes)) = some (some (.slice none 0 0), 1, 24) := by kernel_rfl
theorem under117 : Tryz.prog.underlying 117 = some (.slice 33) := by kernel_rfl
theorem made_nil (n : Nat) : madeCells #[Value.slice none 0 0] n = (List.replicate n (Value.slice none 0 0)).toArray := by
 apply Array.ext
 ·simp [madeCells]
 ·intro i h1 h2
  simp [madeCells, Nat.mod_one]
theorem run_make117 (n : Nat) (hn : n ≤ 100000) (u : World) : (Instr.makeSlice 117 (.int .i64 (n : Nat)) (.int .i64 (n : Nat))).run Tryz.prog u = .ok (.slice (some ⟨u.heap.size, 0, none⟩) n n) (u.alloc (.cells (List.replicate n (Value.slice none 0 0)).toArray 33)) := by
 obtain ⟨i, hi, hz, hs, hb⟩ := info_parts info33
 have := run_makeSlice (P := Tryz.prog) u 117 33 i (.slice none 0 0) under117 hi hz .i64 .i64 n n (by omega) (Int.le_refl _) (by rw [hs]; simp; omega) (by rw [hb]; simp; omega) (by omega)
 rw [hs] at this
 simp only [Int.toNat_natCast, Nat.mul_one] at this
 have hc : madeCells (Value.slice none 0 0).cells n = (List.replicate n (Value.slice none 0 0)).toArray := made_nil n
 rw [this, hc]
theorem Tab.new (W : World) (n J : Nat) : Tab (W.alloc (.cells (List.replicate n (Value.slice none 0 0)).toArray 33)) W.heap.size J (List.replicate n none) (List.replicate n (Value.slice none 0 0)) := by
 refine ⟨Bx.new W _ 33, by simp, fun i h => ?_, fun i b h => ?_⟩
 ·rw [List.getElem?_replicate] at h ⊢
  split at h
  ·rename_i hi; rw [if_pos hi]
  ·cases h
 ·rw [List.getElem?_replicate] at h
  split at h <;> cases h
theorem eqn_some (a : Addr) (n c : Nat) (w : World) : (binOp .eql 33 (.slice (some a) n c) (.slice none 0 0)).run Tryz.prog w = .ok (.bool false) w := by
 have h : ∀ d : Nat, (Op.equalIn (d + 1) 33 (.slice (some a) n c) (.slice none 0 0)).run Tryz.prog w = .ok false w := fun d => by
  simp [Op.equalIn, run_underlying under33]
 simp only [binOp]
 simp [Op.equal, Op.maxDepth, h 9999]
theorem eqn_none (w : World) : (binOp .eql 33 (.slice none 0 0) (.slice none 0 0)).run Tryz.prog w = .ok (.bool true) w := by
 have h : ∀ d : Nat, (Op.equalIn (d + 1) 33 (.slice none 0 0) (.slice none 0 0)).run Tryz.prog w = .ok true w := fun d => by
  simp [Op.equalIn, run_underlying under33]
 simp only [binOp]
 simp [Op.equal, Op.maxDepth, h 9999]
theorem nen_some (a : Addr) (n c : Nat) (w : World) : (binOp .neq 33 (.slice (some a) n c) (.slice none 0 0)).run Tryz.prog w = .ok (.bool true) w := by
 have h : ∀ d : Nat, (Op.equalIn (d + 1) 33 (.slice (some a) n c) (.slice none 0 0)).run Tryz.prog w = .ok false w := fun d => by
  simp [Op.equalIn, run_underlying under33]
 simp only [binOp]
 simp [Op.equal, Op.maxDepth, h 9999]
theorem nen_none (w : World) : (binOp .neq 33 (.slice none 0 0) (.slice none 0 0)).run Tryz.prog w = .ok (.bool false) w := by
 have h : ∀ d : Nat, (Op.equalIn (d + 1) 33 (.slice none 0 0) (.slice none 0 0)).run Tryz.prog w = .ok true w := fun d => by
  simp [Op.equalIn, run_underlying under33]
 simp only [binOp]
 simp [Op.equal, Op.maxDepth, h 9999]
end Go.Proofs.Ng
end

section
/-
  Walks: the boxes of a tree (the code's way).
-/
namespace Go.Proofs.Ng
open Go.RowKit

/-- What boxes answers, as far as the law looks at it. -/
def BoxP (b : Bool) (w : World) (e : Ending) (W : World) : Prop := (∃ v, e = .returned (.tuple #[v, .bool b])) ∧ Below w.heap.size w W
theorem BoxP.mk {b c : Bool} {v : Value} {w W : World} (h : b = c) (hb : Below w.heap.size w W) : BoxP b w (.returned (.tuple #[v, .bool c])) W := ⟨⟨v, by rw [h]⟩, hb⟩
theorem size_root {t : Fm.TreeD} (h : rootB t.root = false) : Fm.sizeB t = false := by
  unfold rootB at h
  unfold Fm.sizeB
  rw [Bool.and_eq_false_iff] at h ⊢
  rcases h with h | h
  · refine .inl (decide_eq_false fun e => ?_)
    have := of_decide_eq_false h
    omega
  · exact .inr h
theorem size_cells {t : Fm.TreeD} (h : ¬ (1 ≤ t.cells.length ∧ t.cells.length ≤ 2048)) : Fm.sizeB t = false := by
  unfold Fm.sizeB
  rw [decide_eq_false (by omega)]; rfl
theorem rootB_un {b : Fm.BoxD} (h : rootB b = true) : 1 ≤ b.length ∧ b.length ≤ 10 ∧ b.all Fm.validI = true := by
  unfold rootB at h
  rw [Bool.and_eq_true] at h
  have := of_decide_eq_true h.1
  exact ⟨this.1, this.2, h.2⟩

theorem fp_rows {W : World} {b off n : Nat} {l : List (List Value)} {S : Nat → Prop} (h : RowsAt W b off n l) (hS : S b) : Fp S W (fun X => Sl X (some ⟨b, off, none⟩) n l) := by
  intro X hX _
  have e := hX b hS
  refine ⟨b, off, rfl, ⟨?_, fun i r hi k v hv => ?_⟩⟩
  · have : X.heap[b]? ≠ none := by
      rw [e]
      intro h2
      rw [Array.getElem?_eq_none_iff] at h2
      have := h.lt
      omega
    rcases Nat.lt_or_ge b X.heap.size with h2 | h2
    · exact h2
    · exact absurd (Array.getElem?_eq_none h2) this
  · rw [← h.c i r hi k v hv]
    simp [World.cell?, e]
theorem keep16 {W7 X Y : World} {g k n8 : Nat} {v u : Value} (lg : g < W7.heap.size) (lz : n8 < W7.heap.size) (h : X.cell? ⟨g, k, none⟩ = some v ∧ X.cell? ⟨n8, 0, none⟩ = some u ∧ Below W7.heap.size W7 X) (hb : Below X.heap.size X Y) : Y.cell? ⟨g, k, none⟩ = some v ∧ Y.cell? ⟨n8, 0, none⟩ = some u ∧ Below W7.heap.size W7 Y :=
  ⟨(hb.cell (p := ⟨g, k, none⟩) (Nat.lt_of_lt_of_le lg h.2.2.size)).trans h.1, (hb.cell (p := ⟨n8, 0, none⟩) (Nat.lt_of_lt_of_le lz h.2.2.size)).trans h.2.1, below_call h.2.2 hb⟩
theorem Fp.mono' {S : Nat → Prop} {W : World} {Q R : World → Prop} (h : Fp S W Q) (hq : ∀ X, Q X → R X) : Fp S W R := fun X hX => hq X (h X hX)
theorem fp_set {g i : Nat} {v : Value} {W : World} {Q : World → Prop} (h : Fp (fun k => k ≠ g ∧ k < W.heap.size) W Q) : Fp (fun k => k ≠ g ∧ k < (W.setCell ⟨g, i, none⟩ v).heap.size) (W.setCell ⟨g, i, none⟩ v) Q :=
  fun X hX => h X fun k hk => (hX k ⟨hk.1, by simpa [World.setCell] using hk.2⟩).trans (Below.heap_setCell W ⟨g, i, none⟩ v k hk.1)
theorem rep_set0 {A : Type} {n : Nat} {x y : A} (h : 1 ≤ n) : (List.replicate n x).set 0 y = y :: List.replicate (n - 1) x := by
  obtain ⟨m, rfl⟩ : ∃ m, n = m + 1 := ⟨n - 1, by omega⟩
  rfl
set_option maxRecDepth 100000 in
set_option maxHeartbeats 16000000 in
theorem boxes73 (w0 : World) (v : Value) (t : Fm.TreeD) (h : TreeAt w0 v t) (hn : t.root.length ≤ 1000000) (hm : t.cells.length ≤ 1000000) : Calls Tryz.prog 73 #[v] w0 (BoxP (Fm.validT t) w0) := by
  obtain ⟨or, cr, oc, cc, rfl, hr, hc⟩ := h
  by_cases h1 : t.cells.length < 1
  · have E := Lib.hid (Fm.valid_size (size_cells (t := t) (by omega)))
    go_enter Tryz.func73, Tryz.ntmps73
    go_wp2
    refine bodyPost_ret (v := .tuple #[.slice none 0 0, .bool false]) (by simp [results, Tryz.results73, go_sem]) rfl ?_
    exact BoxP.mk E.out ((Below.refl _ _).alloc (Nat.le_refl _) _)
  · by_cases h2 : 2048 < t.cells.length
    · have E := Lib.hid (Fm.valid_size (size_cells (t := t) (by omega)))
      go_enter Tryz.func73, Tryz.ntmps73
      go_wp2
      refine bodyPost_ret (v := .tuple #[.slice none 0 0, .bool false]) (by simp [results, Tryz.results73, go_sem]) rfl ?_
      exact BoxP.mk E.out ((Below.refl _ _).alloc (Nat.le_refl _) _)
    · have hal : Below w0.heap.size w0 (w0.alloc (.cells #[.slice or t.root.length cr, .slice oc t.cells.length cc] 36)) := (Below.refl _ _).alloc (Nat.le_refl _) _
      have HV := Lib.hid (validRoot100 _ or cr t.root (hr.keep hal) (by omega))
      cases hv : rootB t.root with
      | false =>
        have E := Lib.hid (Fm.valid_size (size_root hv))
        rw [hv] at HV
        clear hv hal hr hc
        go_enter Tryz.func73, Tryz.ntmps73
        go_wp2_with fail
        refine HV.out.mono ?_
        rintro e W1 ⟨rfl, hw⟩
        go_wp2
        refine bodyPost_ret (v := .tuple #[.slice none 0 0, .bool false]) (by simp [results, Tryz.results73, go_sem]) rfl ?_
        exact BoxP.mk E.out (((Below.refl _ _).alloc (Nat.le_refl _) _).trans (hw.mono (by simp)))
      | true =>
        rw [hv] at HV
        obtain ⟨j1, j2, hva⟩ := rootB_un hv
        obtain ⟨b, off, rfl, hra⟩ := hr (by intro e; rw [← List.length_eq_zero_iff, ivs_len] at e; omega)
        have hbx0 : Bx (w0.alloc (.cells #[.slice (some ⟨b, off, none⟩) t.root.length cr, .slice oc t.cells.length cc] 36)) w0.heap.size [.slice (some ⟨b, off, none⟩) t.root.length cr, .slice oc t.cells.length cc] 36 := Bx.new w0 _ 36
        generalize hJ : t.root.length = J at HV hal hbx0 hn j1 j2 ⊢
        generalize hN : t.cells.length = N at HV hal hbx0 hm h1 h2 ⊢
        have HJ := Lib.hid hJ
        have HN := Lib.hid hN
        have HR := Lib.hid hr
        have HC := Lib.hid hc
        have HSZ : Hid (Fm.sizeB t = true) := Lib.hid (Fm.size_mk (by rw [hJ, hN]; exact ⟨j1, j2, by omega, by omega, hva⟩))
        clear hr hc hv hJ hN hva
        have hmk := fun u => run_make117 N (by omega) u
        go_enter Tryz.func73, Tryz.ntmps73
        go_wp2_with fail
        refine HV.out.mono ?_
        rintro e W1 ⟨rfl, hw⟩
        have hb1 : Below w0.heap.size w0 W1 := hal.trans (hw.mono (by simp))
        replace hbx0 := hbx0.keep hw
        generalize w0.heap.size = n1 at hbx0 ⊢
        have hlt1 := hbx0.lt
        have hsb : w0.heap.size ≤ W1.heap.size := hb1.size
        go_upto_region 5 with fail
        have hT0 : Tab (W1.alloc (.cells (Array.replicate N (Value.slice none 0 0)) 33)) W1.heap.size J (List.replicate N none) (List.replicate N (Value.slice none 0 0)) := Tab.new W1 N J
        have hX2 := hbx0.keep ((Below.refl W1.heap.size W1).alloc (Nat.le_refl _) (.cells (Array.replicate N (Value.slice none 0 0)) 33))
        have hB2 : Below w0.heap.size w0 (W1.alloc (.cells (Array.replicate N (Value.slice none 0 0)) 33)) := hb1.alloc hsb _
        generalize W1.alloc (.cells (Array.replicate N (Value.slice none 0 0)) 33) = W2 at hT0 hX2 hB2 ⊢
        generalize W1.heap.size = g at hT0 hlt1 hsb ⊢
        have hblt : b < w0.heap.size := hra.lt
        have hP := Tab.put (i := 0) (c := cr) (a := ⟨b, off, none⟩) (b := t.root) hT0 (by rw [List.length_replicate]; omega) HJ.out (fp_rows (hra.keep hB2) ⟨by omega, Nat.lt_of_lt_of_le hblt hB2.size⟩)
        have c0 := hT0.bx.c 0 (.slice none 0 0) (by rw [List.getElem?_replicate, if_pos (by omega)])
        have f0 := hT0.bx.f 0
        have l0 := hT0.bx.lt
        have y0 := hX2.c 0 _ rfl
        have y1 := hX2.c 1 _ rfl
        have ly := hX2.lt
        have hne : ¬ n1 = g := by omega
        go_upto_region 6 with fail
        have hX3 := Bx.other hX2 hne 0 (.slice (some ⟨b, off, none⟩) J cr)
        have hB3 : Below w0.heap.size w0 (W2.setCell ⟨g, 0, none⟩ (.slice (some ⟨b, off, none⟩) J cr)) := hB2.setCell (p := ⟨g, 0, none⟩) (by show w0.heap.size ≤ g; omega) _
        rw [rep_set0 (by omega : 1 ≤ N)] at hP
        obtain ⟨cs0, hcs0⟩ : ∃ cs0, cs0 = (List.replicate N (Value.slice none 0 0)).set 0 (.slice (some ⟨b, off, none⟩) J cr) := ⟨_, rfl⟩
        rw [← hcs0] at hP
        generalize W2.setCell ⟨g, 0, none⟩ (.slice (some ⟨b, off, none⟩) J cr) = W3 at hP hX3 hB3 ⊢
        clear hT0 hX2 hB2 c0 f0 l0 y0 y1 ly hmk hcs0 hw hb1 hal HV hra
        have hK0 : Fm.boxK t 0 = some (some t.root :: List.replicate (N - 1) none) := by rw [Fm.boxK, HN.out]
        have y0 := hX3.c 0 _ rfl
        have y1 := hX3.c 1 _ rfl
        have ly := hX3.lt
        have hgs : w0.heap.size ≤ g := by omega
        go_wp2_with fail
        go_loopw [35] (fun i W => ∃ (k : Nat) (out : List (Option Fm.BoxD)) (cs : List Value), k ≤ N ∧ i = .int .i64 (k : Nat) ∧ Fm.boxK t k = some out ∧ Tab W g J out cs ∧ Bx W n1 [.slice (some ⟨b, off, none⟩) J cr, .slice oc N cc] 36 ∧ Below w0.heap.size w0 W) (fun i _ => N - (intOf i).toNat)
        case atStart => exact ⟨0, _, cs0, Nat.zero_le _, rfl, hK0, hP, hX3, hB3⟩
        case round =>
          clear hP hX3 hB3 hK0 y0 y1 ly
          obtain ⟨k, out, cs, hk, rfl, hbk, hT, hX, hB⟩ := hrel
          by_cases hlt : k < N
          · have hol : out.length = N := by rw [Fm.boxK_len (by rw [HN.out]; omega) hbk, HN.out]
            obtain ⟨u, hu⟩ : ∃ u, t.cells[k]? = some u := ⟨_, List.getElem?_eq_getElem (by rw [HN.out]; exact hlt)⟩
            obtain ⟨gc, oc', on, ol, orr, cn, cl, crr, e1, glt, z0, z1, z2, z3, z4, z5, z6, z7, s1, s2, s3⟩ := (HC.out.keep hB).get hu
            subst e1
            clear s1 s2 s3
            have hsw := hB.size
            have hg8 := hT.bx.lt
            have hnk : k < t.cells.length := by rw [HN.out]; exact hlt
            go_upto_region 9 with fail
            have hX8 := Bx.new wr [.int .i64 u.joint, .int .i64 u.low, .int .i64 u.high, .int .i64 u.verd.kind, .slice on u.verd.normals.length cn, .int .i64 u.verd.pair, .slice ol u.verd.left.length cl, .slice orr u.verd.right.length crr] 85
            have hb8 : Below wr.heap.size wr (wr.alloc (.cells #[.int .i64 u.joint, .int .i64 u.low, .int .i64 u.high, .int .i64 u.verd.kind, .slice on u.verd.normals.length cn, .int .i64 u.verd.pair, .slice ol u.verd.left.length cl, .slice orr u.verd.right.length crr] 85)) := (Below.refl _ _).alloc (Nat.le_refl _) _
            replace hT := hT.keep hb8
            replace hX := hX.keep hb8
            replace hB := below_call hB hb8
            have hnn := hX8.lt
            generalize wr.alloc (.cells #[.int .i64 u.joint, .int .i64 u.low, .int .i64 u.high, .int .i64 u.verd.kind, .slice on u.verd.normals.length cn, .int .i64 u.verd.pair, .slice ol u.verd.left.length cl, .slice orr u.verd.right.length crr] 85) = W5 at hT hX hB hX8 hb8 hnn ⊢
            generalize wr.heap.size = n8 at hX8 hb8 hg8 hnn hsw ⊢
            clear z0 z1 z2 z3 z4 z5 z6 z7 glt hb8
            obtain ⟨o, ho⟩ : ∃ o, out[k]? = some o := ⟨_, List.getElem?_eq_getElem (by omega)⟩
            cases o with
            | none =>
              have E := Lib.hid (Fm.valid_no hnk hbk (Fm.stepB_nobox ho))
              have d0 := hT.bx.c k _ (hT.no k ho)
              have dl := hT.bx.lt
              have heq := eqn_none
              clear hT hX hX8 hbk
              go_wp2
              refine bodyPost_ret (v := .tuple #[.slice none 0 0, .bool false]) (by simp [results, Tryz.results73, go_sem]) rfl ?_
              exact BoxP.mk E.out hB
            | some bx =>
              obtain ⟨hbl, a, cx, hcx, hD⟩ := hT.yes k bx ho
              have d0 := hT.bx.c k _ hcx
              have dl := hT.bx.lt
              have heq := eqn_some a J cx
              have hneq := nen_some
              have hnen := nen_none
              have HLF := Lib.hid (fun (e1 : Fm.leafB u = true) (e2 : Fm.formB u.verd = false) => Fm.valid_no hnk hbk (Fm.stepB_noform ho hu e1 e2))
              have HLY := Lib.hid (fun (e1 : Fm.leafB u = true) (e2 : Fm.formB u.verd = true) => (show Fm.boxK t (k + 1) = some out by rw [Fm.boxK, hbk]; exact Fm.stepB_leaf ho hu e1 e2))
              have HBK := Lib.hid hbk
              have HT := Lib.hid hT
              have HX := Lib.hid hX
              have HX8 := Lib.hid hX8
              have HB := Lib.hid hB
              have HU := Lib.hid hu
              have HO := Lib.hid ho
              have HNK := Lib.hid hnk
              have HOL := Lib.hid hol
              have HCX := Lib.hid hcx
              clear hT hX hB hbk hD hu ho hcx hnk hol
              have z0 := hX8.c 0 _ rfl
              have z1 := hX8.c 1 _ rfl
              have z2 := hX8.c 2 _ rfl
              have z3 := hX8.c 3 _ rfl
              have z4 := hX8.c 4 _ rfl
              have z5 := hX8.c 5 _ rfl
              have z6 := hX8.c 6 _ rfl
              have z7 := hX8.c 7 _ rfl
              clear hX8
              go_wp2_with fail
              refine (leaf101 u on ol orr cn cl crr _).mono ?_
              rintro e W6 ⟨rfl, hw6⟩
              replace HT := Lib.hid (HT.out.keep hw6)
              replace HX := Lib.hid (HX.out.keep hw6)
              replace HX8 := Lib.hid (HX8.out.keep hw6)
              have HB6 := Lib.hid (below_call HB.out hw6)
              clear z0 z1 z2 z3 z4 z5 z6 z7 d0 dl hw6 HB hnn
              have z0 := HX8.out.c 0 _ rfl
              have z1 := HX8.out.c 1 _ rfl
              have z2 := HX8.out.c 2 _ rfl
              have z3 := HX8.out.c 3 _ rfl
              have z4 := HX8.out.c 4 _ rfl
              have z5 := HX8.out.c 5 _ rfl
              have z6 := HX8.out.c 6 _ rfl
              have z7 := HX8.out.c 7 _ rfl
              have lz := HX8.out.lt
              cases hlb : Fm.leafB u with
              | true =>
                go_wp2_with fail
                refine (form102 u.verd on ol orr cn cl crr _).mono ?_
                rintro e W7 ⟨rfl, hw7⟩
                have HB7 := Lib.hid (below_call HB6.out hw7)
                cases hf : Fm.formB u.verd with
                | false =>
                  have E := Lib.hid (HLF.out hlb hf)
                  go_wp2
                  refine bodyPost_ret (v := .tuple #[.slice none 0 0, .bool false]) (by simp [results, Tryz.results73, go_sem]) rfl ?_
                  exact BoxP.mk E.out HB7.out
                | true =>
                  go_wp2_with fail
                  go_roundw
                  case rel => exact ⟨k + 1, out, cs, by omega, by simp, HLY.out hlb hf, HT.out.keep hw7, HX.out.keep hw7, HB7.out⟩
                  case measure => simp [intOf]; omega
              | false =>
                have HNO := Lib.hid (fun (e2 : ¬ ((k : Int) < u.low ∧ u.low < (N : Nat) ∧ (k : Int) < u.high ∧ u.high < (N : Nat) ∧ u.low ≠ u.high)) => Fm.valid_no HNK.out HBK.out (Fm.stepB_nocond HO.out HU.out hlb (fun h => e2 (by have h2 := h.2; rw [HN.out] at h2; exact h2))))
                have HZN := Lib.hid (fun (e2 : Fm.zeroB u.verd = false) => Fm.valid_no HNK.out HBK.out (Fm.stepB_nocond HO.out HU.out hlb (fun h => by rw [e2] at h; exact absurd h.1 (by decide))))
                have HHN := Lib.hid (fun (e2 : Fm.halve bx u.joint = none) => Fm.valid_no HNK.out HBK.out (Fm.stepB_nohalve HO.out HU.out hlb e2))
                have HTK := Lib.hid (fun (e2 : ¬ (out[u.low.toNat]? = some none ∧ out[u.high.toNat]? = some none)) => Fm.valid_no HNK.out HBK.out (Fm.stepB_taken HO.out HU.out hlb e2))
                have HYS := Lib.hid (fun (x y : Fm.BoxD) (e1 : Fm.zeroB u.verd = true) (e2 : (k : Int) < u.low ∧ u.low < (N : Nat) ∧ (k : Int) < u.high ∧ u.high < (N : Nat) ∧ u.low ≠ u.high) (e3 : Fm.halve bx u.joint = some (x, y)) (e4 : out[u.low.toNat]? = some none) (e5 : out[u.high.toNat]? = some none) => (show Fm.boxK t (k + 1) = some ((out.set u.low.toNat (some x)).set u.high.toNat (some y)) by
                  rw [Fm.boxK, HBK.out]
                  have e2' := e2
                  rw [← HN.out] at e2'
                  exact Fm.stepB_node HO.out HU.out hlb e1 e2'.1 e2'.2.1 e2'.2.2.1 e2'.2.2.2.1 e2'.2.2.2.2 e4 e5 e3))
                have HZER := Lib.hid (fun X => zero103 u.verd on ol orr cn cl crr X)
                clear HLF HLY HU
                generalize u.low = ul at *
                generalize u.high = uh at *
                generalize u.joint = uj at *
                by_cases q0 : ul ≤ (k : Int)
                · have b0 : decide (ul ≤ (k : Int)) = true := decide_eq_true q0
                  have E := Lib.hid (HNO.out (by omega))
                  go_wp2
                  refine bodyPost_ret (v := .tuple #[.slice none 0 0, .bool false]) (by simp [results, Tryz.results73, go_sem]) rfl ?_
                  exact BoxP.mk E.out HB6.out
                · have b0 : decide (ul ≤ (k : Int)) = false := decide_eq_false q0
                  by_cases q1 : (N : Int) ≤ ul
                  · have b1 : decide ((N : Int) ≤ ul) = true := decide_eq_true q1
                    have E := Lib.hid (HNO.out (by omega))
                    go_wp2
                    refine bodyPost_ret (v := .tuple #[.slice none 0 0, .bool false]) (by simp [results, Tryz.results73, go_sem]) rfl ?_
                    exact BoxP.mk E.out HB6.out
                  · have b1 : decide ((N : Int) ≤ ul) = false := decide_eq_false q1
                    by_cases q2 : uh ≤ (k : Int)
                    · have b2 : decide (uh ≤ (k : Int)) = true := decide_eq_true q2
                      have E := Lib.hid (HNO.out (by omega))
                      go_wp2
                      refine bodyPost_ret (v := .tuple #[.slice none 0 0, .bool false]) (by simp [results, Tryz.results73, go_sem]) rfl ?_
                      exact BoxP.mk E.out HB6.out
                    · have b2 : decide (uh ≤ (k : Int)) = false := decide_eq_false q2
                      by_cases q3 : (N : Int) ≤ uh
                      · have b3 : decide ((N : Int) ≤ uh) = true := decide_eq_true q3
                        have E := Lib.hid (HNO.out (by omega))
                        go_wp2
                        refine bodyPost_ret (v := .tuple #[.slice none 0 0, .bool false]) (by simp [results, Tryz.results73, go_sem]) rfl ?_
                        exact BoxP.mk E.out HB6.out
                      · have b3 : decide ((N : Int) ≤ uh) = false := decide_eq_false q3
                        by_cases q4 : ul = uh
                        · have b4 : (ul == uh) = true := beq_iff_eq.2 q4
                          have E := Lib.hid (HNO.out (by omega))
                          clear q4
                          go_wp2
                          refine bodyPost_ret (v := .tuple #[.slice none 0 0, .bool false]) (by simp [results, Tryz.results73, go_sem]) rfl ?_
                          exact BoxP.mk E.out HB6.out
                        · have b4 : (ul == uh) = false := beq_eq_false_iff_ne.2 q4
                          go_wp2_with fail
                          refine (HZER.out _).mono ?_
                          rintro e W7 ⟨rfl, hw7⟩
                          replace HT := Lib.hid (HT.out.keep hw7)
                          replace HX := Lib.hid (HX.out.keep hw7)
                          replace HX8 := Lib.hid (HX8.out.keep hw7)
                          have HB7 := Lib.hid (below_call HB6.out hw7)
                          clear z0 z1 z2 z3 z4 z5 z6 z7 lz hw7 HB6
                          cases hz : Fm.zeroB u.verd with
                          | false =>
                            have E := Lib.hid (HZN.out hz)
                            go_wp2
                            refine bodyPost_ret (v := .tuple #[.slice none 0 0, .bool false]) (by simp [results, Tryz.results73, go_sem]) rfl ?_
                            exact BoxP.mk E.out HB7.out
                          | true =>
                            obtain ⟨lN, rfl⟩ : ∃ lN : Nat, ul = (lN : Nat) := ⟨ul.toNat, by omega⟩
                            obtain ⟨hN', rfl⟩ : ∃ hN' : Nat, uh = (hN' : Nat) := ⟨uh.toNat, by omega⟩
                            have hl1 : lN < N := by omega
                            have hh1 : hN' < N := by omega
                            have hlh : lN ≠ hN' := by omega
                            obtain ⟨hbl2, a2, cx2, hcx2, hD2⟩ := HT.out.yes k bx HO.out
                            obtain ⟨-, rfl, hcc⟩ : cs = cs ∧ a2 = a ∧ cx2 = cx := by
                              rw [HCX.out] at hcx2
                              injection hcx2 with hcx2
                              injection hcx2 with e1 _ e3
                              injection e1 with e1
                              exact ⟨rfl, e1.symm, e3.symm⟩
                            subst hcc
                            have HD2 := Lib.hid hD2
                            have HHV := Lib.hid (fun X (hX : Below W7.heap.size W7 X) => (show Calls Tryz.prog 104 #[.slice (some a2) J cx2, .int .i64 uj] X (HalvP bx uj X) by
                              have := halve104 X (some a2) cx2 bx uj (Sl.keep HD2.out.now hX) (by omega)
                              rw [hbl2] at this
                              exact this))
                            have d0 := HT.out.bx.c k _ hcx2
                            have z0 := HX8.out.c 0 _ rfl
                            have z1 := HX8.out.c 1 _ rfl
                            have z2 := HX8.out.c 2 _ rfl
                            have lz := HX8.out.lt
                            have lg := HT.out.bx.lt
                            clear hD2 hcx2
                            have hS0 : W7.cell? ⟨g, k, none⟩ = some (.slice (some a2) J cx2) ∧ W7.cell? ⟨n8, 0, none⟩ = some (.int .i64 uj) ∧ Below W7.heap.size W7 W7 := ⟨d0, z0, Below.refl _ _⟩
                            cases hh : Fm.halve bx uj with
                            | none =>
                              have E := Lib.hid (HHN.out hh)
                              have HHX := Lib.hid (fun X (hX : Below W7.heap.size W7 X) => (HHV.out X hX).mono (fun e Xa h => (show e = .returned (.tuple #[.slice none 0 0, .slice none 0 0, .bool false]) ∧ Below X.heap.size X Xa by unfold HalvP at h; rw [hh] at h; exact h)))
                              clear HHV
                              go_upto_region 16 with fail
                              go_region_held3 (fun X => X.cell? ⟨g, k, none⟩ = some (.slice (some a2) J cx2) ∧ X.cell? ⟨n8, 0, none⟩ = some (.int .i64 uj) ∧ Below W7.heap.size W7 X)
                                (first
                                  | assumption
                                  | exact hS0
                                  | exact keep16 lg lz (by assumption) (by assumption)
                                  | exact keep16 lg lz (by assumption) (Below.refl _ _).drew)
                                (first
                                  | (go_at_call 104
                                     with_reducible refine (HHX.out _ (by assumption : _ ∧ _ ∧ Below W7.heap.size W7 _).2.2).mono ?_
                                     rintro e Xa ⟨rfl, hba⟩))
                              have hS9 := (by assumption : Xa.cell? ⟨g, k, none⟩ = some (.slice (some a2) J cx2) ∧ Xa.cell? ⟨n8, 0, none⟩ = some (.int .i64 uj) ∧ Below W7.heap.size W7 Xa)
                              go_wp2
                              refine bodyPost_ret (v := .tuple #[.slice none 0 0, .bool false]) (by simp [results, Tryz.results73, go_sem]) rfl ?_
                              exact BoxP.mk E.out (below_call HB7.out hS9.2.2)
                            | some xy =>
                              obtain ⟨x, y⟩ := xy
                              have hlen := Fm.halve_len hh
                              have hjj := Fm.halve_in hh
                              have HHX := Lib.hid (fun X (hX : Below W7.heap.size W7 X) => (HHV.out X hX).mono (fun e Xa h => (show (∃ ax ay c1 c2, e = .returned (.tuple #[.slice (some ax) J c1, .slice (some ay) J c2, .bool true]) ∧ Fp (fun k => k ≠ g ∧ k < Xa.heap.size) Xa (fun X => Sl X (some ax) 2 (ivs x) ∧ Sl X (some ay) 2 (ivs y))) ∧ Below X.heap.size X Xa by
                                unfold HalvP at h
                                rw [hh] at h
                                obtain ⟨⟨ax, ay, c1, c2, h1, -, -, h4⟩, h5⟩ := h
                                rw [hbl2] at h1
                                exact ⟨⟨ax, ay, c1, c2, h1, Fp.mono h4 fun k hk => ⟨by have := hX.size; have := hk.1; omega, hk.2⟩⟩, h5⟩)))
                              clear HHV
                              go_upto_region 16 with fail
                              go_region_held3 (fun X => X.cell? ⟨g, k, none⟩ = some (.slice (some a2) J cx2) ∧ X.cell? ⟨n8, 0, none⟩ = some (.int .i64 uj) ∧ Below W7.heap.size W7 X)
                                (first
                                  | assumption
                                  | exact hS0
                                  | exact keep16 lg lz (by assumption) (by assumption)
                                  | exact keep16 lg lz (by assumption) (Below.refl _ _).drew)
                                (first
                                  | (go_at_call 104
                                     with_reducible refine (HHX.out _ (by assumption : _ ∧ _ ∧ Below W7.heap.size W7 _).2.2).mono ?_
                                     rintro e Xa ⟨⟨ax, ay, c1, c2, rfl, hFp⟩, hba⟩))
                              have hS9 := (by assumption : Xa.cell? ⟨g, k, none⟩ = some (.slice (some a2) J cx2) ∧ Xa.cell? ⟨n8, 0, none⟩ = some (.int .i64 uj) ∧ Below W7.heap.size W7 Xa).2.2
                              have hT9 := HT.out.keep hS9
                              have hX9 := HX.out.keep hS9
                              have hX89 := HX8.out.keep hS9
                              have HB9 := Lib.hid (below_call HB7.out hS9)
                              clear d0 z0 z1 z2 lz lg hS0 hba
                              have z0 := hX89.c 0 _ rfl
                              have z1 := hX89.c 1 _ rfl
                              have z2 := hX89.c 2 _ rfl
                              have lz := hX89.lt
                              have lg := hT9.bx.lt
                              obtain ⟨o1, ho1⟩ : ∃ o, out[lN]? = some o := ⟨_, List.getElem?_eq_getElem (by rw [HOL.out]; exact hl1)⟩
                              obtain ⟨o2, ho2⟩ : ∃ o, out[hN']? = some o := ⟨_, List.getElem?_eq_getElem (by rw [HOL.out]; exact hh1)⟩
                              cases o1 with
                              | some b1 =>
                                obtain ⟨-, a1, ca1, e1, -⟩ := hT9.yes lN b1 ho1
                                have d1 := hT9.bx.c lN _ e1
                                have E := Lib.hid (HTK.out (by intro h; have := h.1; rw [Int.toNat_natCast, ho1] at this; cases this))
                                clear hT9 hX9 hX89 hFp e1 ho1 ho2 hlen HTK HYS
                                go_wp2
                                refine bodyPost_ret (v := .tuple #[.slice none 0 0, .bool false]) (by simp [results, Tryz.results73, go_sem]) rfl ?_
                                exact BoxP.mk E.out HB9.out
                              | none =>
                                have d1 := hT9.bx.c lN _ (hT9.no lN ho1)
                                cases o2 with
                                | some b2 =>
                                  obtain ⟨-, a1, ca1, e1, -⟩ := hT9.yes hN' b2 ho2
                                  have d2 := hT9.bx.c hN' _ e1
                                  have E := Lib.hid (HTK.out (by intro h; have := h.2; rw [Int.toNat_natCast, ho2] at this; cases this))
                                  clear hT9 hX9 hX89 hFp e1 ho1 ho2 hlen HTK HYS
                                  go_wp2
                                  refine bodyPost_ret (v := .tuple #[.slice none 0 0, .bool false]) (by simp [results, Tryz.results73, go_sem]) rfl ?_
                                  exact BoxP.mk E.out HB9.out
                                | none =>
                                  have d2 := hT9.bx.c hN' _ (hT9.no hN' ho2)
                                  have e6 := HYS.out x y hz (by omega) hh (by rw [Int.toNat_natCast]; exact ho1) (by rw [Int.toNat_natCast]; exact ho2)
                                  simp only [Int.toNat_natCast] at e6
                                  have E6 := Lib.hid e6
                                  have p1 := Tab.put (c := c1) hT9 (by rw [HOL.out]; exact hl1) (by rw [hlen.1]; exact hbl2) (hFp.mono' fun X h => h.1)
                                  have p2 := Tab.put (i := hN') (c := c2) (b := y) (a := ay) p1 (by rw [List.length_set, HOL.out]; exact hh1) (by rw [hlen.2]; exact hbl2) (fp_set (hFp.mono' fun X h => h.2))
                                  have P2 := Lib.hid p2
                                  have hng : ¬ n8 = g := by omega
                                  have hn1 : ¬ n1 = g := by omega
                                  have hx9 := Bx.other (Bx.other hX9 hn1 lN (.slice (some ax) J c1)) hn1 hN' (.slice (some ay) J c2)
                                  have HX9 := Lib.hid hx9
                                  have HB10 := Lib.hid ((HB9.out.setCell (p := ⟨g, lN, none⟩) (by show w0.heap.size ≤ g; omega) (.slice (some ax) J c1)).setCell (p := ⟨g, hN', none⟩) (by show w0.heap.size ≤ g; omega) (.slice (some ay) J c2))
                                  have f1 := hT9.bx.f lN
                                  have f2 := hT9.bx.f hN'
                                  clear hX89 hT9 hX9 hFp ho1 ho2 hlen HTK HYS e6 p1 p2 hx9
                                  go_upto_region 19 with fail
                                  go_region
                                  go_wp2_with fail
                                  go_roundw
                                  case rel => exact ⟨k + 1, _, _, by omega, by simp, E6.out, P2.out.keep (Below.refl _ _).drew, HX9.out.keep (Below.refl _ _).drew, HB10.out.drew⟩
                                  case measure => simp [intOf]; omega
          · have hke : k = N := by omega
            subst hke
            have E : Fm.validT t = true := by
              unfold Fm.validT Fm.boxesT
              rw [if_pos (by exact HSZ.out), HN.out, hbk]; rfl
            go_wp2
            refine bodyPost_ret (v := .tuple #[.slice (some ⟨g, 0, none⟩) k k, .bool true]) (by simp [results, Tryz.results73, go_sem]) rfl ?_
            exact BoxP.mk E hB
end Go.Proofs.Ng
end

section
/-
 Walks: whether a tree is valid.
-/
namespace Go.Proofs.Ng
open Go.RowKit
theorem catch72_idle (p : Addr) (w : World) :
  CallsD Tryz.prog 72 #[.pointer (some p)] .returning w fun e u' w' => e = .returned (.tuple #[]) ∧ u' = .returning ∧ w' = w := by
 refine callsD_of_wpS Tryz.func72 rfl fun c₀ cs hu => ?_
 apply wpS_seq
 apply wpS_region
 simp [wpOpsS, go_sem, recoverD, hu, Tryz.ntmps72, Exit.thenS]
 refine wpS_cond (t := false) (by simp [Act.eval, Array.replicate]) ?_
 simp only [Bool.false_eq_true, if_false]
 refine wpS_of_wp (wp_skip ?_)
 cases c₀
 simp_all [bodyPostS, results, Tryz.results72]
set_option maxRecDepth 100000 in
set_option maxHeartbeats 8000000 in
theorem valid46 (w0 : World) (v : Value) (t : Fm.TreeD) (h : TreeAt w0 v t) (hn : t.root.length ≤ 1000000) (hm : t.cells.length ≤ 1000000) : Calls Tryz.prog 46 #[v] w0 (BoolP (Fm.validT t) w0) := by
 have hmf : ∀ (fn : Fn) (first cap : Array Value) (w : World), (Instr.makeFunc fn first cap).run Tryz.prog w = .ok (.func fn first cap) w := fun _ _ _ _ => rfl
 have H73 := Lib.hid (fun X (hX : Below w0.heap.size w0 X) => boxes73 X v t (h.keep hX) hn hm)
 obtain ⟨or, cr, oc, cc, rfl, hr, hc⟩ := h
 clear hr hc
 generalize t.root.length = J at H73
 generalize t.cells.length = N at H73
 generalize Fm.validT t = bv at H73
 go_enter_defers Tryz.func46, Tryz.ntmps46
 go_wp2_with fail
 have hb1 : Below w0.heap.size w0 ((w0.alloc (.cells #[.slice or J cr, .slice oc N cc] 36)).alloc (.cells #[.bool false] 4)) := ((Below.refl _ _).alloc (Nat.le_refl _) _).alloc (by simp) _
 have hx := Bx.new (w0.alloc (.cells #[.slice or J cr, .slice oc N cc] 36)) [.bool false] 4
 have hs1 : (w0.alloc (.cells #[.slice or J cr, .slice oc N cc] 36)).heap.size = w0.heap.size + 1 := by simp
 rw [hs1] at hx
 generalize ((w0.alloc (.cells #[.slice or J cr, .slice oc N cc] 36)).alloc (.cells #[.bool false] 4)) = W1 at hb1 hx ⊢
 obtain ⟨n2, hn2⟩ : ∃ n, n = w0.heap.size + 1 := ⟨_, rfl⟩
 rw [← hn2] at hx ⊢
 clear hs1
 refine (H73.out W1 hb1).mono ?_
 rintro e W2 ⟨⟨v, rfl⟩, hw⟩
 have hb2 := below_call hb1 hw
 replace hx := hx.keep hw
 have c0 := hx.c 0 _ rfl
 have f0 := hx.f 0
 have l0 := hx.lt
 have hle : w0.heap.size ≤ n2 := by omega
 have HB := Lib.hid ((hb2.setCell (p := ⟨n2, 0, none⟩) hle (.bool bv)).setCell (p := ⟨n2, 0, none⟩) hle (.bool bv))
 have HX := Lib.hid (Bx.put (Bx.put hx (.bool bv)) (.bool bv))
 clear hx hw hb1 hb2 hn2 hle
 go_wp2
 refine leaves_cons (f := 72) (args := #[.pointer (some ⟨n2, 0, none⟩)]) (by simp) (by simp [go_sem]) ?_
 refine (catch72_idle ⟨n2, 0, none⟩ _).mono ?_
 rintro e u' w'' ⟨rfl, rfl, rfl⟩
 have d0 := HX.out.c 0 _ rfl
 simp [Leaves, settle, results, Tryz.results46, go_sem, d0]
 exact ⟨rfl, HB.out⟩
end Go.Proofs.Ng
end

section
/-
  Walks: the boxes of a valid tree (the reference's way).
-/
namespace Go.Proofs.Ng
open Go.RowKit

/-- What Boxes answers at a valid tree. -/
def BxsP (t : Fm.TreeD) (out : List (Option Fm.BoxD)) (w : World) (e : Ending) (W : World) : Prop := ∃ g cs, e = .returned (.tuple #[.slice (some ⟨g, 0, none⟩) t.cells.length t.cells.length, .bool true]) ∧ Tab W g t.root.length out cs ∧ w.heap.size ≤ g ∧ Below w.heap.size w W

set_option maxRecDepth 100000 in
set_option maxHeartbeats 16000000 in
theorem boxes60 (w0 : World) (v : Value) (t : Fm.TreeD) (out0 : List (Option Fm.BoxD)) (h : TreeAt w0 v t) (hB0 : Fm.boxesT t = some out0) : Calls Tryz.prog 60 #[v] w0 (BxsP t out0 w0) := by
  obtain ⟨or, cr, oc, cc, rfl, hr, hc⟩ := h
  have hvt : Fm.validT t = true := by unfold Fm.validT; rw [hB0]; rfl
  obtain ⟨hsz, outF, hoF, hkF⟩ := Fm.valid_un hvt
  rw [hB0] at hoF
  injection hoF with hoF
  subst hoF
  obtain ⟨j1, j2, n1', n2', hva⟩ := Fm.size_un hsz
  obtain ⟨b, off, rfl, hra⟩ := hr (by intro e; rw [← List.length_eq_zero_iff, ivs_len] at e; omega)
  have hbx0 : Bx (w0.alloc (.cells #[.slice (some ⟨b, off, none⟩) t.root.length cr, .slice oc t.cells.length cc] 36)) w0.heap.size [.slice (some ⟨b, off, none⟩) t.root.length cr, .slice oc t.cells.length cc] 36 := Bx.new w0 _ 36
  have hal : Below w0.heap.size w0 (w0.alloc (.cells #[.slice (some ⟨b, off, none⟩) t.root.length cr, .slice oc t.cells.length cc] 36)) := (Below.refl _ _).alloc (Nat.le_refl _) _
  unfold BxsP
  generalize hJ : t.root.length = J at hal hbx0 j1 j2 ⊢
  generalize hN : t.cells.length = N at hal hbx0 n1' n2' hkF ⊢
  have HJ := Lib.hid hJ
  have HN := Lib.hid hN
  have HR := Lib.hid hr
  have HRA := Lib.hid hra
  have HC := Lib.hid hc
  have HVA := Lib.hid hva
  have HVT := Lib.hid hvt
  have HKF := Lib.hid hkF
  clear hr hc hJ hN hva hvt hsz hB0 hkF
  have hmk := fun u => run_make117 N (by omega) u
  go_enter Tryz.func60, Tryz.ntmps60
  have y0 := hbx0.c 0 _ rfl
  have y1 := hbx0.c 1 _ rfl
  have ly := hbx0.lt
  go_upto_region 4 with fail
  generalize w0.alloc (.cells #[.slice (some ⟨b, off, none⟩) J cr, .slice oc N cc] 36) = W1 at hbx0 hal y0 y1 ly ⊢
  obtain ⟨n1, hn1⟩ : ∃ n, n = w0.heap.size := ⟨_, rfl⟩
  rw [← hn1] at hbx0 y0 y1 ly ⊢
  have hle1 : w0.heap.size ≤ n1 := by omega
  clear hn1
  go_wp2_with fail
  go_loopw [5] (fun i W => ∃ k : Nat, k ≤ J ∧ i = .int .i64 (k : Nat) ∧ Bx W n1 [.slice (some ⟨b, off, none⟩) J cr, .slice oc N cc] 36 ∧ Below w0.heap.size w0 W) (fun i _ => J - (intOf i).toNat)
  case atStart => exact ⟨0, Nat.zero_le _, rfl, hbx0, hal⟩
  case round =>
    clear hbx0 hal y0 y1 ly
    obtain ⟨k, hk, rfl, hX, hB⟩ := hrel
    have y0 := hX.c 0 _ rfl
    have y1 := hX.c 1 _ rfl
    have ly := hX.lt
    by_cases hlt : k < J
    · obtain ⟨x, hx⟩ : ∃ v, t.root[k]? = some v := ⟨_, List.getElem?_eq_getElem (by rw [HJ.out]; exact hlt)⟩
      obtain ⟨g', off', e1, glt, x0, x1⟩ := iv_get (HR.out.keep hB) hx
      injection e1 with e1
      injection e1 with e1 e2 _
      subst e1 e2
      have hq : Fm.validI (x.1, x.2) = true := all_at HVA.out hx
      go_wp2_with fail
      refine (valid89 x.1 x.2 _).mono ?_
      rintro e W2 ⟨rfl, hw⟩
      rw [hq]
      have HX := Lib.hid (hX.keep hw)
      have HB := Lib.hid (below_call hB hw)
      clear hX hB hw y0 y1 ly x0 x1 hx hq
      go_wp2_with fail
      go_roundw
      case rel => exact ⟨k + 1, by omega, by simp, HX.out, HB.out⟩
      case measure => simp [intOf]; omega
    · have hke : J = k := by omega
      subst hke
      have hlt1 := hX.lt
      have hsb : w0.heap.size ≤ wr.heap.size := hB.size
      go_upto_region 10 with fail
      have hT0 : Tab (wr.alloc (.cells (Array.replicate N (Value.slice none 0 0)) 33)) wr.heap.size J (List.replicate N none) (List.replicate N (Value.slice none 0 0)) := Tab.new wr N J
      have hX2 := hX.keep ((Below.refl wr.heap.size wr).alloc (Nat.le_refl _) (.cells (Array.replicate N (Value.slice none 0 0)) 33))
      have hB2 : Below w0.heap.size w0 (wr.alloc (.cells (Array.replicate N (Value.slice none 0 0)) 33)) := hB.alloc hsb _
      clear hX hB y0 y1 ly
      generalize wr.alloc (.cells (Array.replicate N (Value.slice none 0 0)) 33) = W2 at hT0 hX2 hB2 ⊢
      generalize wr.heap.size = g at hT0 hlt1 hsb ⊢
      have hblt : b < w0.heap.size := HRA.out.lt
      have hP := Tab.put (i := 0) (c := cr) (a := ⟨b, off, none⟩) (b := t.root) hT0 (by rw [List.length_replicate]; omega) HJ.out (fp_rows (HRA.out.keep hB2) ⟨by omega, Nat.lt_of_lt_of_le hblt hB2.size⟩)
      have c0 := hT0.bx.c 0 (.slice none 0 0) (by rw [List.getElem?_replicate, if_pos (by omega)])
      have f0 := hT0.bx.f 0
      have l0 := hT0.bx.lt
      have y0 := hX2.c 0 _ rfl
      have y1 := hX2.c 1 _ rfl
      have ly := hX2.lt
      have hne : ¬ n1 = g := by omega
      go_upto_region 11 with fail
      have hX3 := Bx.other hX2 hne 0 (.slice (some ⟨b, off, none⟩) J cr)
      have hB3 : Below w0.heap.size w0 (W2.setCell ⟨g, 0, none⟩ (.slice (some ⟨b, off, none⟩) J cr)) := hB2.setCell (p := ⟨g, 0, none⟩) (by show w0.heap.size ≤ g; omega) _
      rw [rep_set0 (by omega : 1 ≤ N)] at hP
      obtain ⟨cs0, hcs0⟩ : ∃ cs0, cs0 = (List.replicate N (Value.slice none 0 0)).set 0 (.slice (some ⟨b, off, none⟩) J cr) := ⟨_, rfl⟩
      rw [← hcs0] at hP
      generalize W2.setCell ⟨g, 0, none⟩ (.slice (some ⟨b, off, none⟩) J cr) = W3 at hP hX3 hB3 ⊢
      clear hT0 hX2 hB2 c0 f0 l0 y0 y1 ly hmk hcs0
      have hK0 : Fm.boxK t 0 = some (some t.root :: List.replicate (N - 1) none) := by rw [Fm.boxK, HN.out]
      go_wp2_with fail
      go_loopw [7] (fun i W => ∃ (k : Nat) (out : List (Option Fm.BoxD)) (cs : List Value), k ≤ N ∧ i = .int .i64 (k : Nat) ∧ Fm.boxK t k = some out ∧ Tab W g J out cs ∧ Bx W n1 [.slice (some ⟨b, off, none⟩) J cr, .slice oc N cc] 36 ∧ Below w0.heap.size w0 W) (fun i _ => N - (intOf i).toNat)
      case atStart => exact ⟨0, _, cs0, Nat.zero_le _, rfl, hK0, hP, hX3, hB3⟩
      case round =>
        clear hP hX3 hB3 hK0
        obtain ⟨k, out, cs, hk, rfl, hbk, hT, hX, hB⟩ := hrel
        by_cases hlt : k < N
        · have hol : out.length = N := by rw [Fm.boxK_len (by rw [HN.out]; omega) hbk, HN.out]
          obtain ⟨out2, hst, hbk2⟩ := Fm.step_more HVT.out (by rw [HN.out]; exact hlt) hbk
          obtain ⟨bx, u, ho, hu, hcase⟩ := Fm.stepB_un hst
          obtain ⟨gc, oc', on, ol, orr, cn, cl, crr, e1, glt, z0, z1, z2, z3, z4, z5, z6, z7, s1, s2, s3⟩ := (HC.out.keep hB).get hu
          subst e1
          clear s1 s2 s3 hst hbk
          have hsw := hB.size
          have hg8 := hT.bx.lt
          obtain ⟨hbl, a, cx, hcx, -⟩ := hT.yes k bx ho
          have HCX := Lib.hid hcx
          have d0 := hT.bx.c k _ hcx
          have y0 := hX.c 0 _ rfl
          have y1 := hX.c 1 _ rfl
          have ly := hX.lt
          have hJ0 : ((J : Int) == 0) = false := by rw [beq_eq_false_iff_ne]; omega
          have hJ0n : (J == 0) = false := by rw [beq_eq_false_iff_ne]; omega
          clear hcx
          go_upto_region 17 with fail
          have hX8 := Bx.new wr [.int .i64 u.joint, .int .i64 u.low, .int .i64 u.high, .int .i64 u.verd.kind, .slice on u.verd.normals.length cn, .int .i64 u.verd.pair, .slice ol u.verd.left.length cl, .slice orr u.verd.right.length crr] 85
          have hb8 : Below wr.heap.size wr (wr.alloc (.cells #[.int .i64 u.joint, .int .i64 u.low, .int .i64 u.high, .int .i64 u.verd.kind, .slice on u.verd.normals.length cn, .int .i64 u.verd.pair, .slice ol u.verd.left.length cl, .slice orr u.verd.right.length crr] 85)) := (Below.refl _ _).alloc (Nat.le_refl _) _
          replace hT := hT.keep hb8
          replace hX := hX.keep hb8
          replace hB := below_call hB hb8
          clear y0 y1 ly d0
          generalize wr.alloc (.cells #[.int .i64 u.joint, .int .i64 u.low, .int .i64 u.high, .int .i64 u.verd.kind, .slice on u.verd.normals.length cn, .int .i64 u.verd.pair, .slice ol u.verd.left.length cl, .slice orr u.verd.right.length crr] 85) = W5 at hT hX hB hX8 hb8 ⊢
          generalize wr.heap.size = n8 at hX8 hb8 hg8 hsw ⊢
          clear z0 z1 z2 z3 z4 z5 z6 z7 glt hb8
          have HT := Lib.hid hT
          have HX := Lib.hid hX
          have HX8 := Lib.hid hX8
          have HB := Lib.hid hB
          have HO := Lib.hid ho
          have HOL := Lib.hid hol
          have HBK := Lib.hid hbk2
          have HCA := Lib.hid hcase
          clear hT hX hB ho hol hbk2 hcase hu
          have z0 := hX8.c 0 _ rfl
          have z1 := hX8.c 1 _ rfl
          have z2 := hX8.c 2 _ rfl
          have z3 := hX8.c 3 _ rfl
          have z4 := hX8.c 4 _ rfl
          have z5 := hX8.c 5 _ rfl
          have z6 := hX8.c 6 _ rfl
          have z7 := hX8.c 7 _ rfl
          have lz := hX8.lt
          clear hX8
          go_wp2_with fail
          refine (leaf90 u on ol orr cn cl crr _).mono ?_
          rintro e W6 ⟨rfl, hw6⟩
          replace HT := Lib.hid (HT.out.keep hw6)
          replace HX := Lib.hid (HX.out.keep hw6)
          replace HX8 := Lib.hid (HX8.out.keep hw6)
          have HB6 := Lib.hid (below_call HB.out hw6)
          clear z0 z1 z2 z3 z4 z5 z6 z7 lz hw6 HB
          have z0 := HX8.out.c 0 _ rfl
          have z1 := HX8.out.c 1 _ rfl
          have z2 := HX8.out.c 2 _ rfl
          have z3 := HX8.out.c 3 _ rfl
          have z4 := HX8.out.c 4 _ rfl
          have z5 := HX8.out.c 5 _ rfl
          have z6 := HX8.out.c 6 _ rfl
          have z7 := HX8.out.c 7 _ rfl
          have lz := HX8.out.lt
          rcases HCA.out with ⟨hlb, hf, hoo⟩ | ⟨hlb, hz, q1, q2, q3, q4, q5, x, y, ho1, ho2, hh, hoo⟩
          · rw [hlb]
            have HOO := Lib.hid hoo
            clear hoo hlb HCA
            go_wp2_with fail
            refine (form91 u.verd on ol orr cn cl crr _).mono ?_
            rintro e W7 ⟨rfl, hw7⟩
            rw [hf]
            have HB7 := Lib.hid (below_call HB6.out hw7)
            replace HT := Lib.hid (HT.out.keep hw7)
            replace HX := Lib.hid (HX.out.keep hw7)
            clear hf z0 z1 z2 z3 z4 z5 z6 z7 lz hw7 HB6
            go_wp2_with fail
            go_roundw
            case rel => exact ⟨k + 1, out2, cs, by omega, by simp, HBK.out, by rw [HOO.out]; exact HT.out, HX.out, HB7.out⟩
            case measure => simp [intOf]; omega
          · rw [hlb]
            have hjj := Fm.halve_in hh
            have hlen := Fm.halve_len hh
            rw [hbl] at hjj
            have HZER := Lib.hid (fun X => zero92 u.verd on ol orr cn cl crr X)
            rw [hz] at HZER
            rw [HN.out] at q2 q4
            clear hz hlb HCA
            generalize u.low = ul at *
            generalize u.high = uh at *
            generalize u.joint = uj at *
            obtain ⟨lN, rfl⟩ : ∃ lN : Nat, ul = (lN : Nat) := ⟨ul.toNat, by omega⟩
            obtain ⟨hN', rfl⟩ : ∃ hN' : Nat, uh = (hN' : Nat) := ⟨uh.toNat, by omega⟩
            obtain ⟨jN, rfl⟩ : ∃ jN : Nat, uj = (jN : Nat) := ⟨uj.toNat, by omega⟩
            rw [Int.toNat_natCast] at ho1 ho2 hoo
            rw [Int.toNat_natCast] at hoo
            have hl1 : lN < N := by omega
            have hh1 : hN' < N := by omega
            have hlh : lN ≠ hN' := by omega
            have g0 : decide ((jN : Int) < 0) = false := decide_eq_false (by omega)
            have g1 : decide ((J : Int) ≤ (jN : Int)) = false := decide_eq_false (by omega)
            have g2 : decide ((lN : Int) ≤ (k : Int)) = false := decide_eq_false (by omega)
            have g3 : decide ((N : Int) ≤ (lN : Int)) = false := decide_eq_false (by omega)
            have g4 : decide ((hN' : Int) ≤ (k : Int)) = false := decide_eq_false (by omega)
            have g5 : decide ((N : Int) ≤ (hN' : Int)) = false := decide_eq_false (by omega)
            have g6 : ((lN : Int) == (hN' : Int)) = false := by rw [beq_eq_false_iff_ne]; omega
            have m1 : decide (J ≤ jN) = false := decide_eq_false (by omega)
            have m2 : decide (lN ≤ k) = false := decide_eq_false (by omega)
            have m3 : decide (N ≤ lN) = false := decide_eq_false (by omega)
            have m4 : decide (hN' ≤ k) = false := decide_eq_false (by omega)
            have m5 : decide (N ≤ hN') = false := decide_eq_false (by omega)
            have m6 : (lN == hN') = false := by rw [beq_eq_false_iff_ne]; exact hlh
            clear q1 q2 q3 q4 q5
            go_wp2_with fail
            refine (HZER.out _).mono ?_
            rintro e W7 ⟨rfl, hw7⟩
            replace HT := Lib.hid (HT.out.keep hw7)
            replace HX := Lib.hid (HX.out.keep hw7)
            replace HX8 := Lib.hid (HX8.out.keep hw7)
            have HB7 := Lib.hid (below_call HB6.out hw7)
            clear z0 z1 z2 z3 z4 z5 z6 z7 lz hw7 HB6 HZER
            have d0 := HT.out.bx.c k _ HCX.out
            have d1 := HT.out.bx.c lN _ (HT.out.no lN ho1)
            have d2 := HT.out.bx.c hN' _ (HT.out.no hN' ho2)
            have lg := HT.out.bx.lt
            have z0 := HX8.out.c 0 _ rfl
            have z1 := HX8.out.c 1 _ rfl
            have z2 := HX8.out.c 2 _ rfl
            have lz := HX8.out.lt
            have y0 := HX.out.c 0 _ rfl
            have y1 := HX.out.c 1 _ rfl
            have ly := HX.out.lt
            have hD2 := (HT.out.yes k bx HO.out).2
            obtain ⟨a2, cx2, hcx2, hD2⟩ := hD2
            obtain ⟨rfl, hcc⟩ : a2 = a ∧ cx2 = cx := by
              rw [HCX.out] at hcx2
              injection hcx2 with hcx2
              injection hcx2 with e1 _ e3
              injection e1 with e1
              exact ⟨e1.symm, e3.symm⟩
            subst hcc
            have HD2 := Lib.hid hD2
            have HHX := Lib.hid (fun X (hX : Below W7.heap.size W7 X) => (show Calls Tryz.prog 93 #[.slice (some a2) J cx2, .int .i64 (jN : Nat)] X (fun e Xa => (∃ ax ay c1 c2, e = .returned (.tuple #[.slice (some ax) J c1, .slice (some ay) J c2, .bool true]) ∧ Fp (fun k => k ≠ g ∧ k < Xa.heap.size) Xa (fun X => Sl X (some ax) 2 (ivs x) ∧ Sl X (some ay) 2 (ivs y))) ∧ Below X.heap.size X Xa) by
              have := halve93 X (some a2) cx2 bx (jN : Nat) (Sl.keep HD2.out.now hX) (by omega)
              rw [hbl] at this
              refine this.mono (fun e Xa h => ?_)
              unfold HalvP at h
              rw [hh] at h
              obtain ⟨⟨ax, ay, c1, c2, h1, -, -, h4⟩, h5⟩ := h
              rw [hbl] at h1
              exact ⟨⟨ax, ay, c1, c2, h1, Fp.mono h4 fun k hk => ⟨by have := hX.size; have := hk.1; omega, hk.2⟩⟩, h5⟩))
            have hS0 : W7.cell? ⟨g, k, none⟩ = some (.slice (some a2) J cx2) ∧ W7.cell? ⟨n8, 0, none⟩ = some (.int .i64 (jN : Nat)) ∧ Below W7.heap.size W7 W7 := ⟨d0, z0, Below.refl _ _⟩
            clear hcx2 hD2 hh
            go_upto_region 22 with fail
            go_region_held3 (fun X => X.cell? ⟨g, k, none⟩ = some (.slice (some a2) J cx2) ∧ X.cell? ⟨n8, 0, none⟩ = some (.int .i64 (jN : Nat)) ∧ Below W7.heap.size W7 X)
              (first
                | assumption
                | exact hS0
                | exact keep16 lg lz (by assumption) (by assumption)
                | exact keep16 lg lz (by assumption) (Below.refl _ _).drew)
              (first
                | (go_at_call 93
                   with_reducible refine (HHX.out _ (by assumption : _ ∧ _ ∧ Below W7.heap.size W7 _).2.2).mono ?_
                   rintro e Xa ⟨⟨ax, ay, c1, c2, rfl, hFp⟩, hba⟩))
            have hS9 := (by assumption : Xa.cell? ⟨g, k, none⟩ = some (.slice (some a2) J cx2) ∧ Xa.cell? ⟨n8, 0, none⟩ = some (.int .i64 (jN : Nat)) ∧ Below W7.heap.size W7 Xa).2.2
            have hT9 := HT.out.keep hS9
            have hX9 := HX.out.keep hS9
            have hX89 := HX8.out.keep hS9
            have HB9 := Lib.hid (below_call HB7.out hS9)
            clear d0 d1 d2 z0 z1 z2 lz lg hS0 hba y0 y1 ly
            have z1 := hX89.c 1 _ rfl
            have z2 := hX89.c 2 _ rfl
            have lz := hX89.lt
            have lg := hT9.bx.lt
            have d1 := hT9.bx.c lN _ (hT9.no lN ho1)
            have d2 := hT9.bx.c hN' _ (hT9.no hN' ho2)
            have p1 := Tab.put (c := c1) hT9 (by rw [HOL.out]; exact hl1) (by rw [hlen.1]; exact hbl) (hFp.mono' fun X h => h.1)
            have p2 := Tab.put (i := hN') (c := c2) (b := y) (a := ay) p1 (by rw [List.length_set, HOL.out]; exact hh1) (by rw [hlen.2]; exact hbl) (fp_set (hFp.mono' fun X h => h.2))
            rw [← hoo] at p2
            have P2 := Lib.hid p2
            have hng : ¬ n8 = g := by omega
            have hn1 : ¬ n1 = g := by omega
            have hx9 := Bx.other (Bx.other hX9 hn1 lN (.slice (some ax) J c1)) hn1 hN' (.slice (some ay) J c2)
            have HX9 := Lib.hid hx9
            have HB10 := Lib.hid ((HB9.out.setCell (p := ⟨g, lN, none⟩) (by show w0.heap.size ≤ g; omega) (.slice (some ax) J c1)).setCell (p := ⟨g, hN', none⟩) (by show w0.heap.size ≤ g; omega) (.slice (some ay) J c2))
            have f1 := hT9.bx.f lN
            have f2 := hT9.bx.f hN'
            clear hX89 hT9 hX9 hFp ho1 ho2 hlen p1 p2 hx9 hoo hjj
            go_upto_region 25 with fail
            go_region
            go_wp2_with fail
            go_roundw
            case rel => exact ⟨k + 1, _, _, by omega, by simp, HBK.out, P2.out.keep (Below.refl _ _).drew, HX9.out.keep (Below.refl _ _).drew, HB10.out.drew⟩
            case measure => simp [intOf]; omega
        · have hke : k = N := by omega
          subst hke
          have e1 : out = out0 := by
            have := HKF.out
            rw [hbk] at this
            exact Option.some.inj this
          subst e1
          go_wp2
          refine bodyPost_ret (v := .tuple #[.slice (some ⟨g, 0, none⟩) k k, .bool true]) (by simp [results, Tryz.results60, go_sem]) rfl ?_
          exact ⟨g, cs, rfl, hT, by omega, hB⟩
end Go.Proofs.Ng
end

