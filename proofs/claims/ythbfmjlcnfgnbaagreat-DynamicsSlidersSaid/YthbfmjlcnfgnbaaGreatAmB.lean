/-
  The abstract heap and the world: the relation, and what a new block and a write do to it.
-/
import Derived.Test.YthbfmjlcnfgnbaaGreatAmA
namespace Go.Am

/-- Without the local blocks. -/
def Mp.noL (m : Mp) : Mp := { m with lb := fun _ => none }
theorem noL_le (m : Mp) : Le m.noL m := ⟨fun _ _ e => e, fun _ _ e => (by cases e), fun _ _ _ => rfl, fun _ _ _ => rfl, fun _ _ _ => rfl⟩
theorem Le.noL {m m' : Mp} (h : Le m m') : Le m.noL m'.noL := ⟨h.gb, fun _ _ e => (by cases e), h.loose, h.esz, h.tot⟩

/-- A global block as it lies. -/
structure GR (m : Mp) (i g : Nat) (b : Blk) (w : World) : Prop where
  lo : m.loose i = b.loose
  ez : m.esz i = b.esz
  blk : b.live = true → ∃ cs : Array Value, w.heap[g]? = some (.cells cs b.elem (0, 0)) ∧ b.cells.length ≤ cs.size ∧ VRs m.noL b.cells (cs.toList.take b.cells.length) ∧
    (b.loose = false → cs.size = b.cells.length) ∧ (b.loose = true → m.tot i = cs.size)

/-- A local block as it lies. One that is not live is an iterator over a string. -/
structure LR (m : Mp) (g : Nat) (b : Blk) (w : World) : Prop where
  blk : b.live = true → ∃ cs : Array Value, w.heap[g]? = some (.cells cs b.elem (0, 0)) ∧ VRs m b.cells cs.toList
  it : b.live = false → ∃ (s : ByteArray) (pos : Nat), b.cells = [.string s, .int .i64 (pos : Int)] ∧ w.heap[g]? = some (.stringIter s pos)

structure Rel (m : Mp) (H loc : Hp) (w : World) : Prop where
  glob : ∀ i g, m.gb i = some g → g < w.heap.size ∧ ∃ b, H[i]? = some b ∧ GR m i g b w
  locs : ∀ i g, m.lb i = some g → g < w.heap.size ∧ ∃ b, loc[i]? = some b ∧ LR m g b w
  ginj : ∀ i j g bi bj, m.gb i = some g → m.gb j = some g → H[i]? = some bi → H[j]? = some bj → bi.live = true → bj.live = true → i = j
  linj : ∀ i j g, m.lb i = some g → m.lb j = some g → i = j
  disj : ∀ i j g, m.gb i = some g → m.lb j = some g → False

/-- What a step may do. wg, wl: the blocks that it may have written. -/
structure Ext (m : Mp) (H loc : Hp) (w : World) (m' : Mp) (H' loc' : Hp) (w' : World) (wg wl : List Nat) : Prop where
  le : Le m m'
  rel : Rel m' H' loc' w'
  img : ∀ i g, m'.gb i = some g → (∃ j, m.gb j = some g) ∨ w.heap.size ≤ g
  imgl : ∀ i g, m'.lb i = some g → m.lb i = some g ∨ w.heap.size ≤ g
  dom : ∀ i g, m'.gb i = some g → m.gb i = some g ∨ (H.length ≤ i ∧ i < H'.length)
  doml : ∀ i g, m'.lb i = some g → m.lb i = some g ∨ (loc.length ≤ i ∧ i < loc'.length)
  os : w'.os = w.os
  tape : w'.tape = w.tape
  output : w'.output = w.output
  size : w.heap.size ≤ w'.heap.size
  frame : ∀ g, g < w.heap.size → (∀ i, m.gb i ≠ some g) → (∀ i, m.lb i ≠ some g) → w'.heap[g]? = w.heap[g]?
  un : ∀ i, i < H.length → m.gb i = none → H'[i]? = H[i]?
  unl : ∀ i, i < loc.length → m.lb i = none → loc'[i]? = loc[i]?
  mod : ∀ i, i < H.length → i ∉ wg → H'[i]? = H[i]?
  modl : ∀ i, i < loc.length → i ∉ wl → loc'[i]? = loc[i]?
  len : H.length ≤ H'.length
  lenl : loc.length ≤ loc'.length
  kp : ∀ (i : Nat) (b : Blk), H[i]? = some b → ∃ b', H'[i]? = some b' ∧ b'.esz = b.esz ∧ b'.loose = b.loose
  cmod : ∀ (i g : Nat) (b : Blk), m.gb i = some g → H[i]? = some b → b.live = true → i ∉ wg → w'.heap[g]? = w.heap[g]?

theorem Ext.refl {m : Mp} {H loc : Hp} {w : World} (h : Rel m H loc w) : Ext m H loc w m H loc w [] [] :=
  ⟨Le.refl m, h, fun i _ e => .inl ⟨i, e⟩, fun _ _ e => .inl e, fun _ _ e => .inl e, fun _ _ e => .inl e, rfl, rfl, rfl, Nat.le_refl _, fun _ _ _ _ => rfl, fun _ _ _ => rfl, fun _ _ _ => rfl,
   fun _ _ _ => rfl, fun _ _ _ => rfl, Nat.le_refl _, Nat.le_refl _, fun _ b e => ⟨b, e, rfl, rfl⟩, fun _ _ _ _ _ _ _ => rfl⟩

theorem Ext.trans {m m' m'' : Mp} {H H' H'' loc loc' loc'' : Hp} {w w' w'' : World} {a b c d : List Nat}
    (h : Ext m H loc w m' H' loc' w' a b) (k : Ext m' H' loc' w' m'' H'' loc'' w'' c d) : Ext m H loc w m'' H'' loc'' w'' (a ++ c) (b ++ d) where
  le := h.le.trans k.le
  rel := k.rel
  img := fun i g e => by
    rcases k.img i g e with ⟨j, e'⟩ | e'
    · exact h.img j g e'
    · exact .inr (Nat.le_trans h.size e')
  imgl := fun i g e => by
    rcases k.imgl i g e with e' | e'
    · exact h.imgl i g e'
    · exact .inr (Nat.le_trans h.size e')
  dom := fun i g e => by
    rcases k.dom i g e with e' | ⟨e1, e2⟩
    · rcases h.dom i g e' with e'' | ⟨e1, e2⟩
      · exact .inl e''
      · exact .inr ⟨e1, Nat.lt_of_lt_of_le e2 k.len⟩
    · exact .inr ⟨Nat.le_trans h.len e1, e2⟩
  doml := fun i g e => by
    rcases k.doml i g e with e' | ⟨e1, e2⟩
    · rcases h.doml i g e' with e'' | ⟨e1, e2⟩
      · exact .inl e''
      · exact .inr ⟨e1, Nat.lt_of_lt_of_le e2 k.lenl⟩
    · exact .inr ⟨Nat.le_trans h.lenl e1, e2⟩
  os := k.os.trans h.os
  tape := k.tape.trans h.tape
  output := k.output.trans h.output
  size := Nat.le_trans h.size k.size
  frame := fun g hg hn hl => by
    have hn' : ∀ i, m'.gb i ≠ some g := fun i e => by
      rcases h.img i g e with ⟨j, e'⟩ | e'
      · exact hn j e'
      · omega
    have hl' : ∀ i, m'.lb i ≠ some g := fun i e => by
      rcases h.imgl i g e with e' | e'
      · exact hl i e'
      · omega
    exact (k.frame g (Nat.lt_of_lt_of_le hg h.size) hn' hl').trans (h.frame g hg hn hl)
  un := fun i hi hn => by
    have hn' : m'.gb i = none := by
      cases e : m'.gb i with
      | none => rfl
      | some g =>
        rcases h.dom i g e with e' | ⟨e1, _⟩
        · rw [hn] at e'; cases e'
        · omega
    exact (k.un i (Nat.lt_of_lt_of_le hi h.len) hn').trans (h.un i hi hn)
  unl := fun i hi hn => by
    have hn' : m'.lb i = none := by
      cases e : m'.lb i with
      | none => rfl
      | some g =>
        rcases h.doml i g e with e' | ⟨e1, _⟩
        · rw [hn] at e'; cases e'
        · omega
    exact (k.unl i (Nat.lt_of_lt_of_le hi h.lenl) hn').trans (h.unl i hi hn)
  mod := fun i hi hn => by
    simp only [List.mem_append, not_or] at hn
    exact (k.mod i (Nat.lt_of_lt_of_le hi h.len) hn.2).trans (h.mod i hi hn.1)
  modl := fun i hi hn => by
    simp only [List.mem_append, not_or] at hn
    exact (k.modl i (Nat.lt_of_lt_of_le hi h.lenl) hn.2).trans (h.modl i hi hn.1)
  len := Nat.le_trans h.len k.len
  lenl := Nat.le_trans h.lenl k.lenl
  kp := fun i x e => by
    obtain ⟨y, e1, e2, e3⟩ := h.kp i x e
    obtain ⟨z, f1, f2, f3⟩ := k.kp i y e1
    exact ⟨z, f1, f2.trans e2, f3.trans e3⟩
  cmod := fun i g x e hx hl hn => by
    simp only [List.mem_append, not_or] at hn
    have hlt : i < H.length := (List.getElem?_eq_some_iff.1 hx).1
    exact (k.cmod i g x (h.le.gb i g e) ((h.mod i hlt hn.1).trans hx) hl hn.2).trans (h.cmod i g x e hx hl hn.1)

theorem Rel.unG {m : Mp} {H loc : Hp} {w : World} (h : Rel m H loc w) {i : Nat} (hi : H.length ≤ i) : m.gb i = none := by
  cases e : m.gb i with
  | none => rfl
  | some g =>
    obtain ⟨_, b, hb, _⟩ := h.glob i g e
    rw [List.getElem?_eq_none hi] at hb; cases hb
theorem Rel.unL {m : Mp} {H loc : Hp} {w : World} (h : Rel m H loc w) {i : Nat} (hi : loc.length ≤ i) : m.lb i = none := by
  cases e : m.lb i with
  | none => rfl
  | some g =>
    obtain ⟨_, b, hb, _⟩ := h.locs i g e
    rw [List.getElem?_eq_none hi] at hb; cases hb

/-- One global block more. -/
def Mp.addG (m : Mp) (i g : Nat) (lo : Bool) (ez tt : Nat) : Mp :=
  { m with gb := fun j => if j = i then some g else m.gb j, loose := fun j => if j = i then lo else m.loose j, esz := fun j => if j = i then ez else m.esz j, tot := fun j => if j = i then tt else m.tot j }
def Mp.addL (m : Mp) (i g : Nat) : Mp := { m with lb := fun j => if j = i then some g else m.lb j }

theorem le_addG {m : Mp} {i g : Nat} {lo : Bool} {ez tt : Nat} (h : m.gb i = none) : Le m (m.addG i g lo ez tt) := by
  have hne : ∀ j g', m.gb j = some g' → j ≠ i := fun j g' e hh => by subst hh; rw [h] at e; cases e
  exact ⟨fun j g' e => by simp [Mp.addG, hne j g' e, e], fun _ _ e => e, fun j g' e => by simp [Mp.addG, hne j g' e], fun j g' e => by simp [Mp.addG, hne j g' e], fun j g' e => by simp [Mp.addG, hne j g' e]⟩
theorem le_addL {m : Mp} {i g : Nat} (h : m.lb i = none) : Le m (m.addL i g) := by
  have hne : ∀ j g', m.lb j = some g' → j ≠ i := fun j g' e hh => by subst hh; rw [h] at e; cases e
  exact ⟨fun _ _ e => e, fun j g' e => by simp [Mp.addL, hne j g' e, e], fun _ _ _ => rfl, fun _ _ _ => rfl, fun _ _ _ => rfl⟩

theorem GR.mono {m m' : Mp} {i g : Nat} {b : Blk} {w w' : World} (h : GR m i g b w) (hm : Le m m') (hi : m.gb i = some g) (hw : b.live = true → w'.heap[g]? = w.heap[g]?) : GR m' i g b w' := by
  refine ⟨(hm.loose i g hi).trans h.lo, (hm.esz i g hi).trans h.ez, fun hl => ?_⟩
  obtain ⟨cs, h1, h2, h3, h4, h5⟩ := h.blk hl
  exact ⟨cs, (hw hl).trans h1, h2, h3.mono hm.noL, h4, fun e => (hm.tot i g hi).trans (h5 e)⟩
theorem LR.mono {m m' : Mp} {g : Nat} {b : Blk} {w w' : World} (h : LR m g b w) (hm : Le m m') (hw : w'.heap[g]? = w.heap[g]?) : LR m' g b w' := by
  refine ⟨fun hl => ?_, fun hl => ?_⟩
  · obtain ⟨cs, h1, h2⟩ := h.blk hl
    exact ⟨cs, hw.trans h1, h2.mono hm⟩
  · obtain ⟨s, pos, h1, h2⟩ := h.it hl
    exact ⟨s, pos, h1, hw.trans h2⟩

theorem heap_alloc_lt (w : World) (o : Obj) {k : Nat} (h : k < w.heap.size) : (w.alloc o).heap[k]? = w.heap[k]? := Go.RowKit.Below.heap_alloc w o k h

theorem ext_newG {m : Mp} {H loc : Hp} {w : World} (h : Rel m H loc w) (b : Blk) (cs : Array Value)
    (h1 : b.cells.length ≤ cs.size) (h2 : VRs m.noL b.cells (cs.toList.take b.cells.length)) (h3 : b.loose = false → cs.size = b.cells.length) :
    Ext m H loc w (m.addG H.length w.heap.size b.loose b.esz cs.size) (H ++ [b]) loc (w.alloc (.cells cs b.elem)) [] [] := by
  have hun := h.unG (Nat.le_refl H.length)
  have hle : Le m (m.addG H.length w.heap.size b.loose b.esz cs.size) := le_addG hun
  have hlt : ∀ i g, m.gb i = some g → i < H.length := fun i g e => by
    rcases Nat.lt_or_ge i H.length with hh | hh
    · exact hh
    · rw [h.unG hh] at e; cases e
  have hcase : ∀ i g, (m.addG H.length w.heap.size b.loose b.esz cs.size).gb i = some g → (i = H.length ∧ g = w.heap.size) ∨ (i ≠ H.length ∧ m.gb i = some g) := fun i g e => by
    simp only [Mp.addG] at e
    split at e
    · rename_i hi; injection e with e; exact .inl ⟨hi, e.symm⟩
    · rename_i hi; exact .inr ⟨hi, e⟩
  refine ⟨hle, ⟨fun i g e => ?_, fun i g e => ?_, ?_, fun i j g e e' => h.linj i j g e e', ?_⟩, ?_, fun i g e => .inl e, ?_, fun i g e => .inl e, rfl, rfl, rfl, by simp, fun g hg _ _ => heap_alloc_lt w _ hg,
    fun i hi _ => by rw [List.getElem?_append_left hi], fun _ _ _ => rfl, fun i hi _ => by rw [List.getElem?_append_left hi], fun _ _ _ => rfl, by simp, Nat.le_refl _, fun i x e => ⟨x, by rw [List.getElem?_append_left (List.getElem?_eq_some_iff.1 e).1]; exact e, rfl, rfl⟩, fun i g x e _ _ _ => heap_alloc_lt w _ (h.glob i g e).1⟩
  · rcases hcase i g e with ⟨rfl, rfl⟩ | ⟨hi, e'⟩
    · refine ⟨by simp, b, by simp, ⟨by simp [Mp.addG], by simp [Mp.addG], fun _ => ⟨cs, heap_alloc_new w _, h1, h2.mono hle.noL, h3, fun _ => by simp [Mp.addG]⟩⟩⟩
    · obtain ⟨hg, b', hb', hG⟩ := h.glob i g e'
      exact ⟨by simp; omega, b', by rw [List.getElem?_append_left (hlt i g e')]; exact hb', hG.mono hle e' (fun _ => heap_alloc_lt w _ hg)⟩
  · obtain ⟨hg, b', hb', hL⟩ := h.locs i g e
    exact ⟨by simp; omega, b', hb', hL.mono hle (heap_alloc_lt w _ hg)⟩
  · intro i j g bi bj e e' hi hj li lj
    rcases hcase i g e with ⟨rfl, rfl⟩ | ⟨ni, ei⟩ <;> rcases hcase j _ e' with ⟨rfl, hh⟩ | ⟨nj, ej⟩
    · rfl
    · have := (h.glob j _ ej).1; omega
    · have := (h.glob i g ei).1; omega
    · rw [List.getElem?_append_left (hlt i g ei)] at hi
      rw [List.getElem?_append_left (hlt j g ej)] at hj
      exact h.ginj i j g bi bj ei ej hi hj li lj
  · intro i j g e e'
    rcases hcase i g e with ⟨rfl, rfl⟩ | ⟨_, ei⟩
    · have := (h.locs j _ e').1; omega
    · exact h.disj i j g ei e'
  · intro i g e
    rcases hcase i g e with ⟨_, rfl⟩ | ⟨_, ei⟩
    · exact .inr (Nat.le_refl _)
    · exact .inl ⟨i, ei⟩
  · intro i g e
    rcases hcase i g e with ⟨rfl, _⟩ | ⟨_, ei⟩
    · exact .inr ⟨Nat.le_refl _, by simp⟩
    · exact .inl ei

theorem ext_newLO {m : Mp} {H loc : Hp} {w : World} (h : Rel m H loc w) (b : Blk) (obj : Obj) (h2 : LR (m.addL loc.length w.heap.size) w.heap.size b (w.alloc obj)) :
    Ext m H loc w (m.addL loc.length w.heap.size) H (loc ++ [b]) (w.alloc obj) [] [] := by
  have hun := h.unL (Nat.le_refl loc.length)
  have hle : Le m (m.addL loc.length w.heap.size) := le_addL hun
  have hlt : ∀ i g, m.lb i = some g → i < loc.length := fun i g e => by
    rcases Nat.lt_or_ge i loc.length with hh | hh
    · exact hh
    · rw [h.unL hh] at e; cases e
  have hcase : ∀ i g, (m.addL loc.length w.heap.size).lb i = some g → (i = loc.length ∧ g = w.heap.size) ∨ (i ≠ loc.length ∧ m.lb i = some g) := fun i g e => by
    simp only [Mp.addL] at e
    split at e
    · rename_i hi; injection e with e; exact .inl ⟨hi, e.symm⟩
    · rename_i hi; exact .inr ⟨hi, e⟩
  refine ⟨hle, ⟨fun i g e => ?_, fun i g e => ?_, fun i j g bi bj e e' hi hj li lj => h.ginj i j g bi bj e e' hi hj li lj, ?_, ?_⟩, fun i g e => .inl ⟨i, e⟩, ?_, fun i g e => .inl e, ?_, rfl, rfl, rfl, by simp,
    fun g hg _ _ => heap_alloc_lt w _ hg, fun _ _ _ => rfl, fun i hi _ => by rw [List.getElem?_append_left hi], fun _ _ _ => rfl, fun i hi _ => by rw [List.getElem?_append_left hi], Nat.le_refl _, by simp, fun _ x e => ⟨x, e, rfl, rfl⟩, fun i g x e _ _ _ => heap_alloc_lt w _ (h.glob i g e).1⟩
  · obtain ⟨hg, b', hb', hG⟩ := h.glob i g e
    exact ⟨by simp; omega, b', hb', hG.mono hle e (fun _ => heap_alloc_lt w _ hg)⟩
  · rcases hcase i g e with ⟨rfl, rfl⟩ | ⟨hi, e'⟩
    · exact ⟨by simp, b, by simp, h2⟩
    · obtain ⟨hg, b', hb', hL⟩ := h.locs i g e'
      exact ⟨by simp; omega, b', by rw [List.getElem?_append_left (hlt i g e')]; exact hb', hL.mono hle (heap_alloc_lt w _ hg)⟩
  · intro i j g e e'
    rcases hcase i g e with ⟨rfl, rfl⟩ | ⟨ni, ei⟩ <;> rcases hcase j _ e' with ⟨rfl, hh⟩ | ⟨nj, ej⟩
    · rfl
    · have := (h.locs j _ ej).1; omega
    · have := (h.locs i g ei).1; omega
    · exact h.linj i j g ei ej
  · intro i j g e e'
    rcases hcase j g e' with ⟨rfl, rfl⟩ | ⟨_, ej⟩
    · have := (h.glob i _ e).1; omega
    · exact h.disj i j g e ej
  · intro i g e
    rcases hcase i g e with ⟨_, rfl⟩ | ⟨_, ei⟩
    · exact .inr (Nat.le_refl _)
    · exact .inl ei
  · intro i g e
    rcases hcase i g e with ⟨rfl, _⟩ | ⟨_, ei⟩
    · exact .inr ⟨Nat.le_refl _, by simp⟩
    · exact .inl ei

theorem ext_newL {m : Mp} {H loc : Hp} {w : World} (h : Rel m H loc w) (b : Blk) (cs : Array Value) (hl : b.live = true) (h2 : VRs m b.cells cs.toList) :
    Ext m H loc w (m.addL loc.length w.heap.size) H (loc ++ [b]) (w.alloc (.cells cs b.elem)) [] [] :=
  ext_newLO h b _ ⟨fun _ => ⟨cs, heap_alloc_new w _, h2.mono (le_addL (h.unL (Nat.le_refl _)))⟩, fun e => by rw [hl] at e; cases e⟩

/-- Cells written over a list's. -/
def splice (l : List Value) (o : Nat) (vs : List Value) : List Value := l.take o ++ vs ++ l.drop (o + vs.length)

theorem splice_length {l : List Value} {o : Nat} {vs : List Value} (h : o + vs.length ≤ l.length) : (splice l o vs).length = l.length := by
  simp [splice]; omega
theorem VRs.splice {m : Mp} {l l' vs vs' : List Value} (h : VRs m l l') (o : Nat) (hv : VRs m vs vs') : VRs m (splice l o vs) (splice l' o vs') := by
  unfold Am.splice
  rw [← hv.1]
  exact ((h.take o).append hv).append (h.drop _)
theorem splice_take {l vs : List Value} {o n : Nat} (h : o + vs.length ≤ n) (hn : n ≤ l.length) : (splice l o vs).take n = splice (l.take n) o vs := by
  unfold splice
  have e1 : (l.take o ++ vs).length = o + vs.length := by simp; omega
  rw [List.take_append, e1, List.take_of_length_le (by rw [e1]; exact h), List.take_take, List.drop_take, Nat.min_eq_left (by omega : o ≤ n)]

theorem size_setRow' (w : World) (g : Nat) (cs : Array Value) : (w.setRow g cs).heap.size = w.heap.size := size_setRow w g cs

theorem getElem?_set_self' {H : Hp} {i : Nat} {b x : Blk} (h : H[i]? = some b) : (H.set i x)[i]? = some x := by
  have : i < H.length := by
    rcases Nat.lt_or_ge i H.length with hh | hh
    · exact hh
    · rw [List.getElem?_eq_none hh] at h; cases h
  simp [this]

/-- A write into a live global block, within its cells. -/
theorem ext_writeG {m : Mp} {H loc : Hp} {w : World} (h : Rel m H loc w) {i g : Nat} {b : Blk} (hi : m.gb i = some g) (hb : H[i]? = some b) (hlive : b.live = true)
    {cs : Array Value} (hcs : w.heap[g]? = some (.cells cs b.elem (0, 0))) (o : Nat) {vs vs' : List Value} (ho : o + vs.length ≤ b.cells.length) (hv : VRs m.noL vs vs') :
    Ext m H loc w m (H.set i { b with cells := splice b.cells o vs }) loc (w.setRow g (splice cs.toList o vs').toArray) [i] [] := by
  obtain ⟨hg, b0, hb0, hG⟩ := h.glob i g hi
  rw [hb] at hb0; injection hb0 with hb0; subst hb0
  obtain ⟨cs0, e1, e2, e3, e4, e5⟩ := hG.blk hlive
  rw [hcs] at e1; injection e1 with e1; injection e1 with e1; subst e1
  have hother : ∀ k, k ≠ g → (w.setRow g (splice cs.toList o vs').toArray).heap[k]? = w.heap[k]? := fun k hk => setRow_other w g k _ hk
  refine ⟨Le.refl m, ⟨fun j g' e => ?_, fun j g' e => ?_, ?_, h.linj, h.disj⟩, fun j g' e => .inl ⟨j, e⟩, fun _ _ e => .inl e, fun _ _ e => .inl e, fun _ _ e => .inl e, rfl, rfl, rfl, by simp,
    fun g' hg' hn _ => hother g' (fun e => hn i (e ▸ hi)), fun j hj hn => ?_, fun _ _ _ => rfl, fun j hj hn => ?_, fun _ _ _ => rfl, by simp, Nat.le_refl _, fun j x e => ?_, fun j g' x e hx hl hn => hother g' (fun he => by subst he; exact hn (by simp [h.ginj j i _ x b e hi hx hb hl hlive]))⟩
  · by_cases hj : j = i
    · subst hj
      rw [hi] at e; injection e with e; subst e
      refine ⟨by simpa using hg, _, getElem?_set_self' hb, ⟨hG.lo, hG.ez, fun _ => ⟨_, setRow_heap w g cs _ _ _ hcs, ?_, ?_, ?_, ?_⟩⟩⟩
      · have := hv.1
        simp only [List.size_toArray]
        rw [splice_length ho, splice_length (by simp; omega)]
        simpa using e2
      · simp only [splice_length ho]
        rw [splice_take (by rw [← hv.1]; exact ho) (by simpa using e2)]
        exact e3.splice o hv
      · intro hl
        have := hv.1
        simp only [List.size_toArray]
        rw [splice_length ho, splice_length (by simp; omega)]
        simpa using e4 hl
      · intro hl
        have := hv.1
        simp only [List.size_toArray]
        rw [splice_length (by simp; omega)]
        simpa using e5 hl
    · obtain ⟨hg', b', hb', hG'⟩ := h.glob j g' e
      refine ⟨by simpa using hg', b', by rw [List.getElem?_set_ne (Ne.symm hj)]; exact hb', hG'.mono (Le.refl m) e (fun hl => hother g' (fun he => ?_))⟩
      subst he
      exact hj (h.ginj j i _ b' b e hi hb' hb hl hlive)
  · obtain ⟨hg', b', hb', hL⟩ := h.locs j g' e
    exact ⟨by simpa using hg', b', hb', hL.mono (Le.refl m) (hother g' (fun he => h.disj i j g hi (he ▸ e)))⟩
  · intro a c g' ba bc ea ec ha hc la lc
    have hn : ∀ (x : Nat) (bx : Blk), (H.set i { b with cells := splice b.cells o vs })[x]? = some bx → bx.live = true → ∃ bx' : Blk, H[x]? = some bx' ∧ bx'.live = true := by
      intro x bx hx lx
      by_cases hxi : x = i
      · subst hxi; exact ⟨b, hb, hlive⟩
      · rw [List.getElem?_set_ne (Ne.symm hxi)] at hx; exact ⟨bx, hx, lx⟩
    obtain ⟨ba', ha', la'⟩ := hn a ba ha la
    obtain ⟨bc', hc', lc'⟩ := hn c bc hc lc
    exact h.ginj a c g' ba' bc' ea ec ha' hc' la' lc'
  · rw [List.getElem?_set_ne]
    intro e; subst e; rw [hi] at hn; cases hn
  · rw [List.getElem?_set_ne]
    intro e; subst e; simp at hn
  · by_cases hj : j = i
    · subst hj
      rw [hb] at e; injection e with e; subst e
      exact ⟨_, getElem?_set_self' hb, rfl, rfl⟩
    · exact ⟨x, by rw [List.getElem?_set_ne (Ne.symm hj)]; exact e, rfl, rfl⟩

/-- A local block turned. -/
theorem ext_turnL {m : Mp} {H loc : Hp} {w w' : World} (h : Rel m H loc w) {i g : Nat} {b b' : Blk} (hi : m.lb i = some g) (hb : loc[i]? = some b)
    (hother : ∀ k, k ≠ g → w'.heap[k]? = w.heap[k]?) (hsz : w'.heap.size = w.heap.size) (hos : w'.os = w.os) (htp : w'.tape = w.tape) (hou : w'.output = w.output) (hL' : LR m g b' w') :
    Ext m H loc w m H (loc.set i b') w' [] [i] := by
  refine ⟨Le.refl m, ⟨fun j g' e => ?_, fun j g' e => ?_, h.ginj, h.linj, h.disj⟩, fun j g' e => .inl ⟨j, e⟩, fun _ _ e => .inl e, fun _ _ e => .inl e, fun _ _ e => .inl e, hos, htp, hou, by rw [hsz]; exact Nat.le_refl _,
    fun g' hg' _ hn => hother g' (fun e => hn i (e ▸ hi)), fun _ _ _ => rfl, fun j hj hn => ?_, fun _ _ _ => rfl, fun j hj hn => ?_, Nat.le_refl _, by simp, fun _ x e => ⟨x, e, rfl, rfl⟩, fun j g' x e _ _ _ => hother g' (fun he => h.disj j i g (he ▸ e) hi)⟩
  · obtain ⟨hg', b0, hb', hG'⟩ := h.glob j g' e
    exact ⟨by rw [hsz]; exact hg', b0, hb', hG'.mono (Le.refl m) e (fun _ => hother g' (fun he => h.disj j i g (he ▸ e) hi))⟩
  · by_cases hj : j = i
    · subst hj
      rw [hi] at e; injection e with e; subst e
      exact ⟨by rw [hsz]; exact (h.locs j g hi).1, _, getElem?_set_self' hb, hL'⟩
    · obtain ⟨hg', b0, hb', hL⟩ := h.locs j g' e
      exact ⟨by rw [hsz]; exact hg', b0, by rw [List.getElem?_set_ne (Ne.symm hj)]; exact hb', hL.mono (Le.refl m) (hother g' (fun he => hj (h.linj j i g (he ▸ e) hi)))⟩
  · rw [List.getElem?_set_ne]
    intro e; subst e; rw [hi] at hn; cases hn
  · rw [List.getElem?_set_ne]
    intro e; subst e; simp at hn

/-- A write into a local block. -/
theorem ext_writeL {m : Mp} {H loc : Hp} {w : World} (h : Rel m H loc w) {i g : Nat} {b : Blk} (hi : m.lb i = some g) (hb : loc[i]? = some b) (hlive : b.live = true)
    {cs : Array Value} (hcs : w.heap[g]? = some (.cells cs b.elem (0, 0))) (o : Nat) {vs vs' : List Value} (hv : VRs m vs vs') :
    Ext m H loc w m H (loc.set i { b with cells := splice b.cells o vs }) (w.setRow g (splice cs.toList o vs').toArray) [] [i] := by
  obtain ⟨hg, b0, hb0, hL⟩ := h.locs i g hi
  rw [hb] at hb0; injection hb0 with hb0; subst hb0
  obtain ⟨cs0, e1, e2⟩ := hL.blk hlive
  rw [hcs] at e1; injection e1 with e1; injection e1 with e1; subst e1
  exact ext_turnL h hi hb (fun k hk => setRow_other w g k _ hk) (by simp) rfl rfl rfl
    ⟨fun _ => ⟨_, setRow_heap w g cs _ _ _ hcs, by simpa using e2.splice o hv⟩, fun e => by simp [hlive] at e⟩

end Go.Am
