/-
  Texts put together: AmG.
-/
import Derived.Test.YtgkihlkhklmgcaaGreatZTrajectorySteps2
set_option linter.unusedVariables false
namespace Go.Am
section
variable {P : Program} {m : Mp} {H loc : Hp} {w : World}

/-- A block that is given up. -/
theorem ext_kill (h : Rel m H loc w) {i : Nat} {b : Blk} (hb : H[i]? = some b) (hm : ∃ g, m.gb i = some g) : Ext m H loc w m (H.set i { b with cells := [], live := false }) loc w [i] [] := by
  refine ⟨Le.refl m, ⟨fun j g' e => ?_, h.locs, ?_, h.linj, h.disj⟩, fun j g' e => .inl ⟨j, e⟩, fun _ _ e => .inl e, fun _ _ e => .inl e, fun _ _ e => .inl e, rfl, rfl, rfl, Nat.le_refl _,
    fun _ _ _ _ => rfl, fun j hj hn => ?_, fun _ _ _ => rfl, fun j hj hn => ?_, fun _ _ _ => rfl, by simp, Nat.le_refl _, fun j x e => ?_, fun _ _ _ _ _ _ _ => rfl⟩
  · obtain ⟨hg', b', hb', hG'⟩ := h.glob j g' e
    by_cases hj : j = i
    · subst hj
      rw [hb] at hb'; injection hb' with hb'; subst hb'
      exact ⟨hg', _, getElem?_set_self' hb, hG'.lo, hG'.ez, (fun hl => by cases hl), fun _ hc => absurd rfl hc⟩
    · exact ⟨hg', b', by rw [List.getElem?_set_ne (Ne.symm hj)]; exact hb', hG'⟩
  · intro a c g' ba bc ea ec ha hc la lc
    have hn : ∀ (x : Nat) (bx : Blk), (H.set i { b with cells := [], live := false })[x]? = some bx → bx.held = true → H[x]? = some bx := by
      intro x bx hx lx
      by_cases hxi : x = i
      · subst hxi; rw [getElem?_set_self' hb] at hx; injection hx with hx; subst hx; simp [Blk.held] at lx
      · rwa [List.getElem?_set_ne (Ne.symm hxi)] at hx
    exact h.ginj a c g' ba bc ea ec (hn a ba ha la) (hn c bc hc lc) la lc
  · rw [List.getElem?_set_ne]
    intro e; subst e; obtain ⟨g, hg⟩ := hm; rw [hg] at hn; cases hn
  · rw [List.getElem?_set_ne]
    intro e; subst e; simp at hn
  · by_cases hj : j = i
    · subst hj
      rw [hb] at e; injection e with e; subst e
      exact ⟨_, getElem?_set_self' hb, rfl, rfl⟩
    · exact ⟨x, by rw [List.getElem?_set_ne (Ne.symm hj)]; exact e, rfl, rfl⟩

/-- An append that finds room in a block of unknown length: the block goes on under a new number. -/
theorem ext_takeover (h : Rel m H loc w) {i g : Nat} {b : Blk} (hi : m.gb i = some g) (hb : H[i]? = some b) (hlive : b.live = true) (hloose : b.loose = true)
    {cs : Array Value} (hcs : w.heap[g]? = some (.cells cs b.elem (0, 0))) {vs vs' : List Value} (ho : b.cells.length + vs.length ≤ cs.size) (hv : VRs m.noL vs vs') :
    Ext m H loc w (m.addG H.length g true b.esz cs.size) (H.set i { b with cells := [], live := false } ++ [{ b with cells := b.cells ++ vs }]) loc (w.setRow g (splice cs.toList b.cells.length vs').toArray) [i] [] := by
  have hun := h.unG (Nat.le_refl H.length)
  have hle : Le m (m.addG H.length g true b.esz cs.size) := le_addG hun
  have hlt : ∀ j g', m.gb j = some g' → j < H.length := fun j g' e => by
    rcases Nat.lt_or_ge j H.length with hh | hh
    · exact hh
    · rw [h.unG hh] at e; cases e
  have hcase : ∀ j g', (m.addG H.length g true b.esz cs.size).gb j = some g' → (j = H.length ∧ g' = g) ∨ (j ≠ H.length ∧ m.gb j = some g') := fun j g' e => by
    simp only [Mp.addG] at e
    split at e
    · rename_i hj; injection e with e; exact .inl ⟨hj, e.symm⟩
    · rename_i hj; exact .inr ⟨hj, e⟩
  obtain ⟨hg, b0, hb0, hG⟩ := h.glob i g hi
  rw [hb] at hb0; injection hb0 with hb0; subst hb0
  obtain ⟨cs0, e1, e2, e3, e4, e5⟩ := hG.blk hlive
  rw [hcs] at e1; injection e1 with e1; injection e1 with e1; subst e1
  have hother : ∀ k, k ≠ g → (w.setRow g (splice cs.toList b.cells.length vs').toArray).heap[k]? = w.heap[k]? := fun k hk => setRow_other w g k _ hk
  have hset : ∀ j, j < H.length → (H.set i { b with cells := [], live := false } ++ [{ b with cells := b.cells ++ vs }])[j]? = (H.set i { b with cells := [], live := false })[j]? := fun j hj => List.getElem?_append_left (by simpa using hj)
  have hnew : (H.set i { b with cells := [], live := false } ++ [{ b with cells := b.cells ++ vs }])[H.length]? = some { b with cells := b.cells ++ vs } := by
    rw [List.getElem?_append_right (by simp)]
    simp
  have hlive' : ∀ (x : Nat) (bx : Blk), x < H.length → (H.set i { b with cells := [], live := false } ++ [{ b with cells := b.cells ++ vs }])[x]? = some bx → bx.held = true → x ≠ i ∧ H[x]? = some bx := by
    intro x bx hx he lx
    rw [hset x hx] at he
    by_cases hxi : x = i
    · subst hxi; rw [getElem?_set_self' hb] at he; injection he with he; subst he; simp [Blk.held] at lx
    · exact ⟨hxi, by rwa [List.getElem?_set_ne (Ne.symm hxi)] at he⟩
  have hsplen : (splice cs.toList b.cells.length vs').length = cs.size := by
    have := hv.1
    rw [splice_length (by simp; omega)]; simp
  refine ⟨hle, ⟨fun j g' e => ?_, fun j g' e => ?_, ?_, fun a c g' e e' => h.linj a c g' e e', ?_⟩, ?_, fun j g' e => .inl e, ?_, fun j g' e => .inl e, rfl, rfl, rfl, by simp,
    fun g' hg' hn _ => hother g' (fun e => hn i (e ▸ hi)), fun j hj hn => ?_, fun _ _ _ => rfl, fun j hj hn => ?_, fun _ _ _ => rfl, by simp, Nat.le_refl _, fun j x e => ?_, fun j g' x e hx hl hn => hother g' (fun he => by subst he; exact hn (by simp [h.ginj j i _ x b e hi hx hb hl (Blk.held_live hlive)]))⟩
  · rcases hcase j g' e with ⟨rfl, rfl⟩ | ⟨hj, e'⟩
    · refine ⟨by simpa using hg, _, hnew, ⟨by simp [Mp.addG, hloose], by simp [Mp.addG], fun _ => ⟨_, setRow_heap w _ cs _ _ _ hcs, ?_, ?_, fun hl => by simp [hloose] at hl, fun _ => ?_⟩, fun e => by simp only at e; rw [hlive] at e; cases e⟩⟩
      · simp only [List.size_toArray, hsplen, List.length_append]; exact ho
      · simp only [List.length_append]
        have e : (splice cs.toList b.cells.length vs').take (b.cells.length + vs.length) = cs.toList.take b.cells.length ++ vs' := by
          unfold splice
          rw [List.append_assoc, ← List.append_assoc, List.take_append_of_le_length]
          · rw [List.take_of_length_le]
            have := hv.1
            simp; omega
          · have := hv.1
            simp; omega
        rw [e]
        exact (e3.append hv).mono hle.noL
      · simp [Mp.addG, hsplen]
    · obtain ⟨hg', b', hb', hG'⟩ := h.glob j g' e'
      have hjl := hlt j g' e'
      by_cases hji : j = i
      · subst hji
        rw [hb] at hb'; injection hb' with hb'; subst hb'
        refine ⟨by simpa using hg', { b with cells := [], live := false }, by rw [hset j hjl]; exact getElem?_set_self' hb, ?_, ?_, (fun hl => by cases hl), fun _ hc => absurd rfl hc⟩
        · exact (hle.loose j g' e').trans hG'.lo
        · exact (hle.esz j g' e').trans hG'.ez
      · refine ⟨by simpa using hg', b', by rw [hset j hjl, List.getElem?_set_ne (Ne.symm hji)]; exact hb', hG'.mono hle e' (fun hl => hother g' (fun he => ?_))⟩
        subst he
        exact hji (h.ginj j i _ b' b e' hi hb' hb hl (Blk.held_live hlive))
  · obtain ⟨hg', b', hb', hL⟩ := h.locs j g' e
    exact ⟨by simpa using hg', b', hb', hL.mono hle (hother g' (fun he => h.disj i j g hi (he ▸ e)))⟩
  · intro a c g' ba bc ea ec ha hc la lc
    rcases hcase a g' ea with ⟨rfl, rfl⟩ | ⟨na, ea'⟩ <;> rcases hcase c _ ec with ⟨rfl, hh⟩ | ⟨nc, ec'⟩
    · rfl
    · obtain ⟨hne, hc'⟩ := hlive' c bc (hlt c _ ec') hc lc
      exact absurd (h.ginj c i _ bc b ec' hi hc' hb lc (Blk.held_live hlive)) hne
    · subst hh
      obtain ⟨hne, ha'⟩ := hlive' a ba (hlt a _ ea') ha la
      exact absurd (h.ginj a i _ ba b ea' hi ha' hb la (Blk.held_live hlive)) hne
    · exact h.ginj a c g' ba bc ea' ec' (hlive' a ba (hlt a _ ea') ha la).2 (hlive' c bc (hlt c _ ec') hc lc).2 la lc
  · intro a c g' e e'
    rcases hcase a g' e with ⟨rfl, rfl⟩ | ⟨_, ei⟩
    · exact h.disj i c _ hi e'
    · exact h.disj a c g' ei e'
  · intro a g' e
    rcases hcase a g' e with ⟨_, rfl⟩ | ⟨_, ei⟩
    · exact .inl ⟨i, hi⟩
    · exact .inl ⟨a, ei⟩
  · intro a g' e
    rcases hcase a g' e with ⟨rfl, _⟩ | ⟨_, ei⟩
    · exact .inr ⟨Nat.le_refl _, by simp⟩
    · exact .inl ei
  · rw [hset j hj, List.getElem?_set_ne]
    intro e; subst e; rw [hi] at hn; cases hn
  · rw [hset j hj, List.getElem?_set_ne]
    intro e; subst e; simp at hn
  · have hjl : j < H.length := (List.getElem?_eq_some_iff.1 e).1
    by_cases hj : j = i
    · subst hj
      rw [hb] at e; injection e with e; subst e
      exact ⟨{ b with cells := [], live := false }, by rw [hset j hjl]; exact getElem?_set_self' hb, rfl, rfl⟩
    · exact ⟨x, by rw [hset j hjl, List.getElem?_set_ne (Ne.symm hj)]; exact e, rfl, rfl⟩

theorem growBy_le (n : Nat) : ∀ (r c : Nat), c < n → Builtin.growBy n r c ≤ n + (n + 768) / 4
  | 0, c, h => by simp only [Builtin.growBy]; omega
  | r + 1, c, h => by
    simp only [Builtin.growBy]
    rw [if_neg (by omega)]
    by_cases h2 : c + (c + 768) / 4 < n
    · exact growBy_le n r _ h2
    · cases r with
      | zero => simp only [Builtin.growBy]; omega
      | succ r => simp only [Builtin.growBy]; rw [if_pos (by omega)]; omega
theorem nextcap_le {n c : Nat} (h : c < n) : Builtin.nextslicecap n c ≤ 2 * n + 200 := by
  unfold Builtin.nextslicecap
  split
  · omega
  · split
    · omega
    · have := growBy_le n 4 c h; omega

def srcLen : Value → Option Nat
  | .slice _ n _ => some n
  | .string s => some s.size
  | _ => none

def srcCells (H loc : Hp) (size n : Nat) : Value → Option (List Value)
  | .slice (some a) _ _ => bif n * size == 0 then some [] else readCells H loc a (n * size)
  | .slice none _ _ => some []
  | .string s => some ((s.extract 0 n).data.toList.map fun b => .int .u8 b.toNat)
  | _ => none

theorem srcLen_sound {x x' : Value} (hx : VR m x x') {n : Nat} (h : srcLen x = some n) (w : World) : (Builtin.lenOf x').run P w = .ok n w := by
  unfold srcLen at h
  split at h
  · rename_i a n' c
    injection h with h; subst h
    cases a with
    | none => cases hx; simp [Builtin.lenOf]
    | some a => obtain ⟨a', c', rfl, _⟩ := vr_slice hx; simp [Builtin.lenOf]
  · injection h with h; subst h
    cases hx; simp [Builtin.lenOf]
  · cases h

theorem srcCells_sound (hR : Rel m H loc w) {x x' : Value} (hx : VR m x x') {size n : Nat} {vs : List Value} (h : srcCells H loc size n x = some vs) (hn : ∀ a l c, x = .slice a l c → n ≤ l) :
    ∃ vs' : List Value, (Builtin.firstCells size n x').run P w = .ok vs'.toArray w ∧ VRs m vs vs' := by
  unfold srcCells at h
  split at h
  · rename_i a l c
    obtain ⟨a', c', rfl, hsr⟩ := vr_slice hx
    cases hz : (n * size == 0) with
    | true =>
      rw [hz] at h
      simp only [cond_true, Option.some.injEq] at h
      subst h
      have h0 : n * size = 0 := by simpa using hz
      exact ⟨[], by simp [Builtin.firstCells, loadCells, h0, loadCellsFrom], VRs.nil m⟩
    | false =>
      rw [hz] at h
      simp only [cond_false] at h
      have h0 : n * size ≠ 0 := by simpa using hz
      rcases hsr with ⟨har, _⟩ | ⟨rfl, _⟩
      · obtain ⟨vs', hvr, hlen, hcell⟩ := read_sound hR har h
        have := run_loadCells_list (P := P) w a' vs' hcell
        have hl : vs'.length = n * size := by have := hvr.1; omega
        rw [hl] at this
        exact ⟨vs', by simp [Builtin.firstCells, this], hvr⟩
      · have := hn _ _ _ rfl
        have : n = 0 := by omega
        subst this
        simp at h0
  · injection h with h; subst h
    cases hx
    exact ⟨[], by simp [Builtin.firstCells], VRs.nil m⟩
  · rename_i s
    injection h with h; subst h
    cases hx
    refine ⟨(s.extract 0 n).data.toList.map fun b => .int .u8 b.toNat, by simp only [Builtin.firstCells, Sem.run_pure]; congr 1; apply Array.ext'; simp, ?_⟩
    refine ⟨rfl, fun i v v' a b => ?_⟩
    rw [a] at b; injection b with b; subst b
    simp only [List.getElem?_map, Option.map_eq_some_iff] at a
    obtain ⟨_, _, rfl⟩ := a
    exact .int _ _
  · cases h


structure Out where
  v : Value
  H : Hp
  loc : Hp
  wg : List Nat
  wl : List Nat

/-- A new block behind an append: old and new cells; the block may be longer than it seems. -/
def grown (H loc : Hp) (elem : TypeId) (esz need : Nat) (cells : List Value) (wg : List Nat) : Option Out :=
  bif cells.all cellOk then fSpine cells (fun cells => fSpine (H ++ [⟨cells, elem, esz, true, true⟩]) fun H' => some ⟨.slice (some ⟨H.length, 0, none⟩) need need, H', loc, wg, []⟩) else none

def evAppend (P : Program) (H loc : Hp) (tS tX : TypeId) (s x : Value) : Option Out :=
  match P.underlying tS, P.underlying tX, s with
  | some (.slice elem), some dX, .slice base sLen sCap =>
    bif !(match dX with | .slice _ => true | .string => true | _ => false) then none else
    match P.info? elem with
    | none => none
    | some ti =>
      match ti.zero, srcLen x with
      | some z, some n =>
        bif !(z.cells.size == ti.size) then none else
        match srcCells H loc ti.size n x with
        | none => none
        | some new =>
          bif decide (sLen + n ≤ sCap) then
            match base with
            | none => bif decide (sLen + n = 0) then some ⟨.slice none (sLen + n) sCap, H, loc, [], []⟩ else none
            | some a =>
              bif sLen + n == 0 then some ⟨.slice (some a) (sLen + n) sCap, H, loc, [], []⟩ else
              match writeCells H loc (addA a (sLen * ti.size)) new with
              | some (H', loc', wg, wl) => some ⟨.slice (some a) (sLen + n) sCap, H', loc', wg, wl⟩
              | none => none
          else
            bif decide (0 < ti.bytes) && decide ((2 * (sLen + n) + 200) * ti.bytes ≤ 281474976710656) && decide (new.length = n * ti.size) && decide (sLen + n < 9223372036854775808) then
              match base with
              | none => bif decide (sLen = 0) then grown H loc elem ti.size (sLen + n) new [] else none
              | some a =>
                match a.spot with
                | some 0 => match readCells H loc a (sLen * ti.size) with
                  | some old => grown H loc elem ti.size (sLen + n) (old ++ new) []
                  | none => none
                | some (_ + 1) => none
                | none =>
                  match H[a.block]?, readCells H loc a (sLen * ti.size) with
                  | some b, some old =>
                    bif !b.loose then grown H loc elem ti.size (sLen + n) (old ++ new) []
                    else bif decide (a.off = 0) && decide (b.cells.length = sLen * ti.size) && decide (0 < sLen) && decide (b.esz = ti.size) && decide (b.elem = elem) && new.all cellOk then
                      fSpine (b.cells ++ new) (fun cells => fSpine (H.set a.block { b with cells := [], live := false } ++ [{ b with cells := cells }]) fun H' => some ⟨.slice (some ⟨H.length, 0, none⟩) (sLen + n) (sLen + n), H', loc, [a.block], []⟩)
                    else none
                  | _, _ => none
            else none
      | _, _ => none
  | _, _, _ => none


theorem append_room {tS tX ty elem : TypeId} {ti : TypeInfo} (hS : P.underlying tS = some (.slice elem)) (hX : (∃ e, P.underlying tX = some (.slice e)) ∨ P.underlying tX = some .string)
    (hi : P.info? elem = some ti) {a : Addr} {sLen c n : Nat} {x : Value} {new : Array Value} {w w' : World} (hl : (Builtin.lenOf x).run P w = .ok n w) (hf : (Builtin.firstCells ti.size n x).run P w = .ok new w)
    (hc : sLen + n ≤ c) (hst : (storeCells (a.add (sLen * ti.size)) new.toList).run P w = .ok () w') :
    (Builtin.append_ #[tS, tX] ty #[.slice (some a) sLen c, x]).run P w = .ok (.slice (some a) (sLen + n) c) w' := by
  rcases hX with ⟨e, hk⟩ | hk <;> simp [Builtin.append_, run_underlying hS, run_underlying hk, sizeOf, typeInfo, hi, hl, hf, hc, hst]

theorem append_room_none {tS tX ty elem : TypeId} {ti : TypeInfo} (hS : P.underlying tS = some (.slice elem)) (hX : (∃ e, P.underlying tX = some (.slice e)) ∨ P.underlying tX = some .string)
    (hi : P.info? elem = some ti) {sLen c n : Nat} {x : Value} {new : Array Value} {w : World} (hl : (Builtin.lenOf x).run P w = .ok n w) (hf : (Builtin.firstCells ti.size n x).run P w = .ok new w)
    (hc : sLen + n ≤ c) :
    (Builtin.append_ #[tS, tX] ty #[.slice none sLen c, x]).run P w = .ok (.slice none (sLen + n) c) w := by
  rcases hX with ⟨e, hk⟩ | hk <;> simp [Builtin.append_, run_underlying hS, run_underlying hk, sizeOf, typeInfo, hi, hl, hf, hc]

theorem append_grow {tS tX ty elem : TypeId} {ti : TypeInfo} {z : Value} (hS : P.underlying tS = some (.slice elem)) (hX : (∃ e, P.underlying tX = some (.slice e)) ∨ P.underlying tX = some .string)
    (hi : P.info? elem = some ti) (hz : ti.zero = some z) {base : Option Addr} {sLen c n : Nat} {x : Value} {old new : Array Value} {w : World} (hl : (Builtin.lenOf x).run P w = .ok n w)
    (hf : (Builtin.firstCells ti.size n x).run P w.drew = .ok new w.drew) (ho : (Builtin.firstCells ti.size sLen (.slice base sLen c)).run P w.drew = .ok old w.drew)
    (hc : c < sLen + n) (h63 : sLen + n < 9223372036854775808) (hfit : Builtin.nextslicecap (sLen + n) c * ti.bytes ≤ 281474976710656) :
    ∃ cap, sLen + n ≤ cap ∧ (Builtin.append_ #[tS, tX] ty #[.slice base sLen c, x]).run P w = .ok (.slice (some ⟨w.heap.size, 0, none⟩) (sLen + n) cap) (w.drew.alloc (.cells (old ++ new ++ Builtin.zeroCells z.cells (cap - (sLen + n))) elem)) := by
  have hn : ¬ (sLen + n ≤ c) := by omega
  have h63' : ¬ (9223372036854775807 < ((sLen : Int) + (n : Int))) := by omega
  have h48' : ¬ (281474976710656 < Builtin.nextslicecap (sLen + n) c * ti.bytes) := by omega
  refine ⟨grownCap w (sLen + n) c elem, by unfold grownCap Question.cut; simp, ?_⟩
  rcases hX with ⟨e, hk⟩ | hk <;>
    simp [Builtin.append_, run_underlying hS, run_underlying hk, sizeOf, typeInfo, zeroValue, hi, hz, hl, hn, h63', h48', Question.forced, hf, ho, newRow, grownCap]

theorem Rel.heap {w' : World} (h : Rel m H loc w) (e : w'.heap = w.heap) : Rel m H loc w' := by
  refine ⟨fun i g hi => ?_, fun i g hi => ?_, h.ginj, h.linj, h.disj⟩
  · obtain ⟨h1, b, h2, h3⟩ := h.glob i g hi
    exact ⟨by rw [e]; exact h1, b, h2, h3.lo, h3.ez, (fun hl => by rw [e]; exact h3.blk hl), fun hl hc => by rw [e]; exact h3.mp hl hc⟩
  · obtain ⟨h1, b, h2, h3⟩ := h.locs i g hi
    exact ⟨by rw [e]; exact h1, b, h2, fun hl => by rw [e]; exact h3.blk hl, fun hl => by rw [e]; exact h3.it hl⟩
theorem Rel.drew (h : Rel m H loc w) : Rel m H loc w.drew := h.heap rfl
theorem Ext.start {w0 w' : World} {m' : Mp} {H' loc' : Hp} {wg wl : List Nat} (h : Ext m H loc w0 m' H' loc' w' wg wl) (e : w0.heap = w.heap) (e1 : w0.os = w.os) (e2 : w0.tape = w.tape) (e3 : w0.output = w.output) :
    Ext m H loc w m' H' loc' w' wg wl :=
  ⟨h.le, h.rel, by rw [← e]; exact h.img, by rw [← e]; exact h.imgl, h.dom, h.doml, h.os.trans e1, h.tape.trans e2, h.output.trans e3, by rw [← e]; exact h.size, by rw [← e]; exact h.frame, h.un, h.unl, h.mod, h.modl, h.len, h.lenl, h.kp, by rw [← e]; exact h.cmod⟩

/-- The new block behind a growth. -/
theorem grown_sound {w0 : World} (hR : Rel m H loc w0) {elem : TypeId} {esz need cap : Nat} {cells cells' : List Value} {rest : Array Value} {wg : List Nat} {out : Out} (h : grown H loc elem esz need cells wg = some out)
    (hv : VRs m cells cells') (hcap : need ≤ cap) (hlen : cells.length = need * esz) (hrest : rest.size = (cap - need) * esz) :
    ∃ m', Ext m H loc w0 m' out.H out.loc (w0.drew.alloc (.cells (cells'.toArray ++ rest) elem)) [] out.wl ∧ VR m' out.v (.slice (some ⟨w0.heap.size, 0, none⟩) need cap) ∧ out.wg = wg := by
  unfold grown at h
  simp only [fSpine_eq] at h
  cases hc : cells.all cellOk with
  | false => rw [hc] at h; cases h
  | true =>
    rw [hc] at h
    simp only [cond_true, Option.some.injEq] at h
    subst h
    obtain ⟨_, hn⟩ := all_cellOk hc
    have hvn := vrs_noLoc hn hv
    have hl' : cells'.length = cells.length := hv.1.symm
    have hext := ext_newG (w := w0.drew) hR.drew ⟨cells, elem, esz, true, true⟩ (cells'.toArray ++ rest) rfl (by simp; omega) (by
      simp only [Array.toList_append]
      rw [← hl', List.take_append_of_le_length (Nat.le_refl _), List.take_length]
      exact hvn) (fun e => by cases e)
    refine ⟨_, hext.start (w := w0) rfl rfl rfl rfl, ?_, rfl⟩
    refine SR.vr (.inl ⟨.inl ⟨rfl, by simp [Mp.addG], rfl, rfl⟩, .inr ⟨rfl, by simp [Mp.addG], hcap, ?_⟩⟩)
    simp only [Mp.addG, if_true, Array.size_append, List.size_toArray, hl', hlen, hrest, Nat.zero_add]
    rw [← Nat.add_mul]
    exact Nat.mul_le_mul_right _ (by omega)

theorem append_sound (hR : Rel m H loc w) {tS tX ty : TypeId} {s x s' x' : Value} (hs : VR m s s') (hx : VR m x x') {out : Out} (h : evAppend P H loc tS tX s x = some out) :
    ∃ v' w' m', (Builtin.append_ #[tS, tX] ty #[s', x']).run P w = .ok v' w' ∧ Ext m H loc w m' out.H out.loc w' out.wg out.wl ∧ VR m' out.v v' := by
  unfold evAppend at h
  simp only [fSpine_eq] at h
  split at h
  · rename_i elem dX base sLen sCap hS hX
    cases hd : (match dX with | .slice _ => true | .string => true | _ => false) with
    | false => simp [hd] at h
    | true =>
      have hX' : (∃ e, P.underlying tX = some (.slice e)) ∨ P.underlying tX = some .string := by
        split at hd
        · exact .inl ⟨_, hX⟩
        · exact .inr hX
        · cases hd
      simp only [hd, Bool.not_true, cond_false] at h
      split at h
      · cases h
      · rename_i ti hti
        split at h
        · rename_i z n hz hn
          cases hzs : (z.cells.size == ti.size) with
          | false => simp [hzs] at h
          | true =>
            have hzs' : z.cells.size = ti.size := by simpa using hzs
            simp only [hzs, Bool.not_true, cond_false] at h
            split at h
            · cases h
            · rename_i new hnew
              have hlen := srcLen_sound (P := P) hx hn w
              have hnl : ∀ a l c, x = .slice a l c → n ≤ l := by
                intro a l c e; subst e; simp [srcLen] at hn; omega
              obtain ⟨new', hf, hvn⟩ := srcCells_sound (P := P) hR hx hnew hnl
              obtain ⟨new'', hf2, hvn2⟩ := srcCells_sound (P := P) hR.drew hx hnew hnl
              cases hroom : decide (sLen + n ≤ sCap) with
              | true =>
                simp only [hroom, cond_true] at h
                have hroom' : sLen + n ≤ sCap := by simpa using hroom
                cases base with
                | none =>
                  simp only at h
                  cases h0 : decide (sLen + n = 0) with
                  | false => rw [h0] at h; cases h
                  | true =>
                    simp only [h0, cond_true, Option.some.injEq] at h
                    subst h
                    cases hs
                    exact ⟨_, _, m, append_room_none hS hX' hti hlen hf hroom', Ext.refl hR, .sliceN _ _⟩
                | some a =>
                  simp only at h
                  obtain ⟨a', c', rfl, hsr⟩ := vr_slice hs
                  have hcap : sCap ≤ c' := by
                    rcases hsr with ⟨_, rfl | ⟨_, _, h3, _⟩⟩ | ⟨_, h2, _⟩
                    · exact Nat.le_refl _
                    · exact h3
                    · omega
                  cases h0 : (sLen + n == 0) with
                  | true =>
                    simp only [h0, cond_true, Option.some.injEq] at h
                    subst h
                    have e0 : sLen + n = 0 := by simpa using h0
                    have e1 : n = 0 := by omega
                    have e2 : sLen = 0 := by omega
                    subst e1; subst e2
                    have hemp : new = [] := by
                      unfold srcCells at hnew
                      split at hnew
                      · simpa using hnew
                      · injection hnew with hnew; exact hnew.symm
                      · rename_i s0
                        injection hnew with hnew
                        subst hnew
                        simp
                      · cases hnew
                    subst hemp
                    have hemp' : new' = [] := List.eq_nil_of_length_eq_zero hvn.1.symm
                    subst hemp'
                    refine ⟨_, _, m, append_room hS hX' hti hlen hf (by omega) (w' := w) (by simp [storeCells]), Ext.refl hR, ?_⟩
                    exact hsr.vr
                  | false =>
                    simp only [h0, cond_false] at h
                    have e0 : sLen + n ≠ 0 := by simpa using h0
                    rcases hsr with ⟨har, hcc⟩ | ⟨_, h2, _⟩
                    · split at h
                      · rename_i H' loc' wg wl hw
                        injection h with h; subst h
                        obtain ⟨w', hrun, hext⟩ := write_sound (P := P) hR (har.add (sLen * ti.size)) hvn hw
                        refine ⟨_, w', m, append_room hS hX' hti hlen hf (by omega) (by simpa using hrun), hext, ?_⟩
                        exact SR.vr (.inl ⟨har, hcc⟩)
                      · cases h
                    · omega
              | false =>
                simp only [hroom, cond_false] at h
                have hroom' : ¬ sLen + n ≤ sCap := by simpa using hroom
                cases hch : (decide (0 < ti.bytes) && decide ((2 * (sLen + n) + 200) * ti.bytes ≤ 281474976710656) && decide (new.length = n * ti.size) && decide (sLen + n < 9223372036854775808)) with
                | false => simp [hch] at h
                | true =>
                  simp only [hch, cond_true] at h
                  simp only [Bool.and_eq_true, decide_eq_true_eq] at hch
                  obtain ⟨⟨⟨hby, hbig⟩, hnl2⟩, h63⟩ := hch
                  have hfit : ∀ c, c < sLen + n → Builtin.nextslicecap (sLen + n) c * ti.bytes ≤ 281474976710656 := fun c hc => Nat.le_trans (Nat.mul_le_mul_right _ (nextcap_le hc)) hbig
                  cases base with
                  | none =>
                    simp only at h
                    cases h0 : decide (sLen = 0) with
                    | false => simp [h0] at h
                    | true =>
                      simp only [h0, cond_true] at h
                      have e0 : sLen = 0 := by simpa using h0
                      subst e0
                      cases hs
                      obtain ⟨cap, hcap, hrun⟩ := append_grow (ty := ty) (base := none) (c := sCap) (old := #[]) hS hX' hti hz hlen hf2 (by simp [Builtin.firstCells]) (by omega) h63 (hfit sCap (by omega))
                      obtain ⟨m', hext, hvr, hwg⟩ := grown_sound (rest := Builtin.zeroCells z.cells (cap - (0 + n))) hR h hvn2 hcap (by simpa using hnl2) (by rw [size_zeroCells, hzs'])
                      exact ⟨_, _, m', by rw [hrun], by rw [hwg]; simpa using hext, hvr⟩
                  | some a =>
                    simp only at h
                    obtain ⟨a', c', rfl, hsr⟩ := vr_slice hs
                    have hold : ∀ {old : List Value}, AR m a a' → readCells H loc a (sLen * ti.size) = some old →
                        ∃ old' : List Value, (Builtin.firstCells ti.size sLen (.slice (some a') sLen c')).run P w.drew = .ok old'.toArray w.drew ∧ VRs m old old' ∧ old.length = sLen * ti.size := by
                      intro old har ho
                      obtain ⟨vs', hvr, hl2, hcell⟩ := read_sound hR.drew har ho
                      have hrun := run_loadCells_list (P := P) w.drew a' vs' hcell
                      have hl3 : vs'.length = sLen * ti.size := by have := hvr.1; omega
                      rw [hl3] at hrun
                      exact ⟨vs', by simp [Builtin.firstCells, hrun], hvr, hl2⟩
                    have hexact : AR m a a' → c' = sCap → ∀ {old : List Value}, readCells H loc a (sLen * ti.size) = some old → grown H loc elem ti.size (sLen + n) (old ++ new) [] = some out →
                        ∃ v' w' m', (Builtin.append_ #[tS, tX] ty #[.slice (some a') sLen c', x']).run P w = .ok v' w' ∧ Ext m H loc w m' out.H out.loc w' out.wg out.wl ∧ VR m' out.v v' := by
                      intro har hcc old ho hg
                      subst hcc
                      obtain ⟨old', hfo, hvo, hlo⟩ := hold har ho
                      obtain ⟨cap, hcap, hrun⟩ := append_grow (ty := ty) hS hX' hti hz hlen hf2 hfo (by omega) h63 (hfit c' (by omega))
                      obtain ⟨m', hext, hvr, hwg⟩ := grown_sound (rest := Builtin.zeroCells z.cells (cap - (sLen + n))) hR hg (hvo.append hvn2) hcap (by simp [hlo, hnl2, Nat.add_mul]) (by rw [size_zeroCells, hzs'])
                      refine ⟨_, _, m', hrun, ?_, hvr⟩
                      rw [hwg]
                      simpa using hext
                    split at h
                    · rename_i hsp
                      split at h
                      · rename_i old ho
                        rcases hsr with ⟨har, rfl | ⟨hn2, _⟩⟩ | ⟨_, _, hn2, _⟩
                        · exact hexact har rfl ho h
                        · rw [hsp] at hn2; cases hn2
                        · rw [hsp] at hn2; cases hn2
                      · cases h
                    · cases h
                    · rename_i hsp
                      split at h
                      · rename_i b old hb ho
                        cases hlo : b.loose with
                        | false =>
                          simp only [hlo, Bool.not_false, cond_true] at h
                          have hnl3 : ∀ g, m.gb a.block = some g → m.loose a.block = true → False := fun g hg hl => by
                            obtain ⟨_, b0, hb0, hG⟩ := hR.glob _ _ hg
                            rw [hb] at hb0; injection hb0 with hb0; subst hb0
                            rw [hG.lo, hlo] at hl; cases hl
                          rcases hsr with ⟨har, rfl | ⟨_, hl, _⟩⟩ | ⟨_, _, _, hl, g, hg⟩
                          · exact hexact har rfl ho h
                          · rcases har with ⟨_, hg, _⟩ | ⟨hn2, _⟩
                            · exact (hnl3 _ hg hl).elim
                            · rw [hsp] at hn2; cases hn2
                          · exact (hnl3 _ hg hl).elim
                        | true =>
                          rw [show (!b.loose) = false by rw [hlo]; rfl] at h
                          simp only [cond_false] at h
                          cases hch2 : (decide (a.off = 0) && decide (b.cells.length = sLen * ti.size) && decide (0 < sLen) && decide (b.esz = ti.size) && decide (b.elem = elem) && new.all cellOk) with
                          | false => simp [hch2] at h
                          | true =>
                            simp only [hch2, cond_true, Option.some.injEq] at h
                            subst h
                            simp only [Bool.and_eq_true, decide_eq_true_eq] at hch2
                            obtain ⟨⟨⟨⟨⟨hoff, hbl⟩, hs0⟩, hez⟩, hel⟩, hok⟩ := hch2
                            obtain ⟨hone, hnoloc⟩ := all_cellOk hok
                            rcases hsr with ⟨har, hcc⟩ | ⟨h0, _⟩
                            · have har0 := har
                              rcases har with ⟨_, hg, hao, hasp⟩ | ⟨hn2, _⟩
                              · obtain ⟨_, b0, hb0, hG⟩ := hR.glob _ _ hg
                                rw [hb] at hb0; injection hb0 with hb0; subst hb0
                                have hlive : b.live = true := by
                                  unfold readCells at ho
                                  simp only [fSpine_eq] at ho
                                  rw [hsp, hb] at ho
                                  simp only at ho
                                  cases hll : b.live with
                                  | true => rfl
                                  | false => simp [hll] at ho
                                obtain ⟨cs, e1, e2, e3, _, e5⟩ := hG.blk hlive
                                by_cases hin : sLen + n ≤ c'
                                · rcases hcc with rfl | ⟨_, _, hc1, hc2⟩
                                  · omega
                                  · have hct : c' * ti.size ≤ cs.size := by
                                      rw [hG.ez, hez, e5 hlo] at hc2
                                      omega
                                    have hsum : sLen * ti.size + n * ti.size ≤ cs.size := by
                                      rw [← Nat.add_mul]
                                      exact Nat.le_trans (Nat.mul_le_mul_right _ hin) hct
                                    have hvl := hvn.1
                                    obtain ⟨ab, ao, asp⟩ := a'
                                    simp only at hg hao hasp
                                    subst hasp
                                    have hao' : ao = 0 := by omega
                                    subst hao'
                                    have hst := run_storeCells_at (P := P) ab (0 + sLen * ti.size) b.elem new' 0 cs w e1 (by omega) (vrs_one hone hvn)
                                    have hadd : (⟨ab, 0, none⟩ : Addr).add (sLen * ti.size) = ⟨ab, 0 + sLen * ti.size, none⟩ := addr_add_spot rfl _
                                    have hext := ext_takeover (vs := new) (vs' := new') hR hg hb hlive hlo e1 (by omega) (vrs_noLoc hnoloc hvn)
                                    refine ⟨_, _, m.addG H.length ab true b.esz cs.size, append_room (new := new'.toArray) hS hX' hti hlen hf hin (by rw [hadd]; exact hst), ?_, ?_⟩
                                    · have : splice cs.toList b.cells.length new' = List.take (0 + sLen * ti.size + 0) cs.toList ++ new' ++ List.drop (0 + sLen * ti.size + 0 + new'.length) cs.toList := by
                                        unfold splice; simp [hbl]
                                      rw [this] at hext
                                      exact hext
                                    · refine SR.vr (.inl ⟨.inl ⟨rfl, by simp [Mp.addG], rfl, rfl⟩, .inr ⟨rfl, by simp [Mp.addG], hin, ?_⟩⟩)
                                      simp only [Mp.addG, if_true, hez]
                                      omega
                                · have hoff' : a'.off = 0 := by omega
                                  obtain ⟨ab, ao, asp⟩ := a'
                                  simp only at hg hao hasp hoff' e1
                                  subst hasp; subst hoff'
                                  have hvold : VRs m.noL b.cells (cs.toList.take b.cells.length) := e3
                                  have hcell : ∀ j v, (cs.toList.take b.cells.length)[j]? = some v → w.drew.cell? ((⟨ab, 0, none⟩ : Addr).add j) = some v := fun j v hv => by
                                    rw [addr_add_spot rfl j]
                                    simp only [Nat.zero_add]
                                    rw [cell_of_block (w := w.drew) e1 j]
                                    simp only [List.getElem?_take] at hv
                                    split at hv
                                    · simpa using hv
                                    · cases hv
                                  have hfo := run_loadCells_list (P := P) w.drew ⟨ab, 0, none⟩ _ hcell
                                  rw [show (cs.toList.take b.cells.length).length = sLen * ti.size by have := hvold.1; omega] at hfo
                                  generalize cs.toList.take b.cells.length = old' at *
                                  obtain ⟨cap, hcap, hrun⟩ := append_grow (ty := ty) (base := some ⟨ab, 0, none⟩) (sLen := sLen) (c := c') (old := old'.toArray) hS hX' hti hz hlen hf2 (by simp [Builtin.firstCells, hfo]) (by omega) h63 (hfit c' (by omega))
                                  have hk := ext_kill (w := w) hR hb ⟨_, hg⟩
                                  have hn1 := ext_newG (w := w.drew) (hk.rel.heap (w' := w.drew) rfl) { b with cells := b.cells ++ new } (old'.toArray ++ new''.toArray ++ Builtin.zeroCells z.cells (cap - (sLen + n))) hlive (by
                                      have := hvold.1; have := hvn2.1
                                      simp; omega) (by
                                      have h1 := hvold.1; have h2 := hvn2.1
                                      simp only [Array.toList_append, List.length_append]
                                      rw [List.take_append_of_le_length (by simp; omega), List.take_of_length_le (by simp; omega)]
                                      exact hvold.append (vrs_noLoc hnoloc hvn2)) (fun e => by simp [hlo] at e)
                                  have hfin := hk.trans (hn1.start (w := w) rfl rfl rfl rfl)
                                  refine ⟨_, _, m.addG (H.set a.block { b with cells := [], live := false }).length w.drew.heap.size b.loose b.esz (old'.toArray ++ new''.toArray ++ Builtin.zeroCells z.cells (cap - (sLen + n))).size, hrun, ?_, ?_⟩
                                  · simpa [hel] using hfin
                                  · refine SR.vr (.inl ⟨.inl ⟨rfl, by simp [Mp.addG], rfl, rfl⟩, .inr ⟨rfl, by simp [Mp.addG, hlo], hcap, ?_⟩⟩)
                                    have h1 := hvold.1; have h2 := hvn2.1
                                    simp only [Mp.addG, List.length_set, if_true, Array.size_append, List.size_toArray, size_zeroCells, hzs', hez, Nat.zero_add]
                                    have : cap * ti.size = sLen * ti.size + n * ti.size + (cap - (sLen + n)) * ti.size := by
                                      rw [← Nat.add_mul, ← Nat.add_mul]; congr 1; omega
                                    omega
                              · rw [hsp] at hn2; cases hn2
                            · omega
                      · cases h
        · cases h
  · cases h
end
end Go.Am
