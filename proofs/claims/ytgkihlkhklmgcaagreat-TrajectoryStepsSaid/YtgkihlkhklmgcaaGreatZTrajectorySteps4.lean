/-
  Texts put together: AmT.
-/
import Derived.Test.YtgkihlkhklmgcaaGreatZTrajectorySteps3
set_option linter.unusedVariables false
namespace Go.Am

section
variable {P : Program}
theorem runPure_bind {α β : Type} : ∀ (s : Sem α) (f : α → Sem β), runPure P (s.bind f) = (runPure P s).bind fun a => runPure P (f a)
  | .pure _, _ => rfl
  | .program k, f => by simp only [Sem.bind, runPure]; exact runPure_bind (k P) f
  | .mark _ k, f => by simp only [Sem.bind, runPure]; exact runPure_bind k f
  | .load .., _ | .store .., _ | .new .., _ | .shape .., _ | .freeze .., _ | .frozen .., _ | .getObj .., _ | .setObj .., _
  | .choose .., _ | .sys .., _ | .halt .., _ => rfl
theorem runPure_bind' {α β : Type} (s : Sem α) (f : α → Sem β) : runPure P (s >>= f) = (runPure P s).bind fun a => runPure P (f a) := runPure_bind s f
theorem runPure_pure {α : Type} (a : α) : runPure P (pure a : Sem α) = some a := rfl
theorem runPure_underlying {t : TypeId} {d : TypeDesc} (h : P.underlying t = some d) : runPure P (underlying t) = some d := by
  simp only [underlying, program, runPure_bind', runPure, Option.bind_some, h, runPure_pure]
end

/-- The entries that cells stand for. -/
def esOf : List Value → Nat → List MapEntry
  | k :: v :: cs, n => ⟨k, v, n⟩ :: esOf cs (n + 1)
  | _, _ => []
def okV (ck : Bool) (v : Value) (b : Bool) : Value := if ck then .tuple #[v, .bool b] else v

/-- A reading of a map. -/
def evLookup (P : Program) (H : Hp) (t : TypeId) (x key : Value) (ck : Bool) : Option Value :=
  match P.underlying t, x with
  | some (.map kt et), .map (some r) => match H[r]? with
    | some b => bif b.live then none else match b.cells with
      | [] => none
      | _ :: cs => bif plainB 4 key then
          match runPure P (Instr.checkKey (esOf cs 0).isEmpty 10000 kt key), runPure P (Instr.findKey kt key (esOf cs 0)) with
          | some _, some (some (_, v)) => some (okV ck v true)
          | some _, some none => match runPure P (zeroValue et) with
            | some z => bif plainV z then some (okV ck z false) else none
            | none => none
          | _, _ => none
        else none
    | none => none
  | _, .map none => bif plainB 4 key then match runPure P (Instr.lookup t (.map none) key ck) with
      | some v => bif plainV v then some v else none
      | none => none
    else none
  | _, _ => none

/-- The cells behind a write of an entry. -/
def putE (P : Program) (kt : TypeId) (key v : Value) (cs : List Value) : Option (List Value) :=
  bif plainB 4 key then
    match runPure P (Instr.checkKey false 10000 kt key), runPure P (Instr.findKey kt key (esOf cs 0)) with
    | some _, some (some (i, _)) => match cs[2 * i]? with
      | some old => bif Instr.sameBits 10000 old key then some ((cs.set (2 * i) key).set (2 * i + 1) v) else none
      | none => none
    | some _, some none => some (cs ++ [key, v])
    | _, _ => none
  else none

section
variable {P : Program} {m : Mp} {H loc : Hp} {w : World}

/-- Found at the same place. -/
def FR2 (m : Mp) (es : List MapEntry) (i0 : Nat) : Option (Nat × Value) → Option (Nat × Value) → Prop
  | none, none => True
  | some (i, v), some (i', v') => i' = i ∧ VR m v v' ∧ ∃ j e, i = i0 + j ∧ es[j]? = some e ∧ v' = e.val
  | _, _ => False
theorem FR2.more {e : MapEntry} {es : List MapEntry} {i0 : Nat} : ∀ {r r' : Option (Nat × Value)}, FR2 m es (i0 + 1) r r' → FR2 m (e :: es) i0 r r'
  | none, none, h => h
  | none, some _, h => h
  | some _, none, h => h
  | some _, some _, ⟨h1, h2, j, e', h3, h4, h5⟩ => ⟨h1, h2, j + 1, e', by omega, h4, h5⟩

theorem ask_rel {kt : TypeId} {key : Value} : ∀ (cs : List Value) (es : List MapEntry) (n i : Nat) (r : Option (Nat × Value)), MapR m cs es n → runPure P (Instr.findAsking kt key (esOf cs n) i) = some r → ∃ r', (Instr.findAsking kt key es i).run P w = .ok r' w ∧ FR2 m es i r r'
  | [], [], _, _, r, _, h => by
    simp only [esOf, Instr.findAsking, runPure_pure, Option.some.injEq] at h
    subst h
    exact ⟨none, by simp [Instr.findAsking], trivial⟩
  | [], _ :: _, _, _, _, h, _ => h.elim
  | [_], [], _, _, _, h, _ => h.elim
  | [_], _ :: _, _, _, _, h, _ => h.elim
  | _ :: _ :: _, [], _, _, _, h, _ => h.elim
  | k :: v :: cs, e :: es, n, i, r, h, hr => by
    obtain ⟨⟨⟨h1, _⟩, h2, _⟩, h4⟩ := h
    simp only [esOf, Instr.findAsking, runPure_bind'] at hr
    cases hq : runPure P (Op.equal kt key k) with
    | none => rw [hq] at hr; cases hr
    | some b =>
      rw [hq] at hr
      simp only [Option.bind_some] at hr
      have hrun := runPure_run (Op.equal kt key k) b w hq
      cases b with
      | true =>
        simp only [if_true, runPure_pure, Option.some.injEq] at hr
        subst hr
        exact ⟨some (i, e.val), by simp [Instr.findAsking, h1, hrun], rfl, h2, 0, e, rfl, rfl, rfl⟩
      | false =>
        simp only [Bool.false_eq_true, if_false] at hr
        obtain ⟨r', h5, h6⟩ := ask_rel cs es (n + 1) (i + 1) r h4 hr
        exact ⟨r', by simp [Instr.findAsking, h1, hrun, h5], h6.more⟩
theorem now_rel {d : TypeDesc} {key : Value} : ∀ (cs : List Value) (es : List MapEntry) (n i : Nat), MapR m cs es n → match Instr.findNow d key (esOf cs n) i with
    | none => Instr.findNow d key es i = none
    | some r => ∃ r', Instr.findNow d key es i = some r' ∧ FR2 m es i r r'
  | [], [], _, _, _ => by simp only [esOf, Instr.findNow]; exact ⟨none, rfl, trivial⟩
  | [], _ :: _, _, _, h => h.elim
  | [_], [], _, _, h => h.elim
  | [_], _ :: _, _, _, h => h.elim
  | _ :: _ :: _, [], _, _, h => h.elim
  | k :: v :: cs, e :: es, n, i, h => by
    obtain ⟨⟨⟨h1, _⟩, h2, _⟩, h4⟩ := h
    simp only [esOf, Instr.findNow, h1]
    cases hs : Instr.sameNow d key k with
    | none => rfl
    | some b =>
      cases b with
      | true => exact ⟨some (i, e.val), rfl, rfl, h2, 0, e, rfl, rfl, rfl⟩
      | false =>
        have := now_rel (d := d) (key := key) cs es (n + 1) (i + 1) h4
        simp only
        cases hn : Instr.findNow d key (esOf cs (n + 1)) (i + 1) with
        | none => rw [hn] at this; exact this
        | some r =>
          rw [hn] at this
          obtain ⟨r', h5, h6⟩ := this
          exact ⟨r', h5, h6.more⟩
theorem find_rel {kt : TypeId} {key : Value} {cs : List Value} {es : List MapEntry} {r : Option (Nat × Value)} (h : MapR m cs es 0) (hr : runPure P (Instr.findKey kt key (esOf cs 0)) = some r) : ∃ r', (Instr.findKey kt key es).run P w = .ok r' w ∧ FR2 m es 0 r r' := by
  cases hu : P.underlying kt with
  | none => simp [Instr.findKey, underlying, program, runPure_bind', runPure, hu, stuck] at hr
  | some d =>
    simp only [Instr.findKey, runPure_bind', runPure_underlying hu, Option.bind_some] at hr
    have hn := now_rel (d := d) (key := key) cs es 0 0 h
    cases hq : Instr.findNow d key (esOf cs 0) 0 with
    | none =>
      rw [hq] at hr hn
      simp only at hr hn
      obtain ⟨r', h1, h2⟩ := ask_rel (w := w) cs es 0 0 r h hr
      exact ⟨r', by simp [Instr.findKey, run_underlying hu, hn, h1], h2⟩
    | some r0 =>
      rw [hq] at hr hn
      simp only [runPure_pure, Option.some.injEq] at hr
      subst hr
      obtain ⟨r', h1, h2⟩ := hn
      exact ⟨r', by simp [Instr.findKey, run_underlying hu, h1], h2⟩
theorem mapR_len : ∀ (cs : List Value) (es : List MapEntry) (n : Nat), MapR m cs es n → cs.length = 2 * es.length ∧ (esOf cs n).length = es.length
  | [], [], _, _ => ⟨rfl, rfl⟩
  | [], _ :: _, _, h => h.elim
  | [_], [], _, h => h.elim
  | [_], _ :: _, _, h => h.elim
  | _ :: _ :: _, [], _, h => h.elim
  | _ :: _ :: cs, _ :: es, n, h => by
    have := mapR_len cs es (n + 1) h.2
    simp only [esOf, List.length_cons]
    omega
theorem run_getM {g : Nat} {es : Array MapEntry} {c : Nat} (h : w.heap[g]? = some (.map es c)) : (getObj g).run P w = .ok (.map es c) w := by simp [getObj, Sem.run, h]
theorem run_setM {g : Nat} {es : Array MapEntry} {c : Nat} (o : Obj) (h : w.heap[g]? = some (.map es c)) : (setObj g o).run P w = .ok () { w with heap := w.heap.setIfInBounds g o } := by simp [setObj, Sem.run, h]

/-- A map block as it lies. -/
theorem map_blk (hR : Rel m H loc w) {r : Nat} {x' : Value} (hx : VR m (.map (some r)) x') {b : Blk} (hb : H[r]? = some b) (hl : b.live = false) {hd : Value} {cs : List Value} (hc : b.cells = hd :: cs) : ∃ g es, x' = .map (some g) ∧ m.gb r = some g ∧ w.heap[g]? = some (.map es es.size) ∧ MapR m.noL cs es.toList 0 := by
  cases hx with
  | mapG hg =>
    rename_i g
    obtain ⟨_, b0, hb0, hG⟩ := hR.glob _ _ hg
    rw [hb] at hb0; injection hb0 with hb0; subst hb0
    obtain ⟨es, h1, h2⟩ := hG.mp hl (by rw [hc]; simp)
    rw [hc] at h2
    exact ⟨g, es, rfl, hg, h1, h2⟩
theorem okV_vr {ck b : Bool} {v v' : Value} (h : VR m v v') : VR m (okV ck v b) (okV ck v' b) := by
  unfold okV
  cases ck with
  | false => exact h
  | true => exact VRs.tuple ((VRs.nil m).cons (.bool b) |>.cons h)

theorem lookup_sound (hR : Rel m H loc w) {t : TypeId} {x x' key key' v : Value} {ck : Bool} (hx : VR m x x') (hk : VR m key key') (h : evLookup P H t x key ck = some v) : ∃ v', (Instr.lookup t x' key' ck).run P w = .ok v' w ∧ VR m v v' := by
  unfold evLookup at h
  split at h
  · rename_i kt et r hu
    split at h
    · rename_i b hb
      cases hl : b.live with
      | true => rw [hl] at h; cases h
      | false =>
        rw [hl] at h
        simp only [cond_false] at h
        split at h
        · cases h
        · rename_i hd cs hc
          obtain ⟨g, es, rfl, hg, hw, hM⟩ := map_blk hR hx hb hl hc
          cases hp : plainB 4 key with
          | false => rw [hp] at h; cases h
          | true =>
            rw [hp] at h
            simp only [cond_true] at h
            obtain rfl := plain_eq 4 key key' hp hk
            have hlen := mapR_len cs es.toList 0 hM
            have hem : (esOf cs 0).isEmpty = es.isEmpty := by
              rw [Bool.eq_iff_iff]
              simp only [List.isEmpty_iff_length_eq_zero, Array.isEmpty_iff_size_eq_zero, hlen.2, Array.length_toList]
            rw [hem] at h
            have run : ∀ (r' : Option (Nat × Value)) (c : Unit), runPure P (Instr.checkKey es.isEmpty 10000 kt key) = some c → (Instr.findKey kt key es.toList).run P w = .ok r' w → (Instr.lookup t (.map (some g)) key ck).run P w = ((match r' with
                | some (_, v) => pure (v, true)
                | none => do pure (← zeroValue et, false) : Sem (Value × Bool)) >>= fun p => pure (okV ck p.1 p.2)).run P w := fun r' c h1 h2 => by
              have h3 := runPure_run _ c w h1
              simp only [Instr.lookup, Sem.run_bind, run_underlying hu, Result.andThen_ok, run_getM hw, Sem.run_pure, h3, h2, okV]
              cases r' with
              | none => simp; cases (zeroValue et).run P w <;> rfl
              | some p => simp
            split at h
            · rename_i c i v0 h1 h2
              injection h with h; subst h
              obtain ⟨r', h3, h4⟩ := find_rel (w := w) hM h2
              match r', h4 with
              | some (i', v'), h4 =>
                refine ⟨okV ck v' true, ?_, okV_vr (h4.2.1.mono (noL_le m))⟩
                rw [run _ c h1 h3]
                simp
            · rename_i c h1 h2
              obtain ⟨r', h3, h4⟩ := find_rel (w := w) hM h2
              match r', h4 with
              | none, _ =>
                split at h
                · rename_i z hz
                  cases hpz : plainV z with
                  | false => rw [hpz] at h; cases h
                  | true =>
                    rw [hpz] at h
                    simp only [cond_true, Option.some.injEq] at h
                    subst h
                    refine ⟨okV ck z false, ?_, okV_vr (plain_vr m 4 z hpz)⟩
                    rw [run _ c h1 h3]
                    simp [runPure_run _ z w hz]
                · cases h
            · cases h
    · cases h
  · cases hp : plainB 4 key with
    | false => rw [hp] at h; cases h
    | true =>
      rw [hp] at h
      simp only [cond_true] at h
      obtain rfl := plain_eq 4 key key' hp hk
      split at h
      · rename_i v0 hv
        cases hpv : plainV v0 with
        | false => rw [hpv] at h; cases h
        | true =>
          rw [hpv] at h
          simp only [cond_true, Option.some.injEq] at h
          subst h
          cases hx
          exact ⟨v0, runPure_run _ v0 w hv, plain_vr m 4 v0 hpv⟩
      · cases h
  · cases h

theorem mapR_at : ∀ (cs : List Value) (es : List MapEntry) (n j : Nat) (e : MapEntry), MapR m cs es n → es[j]? = some e → cs[2 * j]? = some e.key ∧ plainB 4 e.key = true ∧ (∃ v, cs[2 * j + 1]? = some v ∧ VR m v e.val) ∧ e.born = n + j
  | [], [], _, _, _, _, h => by simp at h
  | [], _ :: _, _, _, _, h, _ => h.elim
  | [_], [], _, _, _, h, _ => h.elim
  | [_], _ :: _, _, _, _, h, _ => h.elim
  | _ :: _ :: _, [], _, _, _, h, _ => h.elim
  | k :: v :: cs, e0 :: es, n, 0, e, h, he => by
    simp only [List.getElem?_cons_zero, Option.some.injEq] at he
    subst he
    obtain ⟨⟨⟨h1, h2⟩, h3, h4⟩, _⟩ := h
    exact ⟨by simp [h1], by rw [h1]; exact h2, ⟨v, rfl, h3⟩, h4⟩
  | k :: v :: cs, e0 :: es, n, j + 1, e, h, he => by
    obtain ⟨h1, h2, h3, h4⟩ := mapR_at cs es (n + 1) j e h.2 (by simpa using he)
    exact ⟨by simpa [Nat.mul_add] using h1, h2, by simpa [Nat.mul_add] using h3, by omega⟩
theorem mapR_set {key v v' : Value} (hp : plainB 4 key = true) (hv : VR m v v') : ∀ (cs : List Value) (es : List MapEntry) (n j : Nat), MapR m cs es n → MapR m ((cs.set (2 * j) key).set (2 * j + 1) v) (es.modify j fun e => { e with key := key, val := v' }) n
  | [], [], _, _, _ => by simp [MapR]
  | [], _ :: _, _, _, h => h.elim
  | [_], [], _, _, h => h.elim
  | [_], _ :: _, _, _, h => h.elim
  | _ :: _ :: _, [], _, _, h => h.elim
  | k :: x :: cs, e0 :: es, n, 0, h => by
    obtain ⟨⟨_, _, h4⟩, h5⟩ := h
    simp only [Nat.mul_zero, List.set_cons_zero, Nat.zero_add, List.set_cons_succ, List.modify_zero_cons]
    exact ⟨⟨⟨rfl, hp⟩, hv, h4⟩, h5⟩
  | k :: x :: cs, e0 :: es, n, j + 1, h => by
    have := mapR_set hp hv cs es (n + 1) j h.2
    rw [show 2 * (j + 1) = 2 * j + 1 + 1 by omega]
    simp only [List.set_cons_succ, List.modify_succ_cons]
    exact ⟨h.1, this⟩
theorem mapR_val {v v' : Value} (hv : VR m v v') : ∀ (cs : List Value) (es : List MapEntry) (n j : Nat), MapR m cs es n → MapR m (cs.set (2 * j + 1) v) (es.modify j fun e => { e with val := v' }) n
  | [], [], _, _, _ => by simp [MapR]
  | [], _ :: _, _, _, h => h.elim
  | [_], [], _, _, h => h.elim
  | [_], _ :: _, _, _, h => h.elim
  | _ :: _ :: _, [], _, _, h => h.elim
  | k :: x :: cs, e0 :: es, n, 0, h => by
    obtain ⟨⟨h1, _, h4⟩, h5⟩ := h
    simp only [Nat.mul_zero, Nat.zero_add, List.set_cons_succ, List.set_cons_zero, List.modify_zero_cons]
    exact ⟨⟨h1, hv, h4⟩, h5⟩
  | k :: x :: cs, e0 :: es, n, j + 1, h => by
    have := mapR_val hv cs es (n + 1) j h.2
    rw [show 2 * (j + 1) + 1 = 2 * j + 1 + 1 + 1 by omega]
    simp only [List.set_cons_succ, List.modify_succ_cons]
    exact ⟨h.1, this⟩
theorem mapR_snoc {key v v' : Value} (hp : plainB 4 key = true) (hv : VR m v v') : ∀ (cs : List Value) (es : List MapEntry) (n : Nat), MapR m cs es n → MapR m (cs ++ [key, v]) (es ++ [⟨key, v', n + es.length⟩]) n
  | [], [], _, _ => ⟨⟨⟨rfl, hp⟩, hv, rfl⟩, trivial⟩
  | [], _ :: _, _, h => h.elim
  | [_], [], _, h => h.elim
  | [_], _ :: _, _, h => h.elim
  | _ :: _ :: _, [], _, h => h.elim
  | k :: x :: cs, e0 :: es, n, h => by
    have := mapR_snoc hp hv cs es (n + 1) h.2
    rw [show n + 1 + es.length = n + (e0 :: es).length by simp only [List.length_cons]; omega] at this
    exact ⟨h.1, this⟩

/-- What the world's map becomes. -/
def wmap (w : World) (g : Nat) (es : Array MapEntry) : World := { w with heap := w.heap.setIfInBounds g (.map es es.size) }
theorem map_ext (hR : Rel m H loc w) {r g : Nat} {b : Blk} (hg : m.gb r = some g) (hb : H[r]? = some b) (hl : b.live = false) {hd : Value} {cs cs' : List Value} (hc : b.cells = hd :: cs) {es' : Array MapEntry} (h : MapR m.noL cs' es'.toList 0) :
    Ext m H loc w m (H.set r { b with cells := hd :: cs' }) loc (wmap w g es') [r] [] := by
  obtain ⟨hgl, b0, hb0, hG⟩ := hR.glob _ _ hg
  rw [hb] at hb0; injection hb0 with hb0; subst hb0
  refine ext_turnG hR hg hb (by unfold Blk.held; rw [hc]; simp) rfl rfl (fun k hk => by unfold wmap; simp [Array.getElem?_setIfInBounds_ne (Ne.symm hk)]) (by unfold wmap; simp) rfl rfl rfl ⟨hG.lo, hG.ez, (fun e => by simp only at e; rw [hl] at e; cases e), fun _ _ => ⟨es', by unfold wmap; simp [hgl], h⟩⟩
theorem put_sound {kt : TypeId} {key v v' : Value} {cs cs' : List Value} {es : Array MapEntry} (hM : MapR m cs es.toList 0) (hv : VR m v v') (h : putE P kt key v cs = some cs') :
    plainB 4 key = true ∧ ∃ es' : Array MapEntry, MapR m cs' es'.toList 0 ∧ ∀ {t et : TypeId} {g : Nat}, P.underlying t = some (.map kt et) → w.heap[g]? = some (.map es es.size) → (Instr.mapUpdate t (.map (some g)) key v').run P w = .ok () (wmap w g es') := by
  unfold putE at h
  cases hp : plainB 4 key with
  | false => rw [hp] at h; cases h
  | true =>
    rw [hp] at h
    simp only [cond_true] at h
    refine ⟨rfl, ?_⟩
    split at h
    · rename_i c i v0 h1 h2
      obtain ⟨r', h3, h4⟩ := find_rel (w := w) hM h2
      match r', h4 with
      | some (i', v1), ⟨hi, _, j, e, hj, he, _⟩ =>
        subst hi
        obtain rfl : i' = j := by omega
        obtain ⟨a1, a2, a3, a4⟩ := mapR_at cs es.toList 0 i' e hM he
        split at h
        · rename_i old ho
          rw [a1] at ho; injection ho with ho; subst ho
          cases hs : Instr.sameBits 10000 e.key key with
          | false => rw [hs] at h; cases h
          | true =>
            rw [hs] at h
            simp only [cond_true, Option.some.injEq] at h
            subst h
            refine ⟨es.modify i' fun e => { e with key := key, val := v' }, ?_, fun {t et g} hu hw => ?_⟩
            · rw [Array.toList_modify]
              exact mapR_set hp hv cs es.toList 0 i' hM
            · have he' : es[i']? = some e := by simpa using he
              have h5 := runPure_run _ c w h1
              simp only [Instr.mapUpdate, Sem.run_bind, run_underlying hu, Result.andThen_ok, run_getM hw, h5, h3, Instr.keyThatStays, he', Option.map_some, Option.getD_some, hs, if_true, Sem.run_pure, run_setM _ hw, wmap, Array.size_modify]
        · cases h
    · rename_i c h1 h2
      injection h with h; subst h
      obtain ⟨r', h3, h4⟩ := find_rel (w := w) hM h2
      match r', h4 with
      | none, _ =>
        refine ⟨es.push ⟨key, v', es.size⟩, ?_, fun {t et g} hu hw => ?_⟩
        · have := mapR_snoc hp hv cs es.toList 0 hM
          simpa using this
        · have h5 := runPure_run _ c w h1
          simp only [Instr.mapUpdate, Sem.run_bind, run_underlying hu, Result.andThen_ok, run_getM hw, h5, h3, run_setM _ hw, wmap, Array.size_push]
    · cases h

def evMapUpdate (P : Program) (H : Hp) (t : TypeId) (x key v : Value) : Option (Hp × Nat) :=
  match P.underlying t, x with
  | some (.map kt _), .map (some r) => match H[r]? with
    | some b => bif b.live || !noLoc v then none else match b.cells with
      | [] => none
      | hd :: cs => match putE P kt key v cs with
        | some cs' => fSpine cs' fun cs' => fSet H r { b with cells := hd :: cs' } fun H' => some (H', r)
        | none => none
    | none => none
  | _, _ => none
theorem mapUpdate_sound (hR : Rel m H loc w) {t : TypeId} {x x' key key' v v' : Value} (hx : VR m x x') (hk : VR m key key') (hv : VR m v v') {H' : Hp} {r : Nat} (h : evMapUpdate P H t x key v = some (H', r)) :
    ∃ w', (Instr.mapUpdate t x' key' v').run P w = .ok () w' ∧ Ext m H loc w m H' loc w' [r] [] := by
  unfold evMapUpdate at h
  split at h
  · rename_i kt et r0 hu
    split at h
    · rename_i b hb
      cases hc0 : (b.live || !noLoc v) with
      | true => rw [hc0] at h; cases h
      | false =>
        rw [hc0] at h
        simp only [cond_false] at h
        simp only [Bool.or_eq_false_iff, Bool.not_eq_false'] at hc0
        split at h
        · cases h
        · rename_i hd cs hc
          obtain ⟨g, es, rfl, hg, hw, hM⟩ := map_blk hR hx hb hc0.1 hc
          split at h
          · rename_i cs' hp
            simp only [fSpine_eq, fSet_eq, Option.some.injEq, Prod.mk.injEq] at h
            obtain ⟨rfl, rfl⟩ := h
            obtain ⟨h1, es', h2, h3⟩ := put_sound (w := w) hM (vr_noLoc hc0.2 hv) hp
            obtain rfl := plain_eq 4 key key' h1 hk
            exact ⟨_, h3 hu hw, map_ext hR hg hb hc0.1 hc h2⟩
          · cases h
    · cases h
  · cases h

theorem mapR_key {key : Value} (hp : plainB 4 key = true) : ∀ (cs : List Value) (es : List MapEntry) (n j : Nat), MapR m cs es n → MapR m (cs.set (2 * j) key) (es.modify j fun e => { e with key := key }) n
  | [], [], _, _, _ => by simp [MapR]
  | [], _ :: _, _, _, h => h.elim
  | [_], [], _, _, h => h.elim
  | [_], _ :: _, _, _, h => h.elim
  | _ :: _ :: _, [], _, _, h => h.elim
  | k :: x :: cs, e0 :: es, n, 0, h => by
    obtain ⟨⟨_, h3, h4⟩, h5⟩ := h
    simp only [Nat.mul_zero, List.set_cons_zero, List.modify_zero_cons]
    exact ⟨⟨⟨rfl, hp⟩, h3, h4⟩, h5⟩
  | k :: x :: cs, e0 :: es, n, j + 1, h => by
    have := mapR_key hp cs es (n + 1) j h.2
    rw [show 2 * (j + 1) = 2 * j + 1 + 1 by omega]
    simp only [List.set_cons_succ, List.modify_succ_cons]
    exact ⟨h.1, this⟩
theorem born_at : ∀ (cs : List Value) (es : List MapEntry) (n i : Nat), MapR m cs es n → i < es.length → es.findIdx? (fun e => (e.born : Int) == ((n + i : Nat) : Int)) = some i
  | [], [], _, _, _, h => by simp at h
  | [], _ :: _, _, _, h, _ => h.elim
  | [_], [], _, _, h, _ => h.elim
  | [_], _ :: _, _, _, h, _ => h.elim
  | _ :: _ :: _, [], _, _, h, _ => h.elim
  | k :: x :: cs, e0 :: es, n, 0, h, _ => by
    have hb := h.1.2.2
    simp [List.findIdx?_cons, hb]
  | k :: x :: cs, e0 :: es, n, i + 1, h, hi => by
    have hb := h.1.2.2
    have := born_at cs es (n + 1) i h.2 (by simpa using hi)
    rw [show n + 1 + i = n + (i + 1) by omega] at this
    rw [List.findIdx?_cons, this, if_neg (by rw [hb]; simp; omega)]
    rfl

def evMapEntry (P : Program) (H : Hp) (t : TypeId) (x key : Value) : Option (Value × Hp × Nat) :=
  match P.underlying t, x with
  | some (.map kt et), .map (some r) => match H[r]? with
    | some b => bif b.live || !plainB 4 key then none else match b.cells with
      | [] => none
      | hd :: cs => match runPure P (Instr.checkKey false 10000 kt key), runPure P (Instr.findKey kt key (esOf cs 0)) with
        | some _, some (some (i, v)) => match cs[2 * i]? with
          | some old => bif Instr.sameBits 10000 old key then fSpine (cs.set (2 * i) key) fun cs' => fSet H r { b with cells := hd :: cs' } fun H' => some (.tuple ⟨[v, .int .i64 (i : Int)]⟩, H', r) else none
          | none => none
        | some _, some none => match runPure P (zeroValue et) with
          | some z => bif plainV z then fSpine (cs ++ [key, z]) fun cs' => fSet H r { b with cells := hd :: cs' } fun H' => some (.tuple ⟨[z, .int .i64 ((cs.length / 2 : Nat) : Int)]⟩, H', r) else none
          | none => none
        | _, _ => none
    | none => none
  | _, _ => none
theorem mapEntry_sound (hR : Rel m H loc w) {t : TypeId} {x x' key key' v : Value} (hx : VR m x x') (hk : VR m key key') {H' : Hp} {r : Nat} (h : evMapEntry P H t x key = some (v, H', r)) :
    ∃ v' w', (Instr.mapEntry t x' key').run P w = .ok v' w' ∧ Ext m H loc w m H' loc w' [r] [] ∧ VR m v v' := by
  unfold evMapEntry at h
  split at h
  · rename_i kt et r0 hu
    split at h
    · rename_i b hb
      cases hc0 : (b.live || !plainB 4 key) with
      | true => rw [hc0] at h; cases h
      | false =>
        rw [hc0] at h
        simp only [cond_false] at h
        simp only [Bool.or_eq_false_iff, Bool.not_eq_false'] at hc0
        obtain ⟨hl, hp⟩ := hc0
        obtain rfl := plain_eq 4 key key' hp hk
        split at h
        · cases h
        · rename_i hd cs hc
          obtain ⟨g, es, rfl, hg, hw, hM⟩ := map_blk hR hx hb hl hc
          split at h
          · rename_i c i v0 h1 h2
            obtain ⟨r', h3, h4⟩ := find_rel (w := w) hM h2
            match r', h4 with
            | some (i', v1), ⟨hi, hv, j, e, hj, he, hve⟩ =>
              subst hi
              obtain rfl : i' = j := by omega
              obtain ⟨a1, a2, a3, a4⟩ := mapR_at cs es.toList 0 i' e hM he
              split at h
              · rename_i old ho
                rw [a1] at ho; injection ho with ho; subst ho
                cases hs : Instr.sameBits 10000 e.key key with
                | false => rw [hs] at h; cases h
                | true =>
                  rw [hs] at h
                  simp only [cond_true, fSpine_eq, fSet_eq, Option.some.injEq, Prod.mk.injEq] at h
                  obtain ⟨rfl, rfl, rfl⟩ := h
                  have he' : es[i']? = some e := by simpa using he
                  have h5 := runPure_run _ c w h1
                  refine ⟨.tuple #[v1, goInt e.born], wmap w g (es.modify i' fun e => { e with key := key }), ?_, map_ext hR hg hb hl hc (by rw [Array.toList_modify]; exact mapR_key hp cs es.toList 0 i' hM), ?_⟩
                  · simp only [Instr.mapEntry, Sem.run_bind, run_underlying hu, Result.andThen_ok, run_getM hw, h5, h3, Instr.keyThatStays, he', Option.map_some, Option.getD_some, hs, if_true, Sem.run_pure, run_setM _ hw, wmap, Array.size_modify]
                  · rw [a4, Nat.zero_add]
                    exact VRs.tuple (((VRs.nil m).cons (.int .i64 (i' : Int))).cons (hv.mono (noL_le m)))
              · cases h
          · rename_i c h1 h2
            obtain ⟨r', h3, h4⟩ := find_rel (w := w) hM h2
            match r', h4 with
            | none, _ =>
              split at h
              · rename_i z hz
                cases hpz : plainV z with
                | false => rw [hpz] at h; cases h
                | true =>
                  rw [hpz] at h
                  simp only [cond_true, fSpine_eq, fSet_eq, Option.some.injEq, Prod.mk.injEq] at h
                  obtain ⟨rfl, rfl, rfl⟩ := h
                  have h5 := runPure_run _ c w h1
                  have h6 := runPure_run _ z w hz
                  have hlen := (mapR_len cs es.toList 0 hM).1
                  refine ⟨.tuple #[z, goInt es.size], wmap w g (es.push ⟨key, z, es.size⟩), ?_, map_ext hR hg hb hl hc (by have := mapR_snoc hp (plain_vr m.noL 4 z hpz) cs es.toList 0 hM; simpa using this), ?_⟩
                  · simp only [Instr.mapEntry, Sem.run_bind, run_underlying hu, Result.andThen_ok, run_getM hw, h5, h3, h6, run_setM _ hw, wmap, Array.size_push, Sem.run_pure]
                  · rw [show cs.length / 2 = es.size by simp at hlen; omega]
                    exact VRs.tuple (((VRs.nil m).cons (.int .i64 (es.size : Int))).cons (plain_vr m 4 z hpz))
              · cases h
          · cases h
    · cases h
  · cases h

def evEntryStore (H : Hp) (x stamp v : Value) : Option (Hp × Nat) :=
  match x, stamp with
  | .map (some r), .int _ (.ofNat i) => match H[r]? with
    | some b => bif b.live || !noLoc v then none else match b.cells with
      | [] => none
      | hd :: cs => bif decide (2 * i + 1 < cs.length) then fSpine (cs.set (2 * i + 1) v) fun cs' => fSet H r { b with cells := hd :: cs' } fun H' => some (H', r) else none
    | none => none
  | _, _ => none
theorem entryStore_sound (hR : Rel m H loc w) {t : TypeId} {x x' stamp stamp' v v' : Value} (hx : VR m x x') (hs : VR m stamp stamp') (hv : VR m v v') {H' : Hp} {r : Nat} (h : evEntryStore H x stamp v = some (H', r)) :
    ∃ w', (Instr.entryStore t x' stamp' v').run P w = .ok () w' ∧ Ext m H loc w m H' loc w' [r] [] := by
  unfold evEntryStore at h
  split at h
  · rename_i r0 kd i
    split at h
    · rename_i b hb
      cases hc0 : (b.live || !noLoc v) with
      | true => rw [hc0] at h; cases h
      | false =>
        rw [hc0] at h
        simp only [cond_false] at h
        simp only [Bool.or_eq_false_iff, Bool.not_eq_false'] at hc0
        split at h
        · cases h
        · rename_i hd cs hc
          obtain ⟨g, es, rfl, hg, hw, hM⟩ := map_blk hR hx hb hc0.1 hc
          have hst := vr_int hs
          have hlen := (mapR_len cs es.toList 0 hM).1
          cases hd0 : decide (2 * i + 1 < cs.length) with
          | false => rw [hd0] at h; cases h
          | true =>
            rw [hd0] at h
            simp only [cond_true, fSpine_eq, fSet_eq, Option.some.injEq, Prod.mk.injEq] at h
            obtain ⟨rfl, rfl⟩ := h
            have hlt := of_decide_eq_true hd0
            have hf := born_at cs es.toList 0 i hM (by omega)
            rw [Nat.zero_add] at hf
            have hf' : es.findIdx? (fun e => (e.born : Int) == ((i : Nat) : Int)) = some i := by
              rw [← List.findIdx?_toArray] at hf
              exact hf
            refine ⟨wmap w g (es.modify i fun e => { e with val := v' }), ?_, map_ext hR hg hb hc0.1 hc (by rw [Array.toList_modify]; exact mapR_val (vr_noLoc hc0.2 hv) cs es.toList 0 i hM)⟩
            rw [hst]
            simp only [Instr.entryStore, Sem.run_bind, run_getM hw, Result.andThen_ok, asInt, asIntOf, Sem.run_pure, Int.ofNat_eq_natCast, hf', run_setM _ hw, wmap, Array.size_modify]
    · cases h
  · cases h

def evMakeMap (H : Hp) : Value × Hp := (.map (some H.length), H ++ [⟨[.bool true], 0, 0, false, false⟩])
theorem makeMap_sound (hR : Rel m H loc w) {t : TypeId} : ∃ v' w' m', (Instr.makeMap t none).run P w = .ok v' w' ∧ Ext m H loc w m' (evMakeMap H).2 loc w' [] [] ∧ VR m' (evMakeMap H).1 v' := by
  refine ⟨.map (some w.heap.size), w.alloc (.map #[] 0), m.addG H.length w.heap.size false 0 0, by simp [Instr.makeMap], ?_, ?_⟩
  · refine ext_newGO hR ⟨[.bool true], 0, 0, false, false⟩ 0 (.map #[] 0) ⟨by simp [Mp.addG], by simp [Mp.addG], (fun e => by cases e), fun _ _ => ⟨#[], heap_alloc_new w _, trivial⟩⟩
  · exact .mapG (by simp [Mp.addG])

def evLenM (H : Hp) (x : Value) : Option Value :=
  match x with
  | .map none => some (.int .i64 0)
  | .map (some r) => match H[r]? with
    | some b => bif b.live then none else match b.cells with
      | [] => none
      | _ :: cs => fNat (cs.length / 2) fun n => some (.int .i64 (n : Int))
    | none => none
  | _ => none
theorem lenM_sound (hR : Rel m H loc w) {t ty kt et : TypeId} {x x' v : Value} (hu : P.underlying t = some (.map kt et)) (hx : VR m x x') (h : evLenM H x = some v) : (Builtin.len_ #[t] ty #[x']).run P w = .ok v w := by
  unfold evLenM at h
  split at h
  · injection h with h; subst h
    cases hx
    simp [Builtin.len_, run_underlying hu, goInt]
  · rename_i r
    split at h
    · rename_i b hb
      cases hl : b.live with
      | true => rw [hl] at h; cases h
      | false =>
        rw [hl] at h
        simp only [cond_false] at h
        split at h
        · cases h
        · rename_i hd cs hc
          obtain ⟨g, es, rfl, hg, hw, hM⟩ := map_blk hR hx hb hl hc
          have hlen := (mapR_len cs es.toList 0 hM).1
          simp only [fNat_eq, Option.some.injEq] at h
          subst h
          rw [show cs.length / 2 = es.size by simp at hlen; omega]
          simp [Builtin.len_, run_underlying hu, run_getM hw, goInt]
    · cases h
  · cases h
end
end Go.Am
