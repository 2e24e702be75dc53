/-
  Texts put together: Bm Dc Dd De Df Dg.
-/
import Derived.Test.YteeeogdfnpdpcaaGreatZNeighborFinds14
import Derived.Lib.SortBridge
set_option linter.unusedVariables false
section
/-
  Walks: the closure of the sort; the sort of a part of the set.
-/
namespace Go.Proofs.Ng
open Go.RowKit Go.Shelf Go.Sort

/-! the comparison's sign -/
theorem cmpI_lt {x y : Int} : cmpI x y < 0 ↔ x < y := by
  unfold cmpI
  split
  · simp; assumption
  · split <;> simp <;> omega
theorem cmpI_zero {x y : Int} : cmpI x y = 0 ↔ x = y := by
  unfold cmpI
  split
  · simp; omega
  · split <;> simp <;> omega
theorem ordI_lt (pts : List (List Int)) (a i j : Nat) : decide (ordI pts a i j < 0) = bef pts a i j := by
  unfold ordI bef orI
  by_cases h : key pts a i = key pts a j
  · rw [if_pos (cmpI_zero.2 h)]
    have := @cmpI_lt (i : Int) (j : Int)
    rw [decide_eq_decide, this]
    omega
  · rw [if_neg (fun e => h (cmpI_zero.1 e))]
    have := @cmpI_lt (key pts a i) (key pts a j)
    rw [decide_eq_decide, this]
    omega

set_option maxHeartbeats 1000000 in
/-- The comparison that Build hands to the sort. -/
theorem closure28 {w0 : World} {oa : Option Addr} {ca b1 ba : Nat} {pts : List (List Int)} (hP : Pts w0 oa pts) (a i j : Nat) (X : World) (hB : Below w0.heap.size w0 X) (c1 : X.cell? ⟨b1, 0, none⟩ = some (.slice oa pts.length ca)) (c2 : X.cell? ⟨ba, 0, none⟩ = some (.int .i64 a)) (l1 : b1 < X.heap.size) (l2 : ba < X.heap.size) (hi : i < pts.length) (hj : j < pts.length) (ha : ∀ xs ∈ pts, a < xs.length) (hn : pts.length ≤ 100000) (haN : a < 1000) :
    Calls Tryz.prog 31 #[.int .i64 i, .int .i64 j, .pointer (some ⟨b1, 0, none⟩), .pointer (some ⟨ba, 0, none⟩)] X fun e w' => e = .returned (.int .i64 (ordI pts a i j)) ∧ Gr X w' := by
  have HO := Lib.hid (order29 oa ca pts a i j X (hP.keep hB) hi hj ha hn haN)
  clear hP hB ha
  go_enter Tryz.func31, Tryz.ntmps31
  go_wp2_with fail
  with_reducible refine HO.out.mono ?_
  rintro e W1 ⟨rfl, hg⟩
  go_wp2
  go_ret
  exact ⟨rfl, hg⟩

/-! what a sorted part leaves -/
variable {α : Type} [Inhabited α]
theorem sw_block (enc : α → Value) (w : World) (blk off m : Nat) (dk : Array α) (os : Array Obj) (k : Nat) (hk : k < w.heap.size) (hne : k ≠ blk) : (sortWorld enc w blk off m dk os).heap[k]? = w.heap[k]? := by
  unfold sortWorld
  rw [heap_grow_old _ _ (by simp; exact hk)]
  show ((Sort.ahead w m).heap.modify blk _)[k]? = _
  rw [Array.getElem?_modify, if_neg (fun e => hne e.symm)]
  rfl
theorem sw_grown (enc : α → Value) (w : World) (blk off m : Nat) (dk : Array α) (os : Array Obj) : w.grownBy (sortWorld enc w blk off m dk os) (some blk) :=
  ⟨rfl, rfl, rfl, by unfold sortWorld; simp, fun k hk hn => sw_block enc w blk off m dk os k hk (fun e => hn (by rw [e]))⟩
theorem sw_below (enc : α → Value) (w : World) (blk off m : Nat) (dk : Array α) (os : Array Obj) {B : Nat} (hB : B ≤ blk) (hw : B ≤ w.heap.size) : Below B w (sortWorld enc w blk off m dk os) :=
  ⟨rfl, rfl, rfl, (sw_grown enc w blk off m dk os).size, fun k hk => sw_block enc w blk off m dk os k (by omega) (by omega)⟩

def cvs (c : List Nat) : List Value := c.map fun x => .int .i64 (x : Nat)
theorem cvs_get {c : List Nat} {k x : Nat} (h : c[k]? = some x) : (cvs c)[k]? = some (.int .i64 (x : Nat)) := by simp [cvs, h]
set_option maxHeartbeats 2000000 in
/-- The sort of a part of the set. -/
theorem sort27 {w0 : World} {oa : Option Addr} {ca b1 ba bs off n cap : Nat} {pts : List (List Int)} {c : List Nat} (hP : Pts w0 oa pts) (a : Nat) (W : World) (hB : Below w0.heap.size w0 W) (hbs : w0.heap.size ≤ bs) (hS : Blk W bs (cvs c))
    (c1 : W.cell? ⟨b1, 0, none⟩ = some (.slice oa pts.length ca)) (c2 : W.cell? ⟨ba, 0, none⟩ = some (.int .i64 a)) (l1 : b1 < W.heap.size) (l2 : ba < W.heap.size) (n1 : b1 ≠ bs) (n2 : ba ≠ bs) (hn0 : 0 < n) (hoff : off + n ≤ c.length) (hlt : ∀ x ∈ c, x < pts.length) (ha : ∀ xs ∈ pts, a < xs.length) (hn : pts.length ≤ 100000) (haN : a < 1000) (hc : c.length ≤ 100000) :
    Calls Tryz.prog 30 #[.slice (some ⟨bs, off, none⟩) n cap, .func (.func 31) #[] #[.pointer (some ⟨b1, 0, none⟩), .pointer (some ⟨ba, 0, none⟩)]] W fun e W' =>
      e = .returned (.tuple #[]) ∧ Blk W' bs (cvs (c.take off ++ (srt pts a ((c.drop off).take n) ++ c.drop (off + n)))) ∧ W.grownBy W' (some bs) := by
  have hpl : 0 < pts.length := by
    obtain ⟨x, hx⟩ : ∃ x, c[off]? = some x := ⟨_, List.getElem?_eq_getElem (by omega)⟩
    have := hlt x (List.mem_of_getElem? hx)
    omega
  haveI : Inhabited (Fin pts.length) := ⟨⟨0, hpl⟩⟩
  have hsl : ((c.drop off).take n).length = n := by rw [List.length_take, List.length_drop]; omega
  have hslt : ∀ x ∈ (c.drop off).take n, x < pts.length := fun x hx => hlt x (List.mem_of_mem_drop (List.mem_of_mem_take hx))
  generalize hs : (c.drop off).take n = s at hsl hslt ⊢
  obtain ⟨d, hd⟩ : ∃ d : List (Fin pts.length), d.map Fin.val = s := ⟨s.pmap (fun x h => (⟨x, h⟩ : Fin pts.length)) hslt, by rw [List.map_pmap]; simp⟩
  have hdl : d.length = n := by rw [← hsl, ← hd, List.length_map]
  let enc : Fin pts.length → Value := fun x => .int .i64 (x.val : Nat)
  let cf : Fin pts.length → Fin pts.length → Int := fun x y => ordI pts a x.val y.val
  have hltOf : ∀ x y, ltOf cf x y = bef pts a x.val y.val := fun x y => ordI_lt pts a x.val y.val
  have hO : SWO (ltOf cf) := ⟨fun x => by rw [hltOf]; simp [bef], fun x y z h1 h2 => by rw [hltOf] at *; simp only [bef, decide_eq_true_eq] at *; omega, fun x y z h1 h2 => by rw [hltOf] at *; simp only [bef, decide_eq_false_iff_not] at *; omega⟩
  have hT : ∀ x y, ltOf cf x y = false → ltOf cf y x = false → x = y := fun x y h1 h2 => by
    rw [hltOf] at *
    simp only [bef, decide_eq_false_iff_not] at *
    exact Fin.ext (by omega)
  have hcell : ∀ j, j < n → ∃ x : Fin pts.length, d[j]? = some x ∧ c[off + j]? = some x.val := fun j hj => by
    obtain ⟨x, hx⟩ : ∃ x, d[j]? = some x := ⟨_, List.getElem?_eq_getElem (by omega)⟩
    refine ⟨x, hx, ?_⟩
    have h1 : s[j]? = some x.val := by rw [← hd, List.getElem?_map, hx]; rfl
    rw [← hs, List.getElem?_take, if_pos hj, List.getElem?_drop] at h1
    exact h1
  have hH : Holds enc W bs off d.toArray := fun j hj => by
    obtain ⟨x, hx, hcx⟩ := hcell j (by simpa [hdl] using hj)
    refine ⟨?_, hS.f _⟩
    rw [hS.c _ _ (cvs_get hcx)]
    have : d.toArray[j]! = x := by rw [getElem!_pos _ j hj]; rw [List.getElem?_eq_some_iff] at hx; obtain ⟨_, h⟩ := hx; simpa using h
    rw [this]
  have hcmp : CmpLays1 Tryz.prog 31 #[.pointer (some ⟨b1, 0, none⟩), .pointer (some ⟨ba, 0, none⟩)] enc cf bs off d.toArray.size W := fun m os dk _ x y => by
    have e1 := sw_block enc W bs off m dk os b1 l1 n1
    have e2 := sw_block enc W bs off m dk os ba l2 n2
    have hsz := (sw_grown enc W bs off m dk os).size
    exact closure28 hP a x.val y.val _ (hB.trans (sw_below enc W bs off m dk os hbs hB.size)) (by rw [← c1]; simp [World.cell?, e1]) (by rw [← c2]; simp [World.cell?, e2]) (by omega) (by omega) x.isLt y.isLt ha hn haN
  have h := Any.slices_SortFunc_total Tryz.sortL enc (fun _ => rfl) cf hO 31 #[.pointer (some ⟨b1, 0, none⟩), .pointer (some ⟨ba, 0, none⟩)] bs off cap d.toArray W (enters_of Tryz.func31 (by kernel_rfl) rfl) hcmp hH hS.lt (by simp; omega) hT
  rw [show d.toArray.size = n by simp [hdl]] at h
  refine h.mono ?_
  rintro e W' ⟨rfl, m, os, rfl⟩
  refine ⟨rfl, ?_, sw_grown enc W bs off m _ os⟩
  have hm : (d.toArray.toList.mergeSort fun x y => !(ltOf cf) y x).map Fin.val = srt pts a s := by
    unfold srt
    rw [← hd]
    exact List.map_mergeSort (fun x _ y _ => by rw [hltOf]; rfl)
  have hml : (d.toArray.toList.mergeSort fun x y => !(ltOf cf) y x).length = n := by rw [List.length_mergeSort]; simpa using hdl
  generalize (d.toArray.toList.mergeSort fun x y => !(ltOf cf) y x) = d' at hm hml ⊢
  have hblk : bs < (putRow enc (Sort.ahead W m) bs off d'.toArray).heap.size := by rw [size_putRow]; exact hS.lt
  have hF : ∀ i, (sortWorld enc W bs off m d'.toArray os).frozen? ⟨bs, i, none⟩ = false := fun i => by
    unfold sortWorld
    rw [frozen?_grow _ _ _ hblk, frozen?_putRow]
    exact hS.f i
  refine ⟨fun i v hv => ?_, hF, Nat.lt_of_lt_of_le hS.lt (sw_grown enc W bs off m _ os).size⟩
  unfold sortWorld
  rw [cell?_grow _ _ _ hblk]
  have hsm : (srt pts a s).length = n := by rw [srt_len, hsl]
  unfold cvs at hv
  rw [List.getElem?_map, Option.map_eq_some_iff] at hv
  obtain ⟨x, hx, rfl⟩ := hv
  by_cases h1 : i < off
  · rw [cell?_putRow_other _ _ _ _ _ _ (.inr (.inl h1))]
    rw [List.getElem?_append_left (by rw [List.length_take]; omega), List.getElem?_take, if_pos h1] at hx
    exact hS.c i _ (cvs_get hx)
  · rw [List.getElem?_append_right (by rw [List.length_take]; omega), List.length_take, Nat.min_eq_left (by omega)] at hx
    by_cases h2 : i < off + n
    · rw [List.getElem?_append_left (by omega), ← hm, List.getElem?_map, Option.map_eq_some_iff] at hx
      obtain ⟨y, hy, rfl⟩ := hx
      have hj : i - off < d'.toArray.size := by simp; omega
      have h3 := cell?_putRow enc (Sort.ahead W m) bs off d.toArray d'.toArray hH (by simp [hdl, hml]) (i - off) hj
      have e : off + (i - off) = i := by omega
      rw [e] at h3
      rw [h3]
      have : d'.toArray[i - off]! = y := by rw [getElem!_pos d'.toArray _ hj]; rw [List.getElem?_eq_some_iff] at hy; obtain ⟨_, h⟩ := hy; simpa using h
      rw [this]
    · rw [cell?_putRow_other _ _ _ _ _ _ (.inr (.inr (by simp; omega)))]
      rw [List.getElem?_append_right (by omega), hsm, List.getElem?_drop] at hx
      have e : off + n + (i - off - n) = i := by omega
      rw [e] at hx
      exact hS.c i _ (cvs_get hx)
end Go.Proofs.Ng
end

section
/-
  Walks: the heap of points: its state; comparison, length.
-/
namespace Go.Proofs.Ng
open Go.RowKit

def dat (ds : List Int) (i : Nat) : Int := (ds[i]?).getD 0
/-- Point i is farther than j (or as far, with a greater index). -/
def far (ds : List Int) (i j : Nat) : Bool := decide (dat ds j < dat ds i ∨ dat ds i = dat ds j ∧ j < i)
theorem far_bf (ds : List Int) : Bf (far ds) := by
  refine ⟨fun a => ?_, fun a b c h k => ?_, fun a b c h k => ?_⟩ <;> unfold far at * <;> simp only [decide_eq_true_eq, decide_eq_false_iff_not] at * <;> omega
theorem far_or (ds : List Int) (i j : Nat) : decide (0 < orI (cmpI (dat ds i) (dat ds j)) (cmpI i j)) = far ds i j := by
  unfold far
  rw [decide_eq_decide]
  rcases (show dat ds i < dat ds j ∨ dat ds j < dat ds i ∨ dat ds i = dat ds j by omega) with h1 | h1 | h1
  · have hc : cmpI (dat ds i) (dat ds j) = -1 := if_pos h1
    rw [hc]
    have : orI (-1) (cmpI i j) = -1 := if_neg (by omega)
    rw [this]; omega
  · have hc : cmpI (dat ds i) (dat ds j) = 1 := by unfold cmpI; rw [if_neg (by omega), if_pos h1]
    rw [hc]
    have : orI 1 (cmpI i j) = 1 := if_neg (by omega)
    rw [this]; omega
  · have hc : cmpI (dat ds i) (dat ds j) = 0 := by unfold cmpI; rw [if_neg (by omega), if_neg (by omega)]
    rw [hc]
    have : orI 0 (cmpI i j) = cmpI i j := if_pos rfl
    rw [this]
    unfold cmpI
    split
    · omega
    · split <;> omega
/-- The heap's world: the object, the distances' box and row, the points' row. -/
structure HpW (base hB g11 gD n : Nat) (ds : List Int) (h : List Nat) (v : Value) (W : World) : Prop where
  obj : Blk W hB [v, .func (.func 40) #[] #[.pointer (some ⟨g11, 0, none⟩)]]
  box : Blk W g11 [.slice (some ⟨gD, 0, none⟩) n n]
  dst : Blk W gD (pflat ds)
  dl : ds.length = n
  own : W.ownsRow base 3 1 v h.length (nvals h).flatten
  el : ∀ x ∈ h, x < n
  hb : base ≤ W.heap.size
  o1 : hB < base
  o2 : g11 < base
  o3 : gD < base
  n1 : hB ≠ g11
  n2 : hB ≠ gD
  n3 : g11 ≠ gD
variable {base hB g11 gD n : Nat} {ds : List Int} {h : List Nat} {v : Value} {W : World}
theorem HpW.keep {W' : World} (k : HpW base hB g11 gD n ds h v W) (hb : Below W.heap.size W W') : HpW base hB g11 gD n ds h v W' :=
  ⟨k.obj.keep hb, k.box.keep hb, k.dst.keep hb, k.dl, own_keep k.own hb, k.el, Nat.le_trans k.hb hb.size, k.o1, k.o2, k.o3, k.n1, k.n2, k.n3⟩
/-- What the heap's methods change: the object, the points' row. -/
structure FrH (hB : Nat) (v v' : Value) (W W' : World) : Prop where
  os : W'.os = W.os
  tape : W'.tape = W.tape
  output : W'.output = W.output
  size : W.heap.size ≤ W'.heap.size
  block : ∀ b, b < W.heap.size → b ≠ hB → v.ownBlock ≠ some b → W'.heap[b]? = W.heap[b]?
  own : ∀ g, v'.ownBlock = some g → v.ownBlock = some g ∨ W.heap.size ≤ g
theorem FrH.below {W' : World} (hb : Below W.heap.size W W') : FrH hB v v W W' := ⟨hb.os, hb.tape, hb.output, hb.size, fun b hl _ _ => hb.block b hl, fun _ h => .inl h⟩
theorem FrH.trans {v' v'' : Value} {A B : World} (h : FrH hB v v' W A) (k : FrH hB v' v'' A B) : FrH hB v v'' W B :=
  ⟨k.os.trans h.os, k.tape.trans h.tape, k.output.trans h.output, Nat.le_trans h.size k.size, fun b hl hn hv => (k.block b (Nat.lt_of_lt_of_le hl h.size) hn (fun e => by
    rcases h.own b e with h1 | h1
    · exact hv h1
    · omega)).trans (h.block b hl hn hv), fun g hg => by
    rcases k.own g hg with h1 | h1
    · exact h.own g h1
    · right; have := h.size; omega⟩
theorem FrH.grown {A : World} {v' : Value} (hg : W.grownBy A v.ownBlock) (ho : ∀ g, v'.ownBlock = some g → v.ownBlock = some g ∨ W.heap.size ≤ g) : FrH hB v v' W A :=
  ⟨hg.os, hg.tape, hg.output, hg.size, fun b hl _ hv => hg.block b hl (fun e => hv e.symm), ho⟩
theorem dat_cell (k : HpW base hB g11 gD n ds h v W) {i : Nat} (hi : i < n) : W.cell? ⟨gD, i, none⟩ = some (.int .i64 (dat ds i)) :=
  k.dst.c i _ (pfl_get2 (by unfold dat; rw [List.getElem?_eq_getElem (by rw [k.dl]; exact hi)]; rfl))
where pfl_get2 {l : List Int} {k : Nat} {x : Int} (h : l[k]? = some x) : (pflat l)[k]? = some (.int .i64 x) := by simp [pflat, h]
theorem hat_el (k : HpW base hB g11 gD n ds h v W) {i : Nat} (hi : i < h.length) : hat h i < n := k.el _ (List.mem_of_getElem? (hat_some hi))
set_option maxRecDepth 100000 in
set_option maxHeartbeats 4000000 in
theorem closure39 (k : HpW base hB g11 gD n ds h v W) (i j : Nat) (hi : i < n) (hj : j < n) (hn : n ≤ 100000) :
    Calls Tryz.prog 40 #[.int .i64 i, .int .i64 j, .pointer (some ⟨g11, 0, none⟩)] W fun e w' => e = .returned (.bool (far ds i j)) ∧ Gr W w' := by
  have hfo := far_or ds i j
  have x0 : W.cell? ⟨g11, 0, none⟩ = some (.slice (some ⟨gD, 0, none⟩) n n) := k.box.c 0 _ rfl
  have x1 := dat_cell k hi
  have x2 := dat_cell k hj
  have l1 := k.box.lt
  have l2 := k.dst.lt
  clear k
  generalize dat ds i = x at hfo x1
  generalize dat ds j = y at hfo x2
  have HFO := Lib.hid hfo
  have hmk : ∀ Y, Gr W Y → Y.cell? ⟨g11, 0, none⟩ = some (.slice (some ⟨gD, 0, none⟩) n n) ∧ Y.cell? ⟨gD, i, none⟩ = some (.int .i64 x) ∧ Y.cell? ⟨gD, j, none⟩ = some (.int .i64 y) ∧ Gr W Y :=
    fun Y hY => ⟨(hY.below.cell (p := ⟨g11, 0, none⟩) l1).trans x0, (hY.below.cell (p := ⟨gD, i, none⟩) l2).trans x1, (hY.below.cell (p := ⟨gD, j, none⟩) l2).trans x2, hY⟩
  have hS := hmk W (Gr.refl W)
  have HMK := Lib.hid hmk
  clear hmk x0 x1 x2 hfo
  go_enter Tryz.func40, Tryz.ntmps40
  go_upto_region 1 with fail
  go_region_held3 (fun Y => Y.cell? ⟨g11, 0, none⟩ = some (.slice (some ⟨gD, 0, none⟩) n n) ∧ Y.cell? ⟨gD, i, none⟩ = some (.int .i64 x) ∧ Y.cell? ⟨gD, j, none⟩ = some (.int .i64 y) ∧ Gr W Y)
    (first
      | assumption
      | exact HMK.out _ (by repeat (first | assumption | exact Gr.refl _ | apply Gr.drew | apply Gr.alloc | exact (by assumption : _ ∧ _ ∧ _ ∧ Gr W _).2.2.2)))
    (first
      | (go_at_call 42; with_reducible refine (cmp41 _ _ _).mono ?_; rintro e Xa ⟨rfl, rfl⟩)
      | (go_at_call 43; with_reducible refine (cmp42 _ _ _).mono ?_; rintro e Xa ⟨rfl, rfl⟩)
      | (go_at_call 41; refine (or40 _ (cmpI x y) (cmpI i j) _ (by simp [go_sem]) (by simp [go_sem]) (by simp [go_sem])).mono ?_; rintro e Xa ⟨rfl, rfl⟩))
  all_goals
    go_wp2
    go_ret
    exact ⟨ret_bool HFO.out, ((Gr.refl W).alloc _).drew⟩
set_option maxHeartbeats 1000000 in
theorem len45 (k : HpW base hB g11 gD n ds h v W) : Calls Tryz.prog 45 #[.pointer (some ⟨hB, 0, none⟩)] W fun e w' => e = .returned (.int .i64 (h.length : Nat)) ∧ w' = W := by
  have hv : ∃ o c, v = .slice o h.length c := by
    obtain ⟨o, c, rfl, -⟩ := own_rows (nvals_one h) (by rw [nvals_len]; exact k.own)
    exact ⟨o, c, by rw [nvals_len]⟩
  obtain ⟨o, c, rfl⟩ := hv
  have x0 : W.cell? ⟨hB, 0, none⟩ = some (.slice o h.length c) := k.obj.c 0 _ rfl
  have l0 := k.obj.lt
  clear k
  go_enter Tryz.func45, Tryz.ntmps45
  go_wp2_with fail
  go_ret
  exact ⟨rfl, rfl⟩
end Go.Proofs.Ng
end

section
/-
  Walks: the heap's methods: Less, Swap, Push, Pop.
-/
namespace Go.Proofs.Ng
open Go.RowKit

variable {base hB g11 gD n : Nat} {ds : List Int} {h : List Nat} {v : Value} {W : World}
theorem HpW.form (k : HpW base hB g11 gD n ds h v W) (h0 : 0 < h.length) : ∃ g c, v = .slice (some ⟨g, 0, none⟩) h.length c ∧ base ≤ g ∧ g < W.heap.size ∧ h.length ≤ c := by
  obtain ⟨g, c, rfl⟩ := own_some k.own h0
  have := own_lt k.own g rfl
  exact ⟨g, c, rfl, this.2, this.1, (own_cap k.own).1⟩
theorem hp_cell {g c : Nat} (k : HpW base hB g11 gD n ds h (.slice (some ⟨g, 0, none⟩) h.length c) W) {i : Nat} (hi : i < h.length) : W.cell? ⟨g, i, none⟩ = some (.int .i64 (hat h i : Nat)) := own_cell k.own i _ (hat_some hi)
set_option maxRecDepth 100000 in
set_option maxHeartbeats 4000000 in
theorem less119 (k : HpW base hB g11 gD n ds h v W) (i j : Nat) (hi : i < h.length) (hj : j < h.length) (hn : n ≤ 100000) (hl : h.length ≤ 100000) :
    Calls Tryz.prog 141 #[.pointer (some ⟨hB, 0, none⟩), .int .i64 i, .int .i64 j] W fun e w' => e = .returned (.bool (far ds (hat h i) (hat h j))) ∧ Gr W w' := by
  obtain ⟨g, c, rfl, hbg, lg, hcap⟩ := k.form (by omega)
  have x0 : W.cell? ⟨hB, 0, none⟩ = some (.slice (some ⟨g, 0, none⟩) h.length c) := k.obj.c 0 _ rfl
  have x1 : W.cell? ⟨hB, 1, none⟩ = some (.func (.func 40) #[] #[.pointer (some ⟨g11, 0, none⟩)]) := k.obj.c 1 _ rfl
  have x2 := hp_cell k hi
  have x3 := hp_cell k hj
  have l0 := k.obj.lt
  have hcl := fun X (hX : Gr W X) => closure39 (k.keep hX.below) (hat h i) (hat h j) (hat_el k hi) (hat_el k hj) hn
  have HCL := Lib.hid hcl
  clear k hcl
  generalize hat h i = x at x2 HCL ⊢
  generalize hat h j = y at x3 HCL ⊢
  have hmk : ∀ Y, Gr W Y → Y.cell? ⟨hB, 0, none⟩ = some (.slice (some ⟨g, 0, none⟩) h.length c) ∧ Y.cell? ⟨hB, 1, none⟩ = some (.func (.func 40) #[] #[.pointer (some ⟨g11, 0, none⟩)]) ∧ Y.cell? ⟨g, i, none⟩ = some (.int .i64 (x : Nat)) ∧ Y.cell? ⟨g, j, none⟩ = some (.int .i64 (y : Nat)) ∧ Gr W Y :=
    fun Y hY => ⟨(hY.below.cell (p := ⟨hB, 0, none⟩) l0).trans x0, (hY.below.cell (p := ⟨hB, 1, none⟩) l0).trans x1, (hY.below.cell (p := ⟨g, i, none⟩) lg).trans x2, (hY.below.cell (p := ⟨g, j, none⟩) lg).trans x3, hY⟩
  have hS := hmk W (Gr.refl W)
  have HMK := Lib.hid hmk
  clear hmk x0 x1 x2 x3
  go_enter Tryz.func141, Tryz.ntmps141
  go_upto_region 1 with fail
  go_region_held3 (fun Y => Y.cell? ⟨hB, 0, none⟩ = some (.slice (some ⟨g, 0, none⟩) h.length c) ∧ Y.cell? ⟨hB, 1, none⟩ = some (.func (.func 40) #[] #[.pointer (some ⟨g11, 0, none⟩)]) ∧ Y.cell? ⟨g, i, none⟩ = some (.int .i64 (x : Nat)) ∧ Y.cell? ⟨g, j, none⟩ = some (.int .i64 (y : Nat)) ∧ Gr W Y)
    (first
      | assumption
      | exact HMK.out _ (by repeat (first | assumption | exact Gr.refl _ | apply Gr.drew | apply Gr.alloc | exact (by assumption : _ ∧ _ ∧ _ ∧ _ ∧ Gr W _).2.2.2.2)))
    (first
      | (go_at_call 40; refine (HCL.out _ (by assumption : _ ∧ _ ∧ _ ∧ _ ∧ Gr W _).2.2.2.2).mono ?_; rintro e Xa ⟨rfl, hgr⟩; replace hgr := Gr.trans (by assumption : _ ∧ _ ∧ _ ∧ _ ∧ Gr W _).2.2.2.2 hgr))
  all_goals
    go_wp2
    go_ret
    exact ⟨rfl, hgr⟩
/-- Behind a swap. -/
theorem HpW.swp {g c i j : Nat} (k : HpW base hB g11 gD n ds h (.slice (some ⟨g, 0, none⟩) h.length c) W) (hi : i < h.length) (hj : j < h.length) :
    HpW base hB g11 gD n ds (swp h i j) (.slice (some ⟨g, 0, none⟩) h.length c) (((W.setCell ⟨g, i, none⟩ (.int .i64 (hat h j : Nat))).setCell ⟨g, j, none⟩ (.int .i64 (hat h i : Nat))).drew) ∧ FrH hB (.slice (some ⟨g, 0, none⟩) h.length c) (.slice (some ⟨g, 0, none⟩) h.length c) W (((W.setCell ⟨g, i, none⟩ (.int .i64 (hat h j : Nat))).setCell ⟨g, j, none⟩ (.int .i64 (hat h i : Nat))).drew) := by
  have hbg := (own_lt k.own g rfl).2
  have o1 := k.o1; have o2 := k.o2; have o3 := k.o3
  have hg : W.grownBy ((W.setCell ⟨g, i, none⟩ (.int .i64 (hat h j : Nat))).setCell ⟨g, j, none⟩ (.int .i64 (hat h i : Nat))) (some g) := grown_trans (grown_set W g i _) (grown_set _ g j _)
  have hd : ∀ X : World, Below X.heap.size X X.drew := fun X => (Below.refl _ _).drew
  have ho := own_set1 (own_set1 k.own i (by omega) (.int .i64 (hat h j : Nat))) j (by omega) (.int .i64 (hat h i : Nat))
  rw [← nvals_set, ← nvals_set] at ho
  refine ⟨⟨(k.obj.keepG hg (by omega)).keep (hd _), (k.box.keepG hg (by omega)).keep (hd _), (k.dst.keepG hg (by omega)).keep (hd _), k.dl, by rw [swp_len]; exact own_keep ho (hd _), fun x hx => k.el x ((swp_perm hi hj).mem_iff.1 hx), Nat.le_trans k.hb hg.size, o1, o2, o3, k.n1, k.n2, k.n3⟩, ?_⟩
  exact FrH.grown (grown_low hg (hd _ |>.mono hg.size)) (fun g' h' => .inl h')
set_option maxRecDepth 100000 in
set_option maxHeartbeats 4000000 in
theorem swap122 (k : HpW base hB g11 gD n ds h v W) (i j : Nat) (hi : i < h.length) (hj : j < h.length) (hl : h.length ≤ 100000) :
    Calls Tryz.prog 144 #[.pointer (some ⟨hB, 0, none⟩), .int .i64 i, .int .i64 j] W fun e W' => e = .returned (.tuple #[]) ∧ HpW base hB g11 gD n ds (swp h i j) v W' ∧ FrH hB v v W W' := by
  obtain ⟨g, c, rfl, hbg, lg, hcap⟩ := k.form (by omega)
  have x0 : W.cell? ⟨hB, 0, none⟩ = some (.slice (some ⟨g, 0, none⟩) h.length c) := k.obj.c 0 _ rfl
  have x2 := hp_cell k hi
  have x3 := hp_cell k hj
  have f2 := own_frozen k.own (by omega) i
  have f3 := own_frozen k.own (by omega) j
  have l0 := k.obj.lt
  have hne : hB ≠ g := by have := k.o1; omega
  have HF := Lib.hid (k.swp hi hj)
  clear k
  generalize hat h i = x at x2 HF ⊢
  generalize hat h j = y at x3 HF ⊢
  by_cases hij : i = j
  · subst hij
    rw [x2] at x3
    injection x3 with x3
    injection x3 with _ x3
    have : x = y := by omega
    subst this
    go_enter Tryz.func144, Tryz.ntmps144
    go_region
    refine bodyPost_end (v := .tuple #[]) (by simp [results, Tryz.results144, go_sem]) rfl ?_
    exact ⟨rfl, HF.out.1, HF.out.2⟩
  · go_enter Tryz.func144, Tryz.ntmps144
    go_region
    refine bodyPost_end (v := .tuple #[]) (by simp [results, Tryz.results144, go_sem]) rfl ?_
    exact ⟨rfl, HF.out.1, HF.out.2⟩
end Go.Proofs.Ng
end

section
/-
  Walks: the heap's methods: Push, Pop.
-/
namespace Go.Proofs.Ng
open Go.RowKit

variable {base hB g11 gD n : Nat} {ds : List Int} {h : List Nat} {v : Value} {W : World}
/-- Behind an append and the store into the object. -/
theorem HpW.app {W1 : World} {v' : Value} {x : Nat} (k : HpW base hB g11 gD n ds h v W) (hx : x < n) (hg : W.grownBy W1 v.ownBlock) (ho : W1.ownsRow base 3 1 v' (h ++ [x]).length (nvals (h ++ [x])).flatten) (hv : ∀ g, v'.ownBlock = some g → v.ownBlock = some g ∨ W.heap.size ≤ g) :
    HpW base hB g11 gD n ds (h ++ [x]) v' (W1.setCell ⟨hB, 0, none⟩ v') ∧ FrH hB v v' W (W1.setCell ⟨hB, 0, none⟩ v') := by
  have o1 := k.o1; have o2 := k.o2; have o3 := k.o3
  have B := grown_below k.own hg k.hb
  have hs : W1.grownBy (W1.setCell ⟨hB, 0, none⟩ v') (some hB) := grown_set W1 hB 0 v'
  refine ⟨⟨(k.obj.low o1 B).put 0 v', (k.box.low o2 B).keepG hs (fun e => k.n1 e.symm), (k.dst.low o3 B).keepG hs (fun e => k.n2 e.symm), k.dl, own_blk ho fun g _ _ hb => hs.block g (by have := own_lt ho g (by assumption); omega) (fun e => by injection e with e; omega), fun y hy => ?_, Nat.le_trans k.hb (Nat.le_trans hg.size hs.size), o1, o2, o3, k.n1, k.n2, k.n3⟩, ?_⟩
  · rw [List.mem_append, List.mem_singleton] at hy
    rcases hy with hy | rfl
    · exact k.el y hy
    · exact hx
  · exact ⟨hs.os.trans hg.os, hs.tape.trans hg.tape, hs.output.trans hg.output, Nat.le_trans hg.size hs.size, fun b hl hn hv' => (hs.block b (Nat.lt_of_lt_of_le hl hg.size) (fun e => hn (by injection e))).trans (hg.block b hl (fun e => hv' e.symm)), hv⟩
set_option maxRecDepth 100000 in
set_option maxHeartbeats 4000000 in
theorem push121 (k : HpW base hB g11 gD n ds h v W) (x : Nat) (hx : x < n) (hl : h.length ≤ 100000) :
    Calls Tryz.prog 143 #[.pointer (some ⟨hB, 0, none⟩), .iface 3 (.int .i64 x)] W fun e W' => e = .returned (.tuple #[]) ∧ ∃ v', HpW base hB g11 gD n ds (h ++ [x]) v' W' ∧ FrH hB v v' W W' := by
  have hv : ∃ o c, v = .slice o h.length c := by
    obtain ⟨o, c, rfl, -⟩ := own_rows (nvals_one h) (by rw [nvals_len]; exact k.own)
    exact ⟨o, c, by rw [nvals_len]⟩
  obtain ⟨o, c, rfl⟩ := hv
  have hta : ∀ u : World, (Instr.typeAssert (.iface 3 (.int .i64 (x : Nat))) 20 3 false).run Tryz.prog u = .ok (.int .i64 (x : Nat)) u := fun _ => by kernel_rfl
  have x0 : W.cell? ⟨hB, 0, none⟩ = some (.slice o h.length c) := k.obj.c 0 _ rfl
  have f0 := k.obj.f 0
  have l0 := k.obj.lt
  obtain ⟨i0, hi, hz0, hz1, hz2⟩ := info_parts info3
  have hba : Below W.heap.size W (W.alloc (.cells #[.int .i64 (x : Nat)] 3)) := (Below.refl _ _).alloc (Nat.le_refl _) _
  have hbd : Below W.heap.size W (W.drew.alloc (.cells #[.int .i64 (x : Nat)] 3)) := (Below.refl _ _).drew.alloc (Nat.le_refl _) _
  have hbe : Below W.heap.size W (W.alloc (.cells #[.int .i64 (x : Nat)] 3)).drew := hba.drew
  have K0 := Lib.hid k
  have K2 := Lib.hid (k.keep hbd)
  have K3 := Lib.hid (k.keep hbe)
  clear k
  go_enter Tryz.func143, Tryz.ntmps143
  go_region_law
    (refine step_append_lies _ rfl (.tmp 8) (.tmp 11) 29 rfl base 3 i0 (.int .i64 0) 1 8 under24 hi hz0 hz1 hz2 rfl (by decide) (.slice o h.length c) h.length (nvals h).flatten (by simp [Act.eval]) K3.out.own ⟨W.heap.size, 0, none⟩ 1 1 [.int .i64 (x : Nat)] (by simp [Act.eval]) rfl (new_cells W [.int .i64 (x : Nat)] 3) (by intro u hu; simp at hu; subst hu; rfl) (by decide) (by unfold maxLen; omega) (by omega) K3.out.hb _ rfl ?_
     intro g cg W3 hown hgrow hat hlt3
     have B := grown_below K3.out.own hgrow K3.out.hb
     have z0 : W3.cell? ⟨hB, 0, none⟩ = some (.slice o h.length c) := (K3.out.obj.low K3.out.o1 B).c 0 _ rfl
     have zf := (K3.out.obj.low K3.out.o1 B).f 0
     have zl := (K3.out.obj.low K3.out.o1 B).lt
     have HOW := Lib.hid hown
     have HGR := Lib.hid hgrow
     have HAT := Lib.hid hat
     clear B hown hgrow hat)
  all_goals
    refine bodyPost_end (v := .tuple #[]) (by simp [results, Tryz.results143, go_sem]) rfl ?_
    have hf := K3.out.app (x := x) hx HGR.out (v' := .slice (some ⟨g, 0, none⟩) (h.length + 1) cg) (by
      have e : (nvals (h ++ [x])).flatten = (nvals h).flatten ++ [.int .i64 (x : Nat)] := by simp [nvals_flat]
      rw [List.length_append, e]; exact HOW.out) (fun g' hg' => by
        simp [Value.ownBlock] at hg'
        subst hg'
        rcases HAT.out with h1 | h1
        · exact .inl h1
        · exact .inr (by rw [h1]; exact Nat.le_refl _))
    exact ⟨rfl, _, hf.1, (FrH.below hbe).trans hf.2⟩
set_option maxHeartbeats 2000000 in
theorem pop120 {m : Nat} (k : HpW base hB g11 gD n ds h v W) (hm : h.length = m + 1) (hl : h.length ≤ 100000) :
    Calls Tryz.prog 142 #[.pointer (some ⟨hB, 0, none⟩)] W fun e W' => e = .returned (.iface 3 (.int .i64 (hat h m : Nat))) ∧ ∃ v', HpW base hB g11 gD n ds (h.take m) v' W' ∧ FrH hB v v' W W' := by
  obtain ⟨g, c, rfl, hbg, lg, hcap⟩ := k.form (by omega)
  have x0 : W.cell? ⟨hB, 0, none⟩ = some (.slice (some ⟨g, 0, none⟩) h.length c) := k.obj.c 0 _ rfl
  have f0 := k.obj.f 0
  have l0 := k.obj.lt
  have x1 := hp_cell k (show m < h.length by omega)
  have hmi : ∀ u : World, (Instr.makeInterface 3 (.int .i64 (hat h m : Nat))).run Tryz.prog u = .ok (.iface 3 (.int .i64 (hat h m : Nat))) u := fun _ => by kernel_rfl
  have hlen : (h.take m).length = m := by rw [List.length_take]; omega
  have o1 := k.o1; have o2 := k.o2; have o3 := k.o3
  have hs : W.grownBy (W.setCell ⟨hB, 0, none⟩ (.slice (some ⟨g, 0, none⟩) m c)) (some hB) := grown_set W hB 0 _
  have ho : (W.setCell ⟨hB, 0, none⟩ (.slice (some ⟨g, 0, none⟩) m c)).ownsRow base 3 1 (.slice (some ⟨g, 0, none⟩) m c) (h.take m).length (nvals (h.take m)).flatten := by
    have h1 : W.ownsRow base 3 1 (.slice (some ⟨g, 0, none⟩) m c) m (nvals (h.take m)).flatten := by
      obtain ⟨a1, a2⟩ := k.own
      rcases a2 with ⟨b1, _⟩ | ⟨g', cap', cur, b1, b2, b3, b4, b5, b6, b7⟩
      · injection b1 with b1 _ _; cases b1
      · injection b1 with c1 _ c2
        injection c1 with c1
        injection c1 with c1 _ _
        subst c1 c2
        have e : (nvals (h.take m)).flatten = ((nvals h).flatten).take m := by rw [nvals_flat, nvals_flat, List.map_take]
        refine ⟨by rw [nvals_flat, List.length_map, hlen, Nat.mul_one], .inr ⟨g, c, cur, rfl, b2, b3, by omega, b5, b6, ?_⟩⟩
        rw [e, ← b7, List.take_take]
        congr 1
        omega
    rw [hlen]
    exact own_blk h1 fun g' hg hl hb => hs.block g' hl (fun e => by injection e with e; omega)
  have HF : Hid (HpW base hB g11 gD n ds (h.take m) (.slice (some ⟨g, 0, none⟩) m c) (W.setCell ⟨hB, 0, none⟩ (.slice (some ⟨g, 0, none⟩) m c)) ∧ FrH hB (.slice (some ⟨g, 0, none⟩) h.length c) (.slice (some ⟨g, 0, none⟩) m c) W (W.setCell ⟨hB, 0, none⟩ (.slice (some ⟨g, 0, none⟩) m c))) := Lib.hid
    ⟨⟨k.obj.put 0 _, k.box.keepG hs (fun e => k.n1 e.symm), k.dst.keepG hs (fun e => k.n2 e.symm), k.dl, ho, fun x hx => k.el x (List.mem_of_mem_take hx), Nat.le_trans k.hb hs.size, o1, o2, o3, k.n1, k.n2, k.n3⟩, ⟨hs.os, hs.tape, hs.output, hs.size, fun b hl hn _ => hs.block b hl (fun e => hn (by injection e)), fun g' hg => .inl hg⟩⟩
  have hw : IntKind.i64.wrap ((m : Int) + 1 - 1) = (m : Int) := by rw [IntWalk.i64_in _ (by omega)]; omega
  have hmc : m ≤ c := by omega
  rw [hm] at x0 HF
  clear k ho hs hlen
  generalize hat h m = y at x1 hmi ⊢
  rw [hm]
  go_enter Tryz.func142, Tryz.ntmps142
  go_wp2_with fail
  go_ret
  exact ⟨rfl, _, HF.out.1, HF.out.2⟩
end Go.Proofs.Ng
end

section
/-
  Walks: the library's heap: up, down, Push, Pop.
-/
namespace Go.Proofs.Ng
open Go.RowKit

variable {base hB g11 gD n : Nat} {ds : List Int} {h : List Nat} {v : Value} {W : World}
def ifc (hB : Nat) : Value := .iface 65 (.pointer (some ⟨hB, 0, none⟩))
theorem par_int (j : Nat) : ((j : Int) - 1).tdiv 2 = ((par j : Nat) : Int) := by
  unfold par
  rcases j with _ | j
  · rfl
  · rw [Int.tdiv_eq_ediv_of_nonneg (by omega)]; omega
theorem meth_less (hB : Nat) (u : World) : (method 271 65 (.pointer (some ⟨hB, 0, none⟩)) "Less").run Tryz.prog u = .ok (141, .pointer (some ⟨hB, 0, none⟩)) u := by kernel_rfl
theorem meth_swap (hB : Nat) (u : World) : (method 271 65 (.pointer (some ⟨hB, 0, none⟩)) "Swap").run Tryz.prog u = .ok (144, .pointer (some ⟨hB, 0, none⟩)) u := by kernel_rfl
theorem meth_len (hB : Nat) (u : World) : (method 271 65 (.pointer (some ⟨hB, 0, none⟩)) "Len").run Tryz.prog u = .ok (45, .pointer (some ⟨hB, 0, none⟩)) u := by kernel_rfl
theorem meth_push (hB : Nat) (u : World) : (method 271 65 (.pointer (some ⟨hB, 0, none⟩)) "Push").run Tryz.prog u = .ok (143, .pointer (some ⟨hB, 0, none⟩)) u := by kernel_rfl
theorem meth_pop (hB : Nat) (u : World) : (method 271 65 (.pointer (some ⟨hB, 0, none⟩)) "Pop").run Tryz.prog u = .ok (142, .pointer (some ⟨hB, 0, none⟩)) u := by kernel_rfl
/-- What a round of the heap's knows. -/
structure HpR (base hB g11 gD n : Nat) (ds : List Int) (h : List Nat) (v : Value) (W : World) (h' : List Nat) (W' : World) : Prop where
  hp : HpW base hB g11 gD n ds h' v W'
  fr : FrH hB v v W W'
  perm : h'.Perm h
set_option maxRecDepth 100000 in
set_option maxHeartbeats 4000000 in
theorem up85 (k : HpW base hB g11 gD n ds h v W) (j : Nat) (hj : j < h.length) (hu : UpH (far ds) h h.length j) (hn : n ≤ 100000) (hl : h.length ≤ 100000) :
    Calls Tryz.prog 102 #[ifc hB, .int .i64 j] W fun e W' => e = .returned (.tuple #[]) ∧ ∃ h', HpR base hB g11 gD n ds h v W h' W' ∧ IsH (far ds) h' h'.length := by
  have m1 := meth_less hB
  have m2 := meth_swap hB
  have K := Lib.hid k
  have HU := Lib.hid hu
  clear k hu
  unfold ifc
  go_enter Tryz.func102, Tryz.ntmps102
  go_wp2_with fail
  go_loopw [1] (fun x X => ∃ (j : Nat) (h' : List Nat), x = .int .i64 (j : Nat) ∧ j < h.length ∧ HpR base hB g11 gD n ds h v W h' X ∧ UpH (far ds) h' h'.length j) (fun x _ => (intOf x).toNat)
  case atStart => exact ⟨j, h, rfl, hj, ⟨K.out, FrH.below (Below.refl _ _), .refl _⟩, HU.out⟩
  case round =>
    obtain ⟨j, h', rfl, hj, hR, hu⟩ := hrel
    obtain ⟨Wb, rfl⟩ : ∃ X, X = wr := ⟨_, rfl⟩
    have hlen := hR.perm.length_eq
    have HL := Lib.hid hlen
    have hpi := par_int j
    have hw := IntWalk.i64_in ((j : Int) - 1) (by omega)
    rcases Nat.eq_zero_or_pos j with h0 | h0
    · subst h0
      have hp0 : par 0 = 0 := rfl
      rw [hp0] at hpi
      have HF := Lib.hid (hu.done (.inl rfl))
      have HR := Lib.hid hR
      clear hR hu hlen hp0
      go_wp2_with fail
      refine bodyPost_end (v := .tuple #[]) (by simp [results, Tryz.results102, go_sem]) rfl ?_
      exact ⟨rfl, h', HR.out, HF.out⟩
    · have hpl := par_lt h0
      have hne : (((par j : Nat) : Int) == (j : Int)) = false := beq_eq_false_iff_ne.2 (by omega)
      have hless := less119 hR.hp j (par j) (by omega) (by omega) hn (by omega)
      have HLS := Lib.hid hless
      have HR := Lib.hid hR
      have HUU := Lib.hid hu
      clear hless hR hu hlen
      cases hb : far ds (hat h' j) (hat h' (par j)) with
      | true =>
        rw [hb] at HLS
        have hst := HUU.out.step (far_bf ds) (Nat.le_refl _) h0 (by rw [HL.out]; exact hj) hb
        have HST := Lib.hid hst
        clear hst hb
        go_wp2_with fail
        with_reducible refine HLS.out.mono ?_
        rintro e W1 ⟨rfl, hgr⟩
        have hp1 := HR.out.hp.keep hgr.below
        have fr1 := HR.out.fr.trans (FrH.below hgr.below)
        have hsw := swap122 hp1 (par j) j (by rw [HL.out]; omega) (by rw [HL.out]; exact hj) (by rw [HL.out]; exact hl)
        have HSW := Lib.hid hsw
        have FR1 := Lib.hid fr1
        clear hp1 fr1 hgr hsw
        go_wp2_with fail
        with_reducible refine HSW.out.mono ?_
        rintro e W2 ⟨rfl, hp2, fr2⟩
        have HN : Hid (HpR base hB g11 gD n ds h v W (swp h' (par j) j) W2) := Lib.hid ⟨hp2, FR1.out.trans fr2, (swp_perm (by rw [HL.out]; omega) (by rw [HL.out]; exact hj)).trans HR.out.perm⟩
        clear hp2 fr2
        go_wp2_with fail
        go_roundw
        case rel => exact ⟨par j, _, rfl, by omega, HN.out, by rw [swp_len]; exact HST.out⟩
        case measure => simp [intOf]; omega
      | false =>
        rw [hb] at HLS
        have HF := Lib.hid (HUU.out.done (.inr hb))
        clear hb
        go_wp2_with fail
        with_reducible refine HLS.out.mono ?_
        rintro e W1 ⟨rfl, hgr⟩
        have HN : Hid (HpR base hB g11 gD n ds h v W h' W1) := Lib.hid ⟨HR.out.hp.keep hgr.below, HR.out.fr.trans (FrH.below hgr.below), HR.out.perm⟩
        clear hgr
        go_wp2_with fail
        refine bodyPost_end (v := .tuple #[]) (by simp [results, Tryz.results102, go_sem]) rfl ?_
        exact ⟨rfl, h', HN.out, HF.out⟩
set_option maxRecDepth 100000 in
set_option maxHeartbeats 4000000 in
theorem down86 (k : HpW base hB g11 gD n ds h v W) (m : Nat) (hm : m + 1 = h.length) (hd : DnH (far ds) h m 0) (hn : n ≤ 100000) (hl : h.length ≤ 100000) :
    Calls Tryz.prog 103 #[ifc hB, .int .i64 0, .int .i64 m] W fun e W' => (∃ b : Bool, e = .returned (.bool b)) ∧ ∃ h', HpR base hB g11 gD n ds h v W h' W' ∧ IsH (far ds) h' m ∧ h'.drop m = h.drop m := by
  have m1 := meth_less hB
  have m2 := meth_swap hB
  have K := Lib.hid k
  have HD := Lib.hid hd
  have hml : m ≤ 100000 := by omega
  clear k hd
  unfold ifc
  go_enter Tryz.func103, Tryz.ntmps103
  go_wp2_with fail
  go_loopw [7] (fun x X => ∃ (i : Nat) (h' : List Nat), x = .int .i64 (i : Nat) ∧ i ≤ m ∧ HpR base hB g11 gD n ds h v W h' X ∧ DnH (far ds) h' m i ∧ h'.drop m = h.drop m) (fun x _ => m - (intOf x).toNat)
  case atStart => exact ⟨0, h, rfl, Nat.zero_le _, ⟨K.out, FrH.below (Below.refl _ _), .refl _⟩, HD.out, rfl⟩
  case round =>
    obtain ⟨i, h', rfl, him, hR, hd, hdr⟩ := hrel
    obtain ⟨Wb, rfl⟩ : ∃ X, X = wr := ⟨_, rfl⟩
    have HL := Lib.hid hR.perm.length_eq
    have HDR := Lib.hid hdr
    have HR := Lib.hid hR
    have HDD := Lib.hid hd
    clear hR hd hdr
    have hw1 : IntKind.i64.wrap (2 * (i : Int)) = 2 * (i : Int) := IntWalk.i64_in _ (by omega)
    obtain ⟨j1, hj1⟩ : ∃ j, j = 2 * i + 1 := ⟨_, rfl⟩
    obtain ⟨j2, hj2⟩ : ∃ j, j = 2 * i + 2 := ⟨_, rfl⟩
    have E1 : Hid (((j1 : Nat) : Int) = 2 * (i : Int) + 1) := Lib.hid (by omega)
    have E2 : Hid (((j2 : Nat) : Int) = 2 * (i : Int) + 1 + 1) := Lib.hid (by omega)
    by_cases h1 : m ≤ j1
    · have d1 : decide ((m : Int) ≤ 2 * (i : Int) + 1) = true := decide_eq_true (by omega)
      have HF := Lib.hid (HDD.out.done (fun c h0 hc hp => by rcases par_child h0 hp with e | e <;> omega))
      clear h1 hj1 hj2
      go_wp2_with fail
      go_ret
      exact ⟨⟨_, rfl⟩, h', HR.out, HF.out, HDR.out⟩
    · have d1 : decide ((m : Int) ≤ 2 * (i : Int) + 1) = false := decide_eq_false (by omega)
      by_cases h2 : j2 < m
      · have d2 : decide (2 * (i : Int) + 1 + 1 < (m : Int)) = true := decide_eq_true (by omega)
        have hls := less119 HR.out.hp j2 j1 (by rw [HL.out]; omega) (by rw [HL.out]; omega) hn (by rw [HL.out]; exact hl)
        rw [E2.out, E1.out] at hls
        have HLS := Lib.hid hls
        clear hls
        cases hb : far ds (hat h' j2) (hat h' j1) with
        | true =>
          rw [hb] at HLS
          have HK : Hid (Kid (far ds) h' m i j2) := Lib.hid (by rw [hj2]; exact kid_right (far_bf ds) (by omega) (by rw [← hj2, ← hj1]; exact hb))
          have HJ1 := Lib.hid hj1
          have HJ2 := Lib.hid hj2
          have hij : i < j2 := by omega
          have hjm : j2 ≤ m := by omega
          clear hb hj2 hj1
          go_wp2_with fail
          with_reducible refine HLS.out.mono ?_
          rintro e W1 ⟨rfl, hgr⟩
          have HR1 : Hid (HpR base hB g11 gD n ds h v W h' W1) := Lib.hid ⟨HR.out.hp.keep hgr.below, HR.out.fr.trans (FrH.below hgr.below), HR.out.perm⟩
          clear hgr HR
          have hls2 := less119 HR1.out.hp j2 i (by rw [HL.out]; omega) (by rw [HL.out]; omega) hn (by rw [HL.out]; exact hl)
          rw [E2.out] at hls2
          have HLS2 := Lib.hid hls2
          clear hls2
          cases hb2 : far ds (hat h' j2) (hat h' i) with
          | true =>
            rw [hb2] at HLS2
            have HST := Lib.hid (HDD.out.step (far_bf ds) (by rw [HL.out]; omega) HK.out hb2)
            clear hb2
            go_wp2_with fail
            with_reducible refine HLS2.out.mono ?_
            rintro e W2 ⟨rfl, hgr⟩
            have hp1 := HR1.out.hp.keep hgr.below
            have FR1 := Lib.hid (HR1.out.fr.trans (FrH.below hgr.below))
            have hsw := swap122 hp1 i j2 (by rw [HL.out]; omega) (by rw [HL.out]; omega) (by rw [HL.out]; exact hl)
            rw [E2.out] at hsw
            have HSW := Lib.hid hsw
            clear hp1 hgr hsw
            go_wp2_with fail
            with_reducible refine HSW.out.mono ?_
            rintro e W3 ⟨rfl, hp2, fr2⟩
            have HN : Hid (HpR base hB g11 gD n ds h v W (swp h' i j2) W3) := Lib.hid ⟨hp2, FR1.out.trans fr2, (swp_perm (by rw [HL.out]; omega) (by rw [HL.out]; omega)).trans HR1.out.perm⟩
            clear hp2 fr2
            go_wp2_with fail
            go_roundw
            case rel => exact ⟨j2, _, by rw [E2.out], by omega, HN.out, HST.out, (swp_ge (by omega) (by omega)).trans HDR.out⟩
            case measure => simp [intOf]; omega
          | false =>
            rw [hb2] at HLS2
            have HF := Lib.hid (HDD.out.stop (far_bf ds) HK.out hb2)
            clear hb2
            go_wp2_with fail
            with_reducible refine HLS2.out.mono ?_
            rintro e W2 ⟨rfl, hgr⟩
            have HN : Hid (HpR base hB g11 gD n ds h v W h' W2) := Lib.hid ⟨HR1.out.hp.keep hgr.below, HR1.out.fr.trans (FrH.below hgr.below), HR1.out.perm⟩
            clear hgr
            go_wp2_with fail
            go_ret
            exact ⟨⟨_, rfl⟩, h', HN.out, HF.out, HDR.out⟩
        | false =>
          rw [hb] at HLS
          have HK : Hid (Kid (far ds) h' m i j1) := Lib.hid (by rw [hj1]; exact kid_left (far_bf ds) (by omega) (fun _ => by rw [← hj2, ← hj1]; exact hb))
          have HJ1 := Lib.hid hj1
          have HJ2 := Lib.hid hj2
          have hij : i < j1 := by omega
          have hjm : j1 ≤ m := by omega
          clear hb hj2 hj1
          go_wp2_with fail
          with_reducible refine HLS.out.mono ?_
          rintro e W1 ⟨rfl, hgr⟩
          have HR1 : Hid (HpR base hB g11 gD n ds h v W h' W1) := Lib.hid ⟨HR.out.hp.keep hgr.below, HR.out.fr.trans (FrH.below hgr.below), HR.out.perm⟩
          clear hgr HR
          have hls2 := less119 HR1.out.hp j1 i (by rw [HL.out]; omega) (by rw [HL.out]; omega) hn (by rw [HL.out]; exact hl)
          rw [E1.out] at hls2
          have HLS2 := Lib.hid hls2
          clear hls2
          cases hb2 : far ds (hat h' j1) (hat h' i) with
          | true =>
            rw [hb2] at HLS2
            have HST := Lib.hid (HDD.out.step (far_bf ds) (by rw [HL.out]; omega) HK.out hb2)
            clear hb2
            go_wp2_with fail
            with_reducible refine HLS2.out.mono ?_
            rintro e W2 ⟨rfl, hgr⟩
            have hp1 := HR1.out.hp.keep hgr.below
            have FR1 := Lib.hid (HR1.out.fr.trans (FrH.below hgr.below))
            have hsw := swap122 hp1 i j1 (by rw [HL.out]; omega) (by rw [HL.out]; omega) (by rw [HL.out]; exact hl)
            rw [E1.out] at hsw
            have HSW := Lib.hid hsw
            clear hp1 hgr hsw
            go_wp2_with fail
            with_reducible refine HSW.out.mono ?_
            rintro e W3 ⟨rfl, hp2, fr2⟩
            have HN : Hid (HpR base hB g11 gD n ds h v W (swp h' i j1) W3) := Lib.hid ⟨hp2, FR1.out.trans fr2, (swp_perm (by rw [HL.out]; omega) (by rw [HL.out]; omega)).trans HR1.out.perm⟩
            clear hp2 fr2
            go_wp2_with fail
            go_roundw
            case rel => exact ⟨j1, _, by rw [E1.out], by omega, HN.out, HST.out, (swp_ge (by omega) (by omega)).trans HDR.out⟩
            case measure => simp [intOf]; omega
          | false =>
            rw [hb2] at HLS2
            have HF := Lib.hid (HDD.out.stop (far_bf ds) HK.out hb2)
            clear hb2
            go_wp2_with fail
            with_reducible refine HLS2.out.mono ?_
            rintro e W2 ⟨rfl, hgr⟩
            have HN : Hid (HpR base hB g11 gD n ds h v W h' W2) := Lib.hid ⟨HR1.out.hp.keep hgr.below, HR1.out.fr.trans (FrH.below hgr.below), HR1.out.perm⟩
            clear hgr
            go_wp2_with fail
            go_ret
            exact ⟨⟨_, rfl⟩, h', HN.out, HF.out, HDR.out⟩
      · have d2 : decide (2 * (i : Int) + 1 + 1 < (m : Int)) = false := decide_eq_false (by omega)
        have HK : Hid (Kid (far ds) h' m i j1) := Lib.hid (by rw [hj1]; exact kid_left (far_bf ds) (by omega) (fun hh => by omega))
        have HJ1 := Lib.hid hj1
        have HJ2 := Lib.hid hj2
        have hij : i < j1 := by omega
        have hjm : j1 ≤ m := by omega
        clear hj2 hj1
        go_wp2_with fail
        have hls2 := less119 HR.out.hp j1 i (by rw [HL.out]; omega) (by rw [HL.out]; omega) hn (by rw [HL.out]; exact hl)
        rw [E1.out] at hls2
        have HLS2 := Lib.hid hls2
        clear hls2
        cases hb2 : far ds (hat h' j1) (hat h' i) with
        | true =>
          rw [hb2] at HLS2
          have HST := Lib.hid (HDD.out.step (far_bf ds) (by rw [HL.out]; omega) HK.out hb2)
          clear hb2
          go_wp2_with fail
          with_reducible refine HLS2.out.mono ?_
          rintro e W2 ⟨rfl, hgr⟩
          have hp1 := HR.out.hp.keep hgr.below
          have FR1 := Lib.hid (HR.out.fr.trans (FrH.below hgr.below))
          have hsw := swap122 hp1 i j1 (by rw [HL.out]; omega) (by rw [HL.out]; omega) (by rw [HL.out]; exact hl)
          rw [E1.out] at hsw
          have HSW := Lib.hid hsw
          clear hp1 hgr hsw
          go_wp2_with fail
          with_reducible refine HSW.out.mono ?_
          rintro e W3 ⟨rfl, hp2, fr2⟩
          have HN : Hid (HpR base hB g11 gD n ds h v W (swp h' i j1) W3) := Lib.hid ⟨hp2, FR1.out.trans fr2, (swp_perm (by rw [HL.out]; omega) (by rw [HL.out]; omega)).trans HR.out.perm⟩
          clear hp2 fr2
          go_wp2_with fail
          go_roundw
          case rel => exact ⟨j1, _, by rw [E1.out], by omega, HN.out, HST.out, (swp_ge (by omega) (by omega)).trans HDR.out⟩
          case measure => simp [intOf]; omega
        | false =>
          rw [hb2] at HLS2
          have HF := Lib.hid (HDD.out.stop (far_bf ds) HK.out hb2)
          clear hb2
          go_wp2_with fail
          with_reducible refine HLS2.out.mono ?_
          rintro e W2 ⟨rfl, hgr⟩
          have HN : Hid (HpR base hB g11 gD n ds h v W h' W2) := Lib.hid ⟨HR.out.hp.keep hgr.below, HR.out.fr.trans (FrH.below hgr.below), HR.out.perm⟩
          clear hgr
          go_wp2_with fail
          go_ret
          exact ⟨⟨_, rfl⟩, h', HN.out, HF.out, HDR.out⟩
end Go.Proofs.Ng
end

section
/-
  Walks: the library's Push and Pop; push and pop.
-/
namespace Go.Proofs.Ng
open Go.RowKit

variable {base hB g11 gD n : Nat} {ds : List Int} {h : List Nat} {v : Value} {W : World}
/-- The heap with another list, behind a call. -/
def HpN (base hB g11 gD n : Nat) (ds : List Int) (v : Value) (W : World) (P : List Nat → Prop) (W' : World) : Prop := ∃ h' v', HpW base hB g11 gD n ds h' v' W' ∧ FrH hB v v' W W' ∧ IsH (far ds) h' h'.length ∧ P h'
theorem IsH.take {h : List Nat} {m : Nat} {bf : Nat → Nat → Bool} (hh : IsH bf h m) (hm : m ≤ h.length) : IsH bf (h.take m) (h.take m).length := by
  have e : ∀ c, c < m → hat (h.take m) c = hat h c := fun c hc => by unfold hat; rw [List.getElem?_take, if_pos hc]
  have hl : (h.take m).length = m := by rw [List.length_take]; omega
  intro c h0 hc
  have := par_lt h0
  rw [e c (by omega), e (par c) (by omega)]
  exact hh c h0 (by omega)
set_option maxHeartbeats 4000000 in
theorem heapPush64 (k : HpW base hB g11 gD n ds h v W) (x : Nat) (hx : x < n) (hh : IsH (far ds) h h.length) (hn : n ≤ 100000) (hl : h.length + 1 ≤ 100000) :
    Calls Tryz.prog 71 #[ifc hB, .iface 3 (.int .i64 x)] W fun e W' => e = .returned (.tuple #[]) ∧ HpN base hB g11 gD n ds v W (fun h' => h'.Perm (x :: h)) W' := by
  have m3 := meth_len hB
  have m4 := meth_push hB
  have HH := Lib.hid hh
  have HPU := Lib.hid (push121 k x hx (by omega))
  clear k hh
  have hup := fun (v' : Value) (X : World) (k' : HpW base hB g11 gD n ds (h ++ [x]) v' X) => up85 k' ((h ++ [x]).length - 1) (by simp) (UpH.push HH.out) hn (by simpa using hl)
  have e1 : (h ++ [x]).length - 1 = h.length := by simp
  rw [e1] at hup
  have HUP := Lib.hid hup
  clear hup e1
  unfold ifc at HUP ⊢
  go_enter Tryz.func71, Tryz.ntmps71
  go_wp2_with fail
  with_reducible refine HPU.out.mono ?_
  rintro e W1 ⟨rfl, v1, k1, f1⟩
  have hlen := len45 k1
  have e2 : (((h ++ [x]).length : Nat) : Int) = (h.length : Int) + 1 := by simp
  rw [e2] at hlen
  have HLE := Lib.hid hlen
  have hw : IntKind.i64.wrap ((h.length : Int) + 1 - 1) = (h.length : Int) := by rw [IntWalk.i64_in _ (by omega)]; omega
  have K1 := Lib.hid k1
  have F1 := Lib.hid f1
  clear k1 f1 hlen e2 HPU
  go_wp2_with fail
  with_reducible refine HLE.out.mono ?_
  rintro e W2 ⟨rfl, rfl⟩
  go_wp2_with fail
  refine (HUP.out v1 W2 K1.out).mono ?_
  rintro e W3 ⟨rfl, h', hr, hs⟩
  have HF : Hid (HpN base hB g11 gD n ds v W (fun h' => h'.Perm (x :: h)) W3) := Lib.hid ⟨h', v1, hr.hp, F1.out.trans hr.fr, hs, hr.perm.trans (List.perm_append_comm (l₁ := h) (l₂ := [x]))⟩
  clear hr hs
  go_wp2_with fail
  refine bodyPost_end (v := .tuple #[]) (by simp [results, Tryz.results71, go_sem]) rfl ?_
  exact ⟨rfl, HF.out⟩
set_option maxHeartbeats 4000000 in
theorem heapPop65 {m : Nat} (k : HpW base hB g11 gD n ds h v W) (hm : h.length = m + 1) (hh : IsH (far ds) h h.length) (hn : n ≤ 100000) (hl : h.length ≤ 100000) :
    Calls Tryz.prog 72 #[ifc hB] W fun e W' => e = .returned (.iface 3 (.int .i64 (hat h 0 : Nat))) ∧ HpN base hB g11 gD n ds v W (fun h' => (hat h 0 :: h').Perm h) W' := by
  have m2 := meth_swap hB
  have m3 := meth_len hB
  have m5 := meth_pop hB
  have hlen := len45 k
  rw [hm] at hlen
  have e2 : (((m + 1 : Nat)) : Int) = (m : Int) + 1 := by omega
  rw [e2] at hlen
  have hw : IntKind.i64.wrap ((m : Int) + 1 - 1) = (m : Int) := by rw [IntWalk.i64_in _ (by omega)]; omega
  have HLE := Lib.hid hlen
  have hsw := swap122 k 0 m (by omega) (by omega) hl
  rw [show (((0 : Nat)) : Int) = 0 from rfl] at hsw
  have HSW := Lib.hid hsw
  rw [hm] at hh
  have hd := DnH.start hh (by omega)
  have HD := Lib.hid hd
  have hdr : (swp h 0 m).drop m = [hat h 0] := by
    have e3 := swp_hat (h := h) (i := 0) (j := m) (by omega) (by omega) m
    rw [if_pos rfl] at e3
    have h2 : m < (swp h 0 m).length := by rw [swp_len]; omega
    rw [List.drop_eq_getElem_cons h2, List.drop_eq_nil_of_le (by rw [swp_len]; omega)]
    congr 1
    unfold hat at e3 ⊢
    rw [List.getElem?_eq_getElem h2] at e3
    simpa using e3
  have HDR := Lib.hid hdr
  have HM := Lib.hid hm
  have hml : m ≤ 100000 := by omega
  have HPm := Lib.hid (swp_perm (h := h) (i := 0) (j := m) (by omega) (by omega))
  clear k hlen e2 hsw hh hd hdr hm
  unfold ifc
  go_enter Tryz.func72, Tryz.ntmps72
  go_wp2_with fail
  with_reducible refine HLE.out.mono ?_
  rintro e W1 ⟨rfl, rfl⟩
  go_wp2_with fail
  with_reducible refine HSW.out.mono ?_
  rintro e W2 ⟨rfl, k2, f2⟩
  have hdn := down86 k2 m (by rw [swp_len, HM.out]) HD.out hn (by rw [swp_len]; exact hl)
  unfold ifc at hdn
  have HDN := Lib.hid hdn
  have F2 := Lib.hid f2
  clear k2 f2 hdn
  go_wp2_with fail
  refine HDN.out.mono ?_
  rintro e W3 ⟨⟨b, rfl⟩, h2, hr, hs, hd2⟩
  have hl2 : h2.length = m + 1 := by rw [hr.perm.length_eq, swp_len, HM.out]
  have hpo := pop120 hr.hp hl2 (by have := HM.out; omega)
  have hhm : hat h2 m = hat h 0 := by
    have e4 : h2.drop m = [hat h 0] := hd2.trans HDR.out
    have : (h2.drop m)[0]? = some (hat h 0) := by rw [e4]; rfl
    rw [List.getElem?_drop, Nat.add_zero] at this
    unfold hat at this ⊢
    rw [this]; rfl
  rw [hhm] at hpo
  have HPO := Lib.hid hpo
  have HIS := Lib.hid (hs.take (by omega))
  have HPP : Hid ((hat h 0 :: h2.take m).Perm h) := Lib.hid (by
    have e5 : h2 = h2.take m ++ [hat h 0] := by
      have := (List.take_append_drop m h2).symm
      rw [hd2.trans HDR.out] at this
      exact this
    have p1 : (hat h 0 :: h2.take m).Perm h2 := by
      have := List.perm_append_comm (l₁ := [hat h 0]) (l₂ := h2.take m)
      rw [← e5] at this
      exact this
    exact p1.trans (hr.perm.trans HPm.out))
  have FR := Lib.hid (F2.out.trans hr.fr)
  clear hr hs hd2 hl2 hpo hhm
  go_wp2_with fail
  refine HPO.out.mono ?_
  rintro e W4 ⟨rfl, v4, k4, f4⟩
  have HF : Hid (HpN base hB g11 gD n ds v W1 (fun h' => (hat h 0 :: h').Perm h) W4) := Lib.hid ⟨_, v4, k4, FR.out.trans f4, HIS.out, HPP.out⟩
  clear k4 f4
  go_wp2_with fail
  go_ret
  exact ⟨rfl, HF.out⟩
set_option maxHeartbeats 2000000 in
theorem push47 (k : HpW base hB g11 gD n ds h v W) (x : Nat) (hx : x < n) (hh : IsH (far ds) h h.length) (hn : n ≤ 100000) (hl : h.length + 1 ≤ 100000) :
    Calls Tryz.prog 47 #[.pointer (some ⟨hB, 0, none⟩), .int .i64 x] W fun e W' => e = .returned (.tuple #[]) ∧ HpN base hB g11 gD n ds v W (fun h' => h'.Perm (x :: h)) W' := by
  have hm1 : ∀ u : World, (Instr.makeInterface 65 (.pointer (some ⟨hB, 0, none⟩))).run Tryz.prog u = .ok (.iface 65 (.pointer (some ⟨hB, 0, none⟩))) u := fun _ => by kernel_rfl
  have hm2 : ∀ u : World, (Instr.makeInterface 3 (.int .i64 (x : Nat))).run Tryz.prog u = .ok (.iface 3 (.int .i64 (x : Nat))) u := fun _ => by kernel_rfl
  have HP := Lib.hid (heapPush64 k x hx hh hn hl)
  clear k hh
  unfold ifc at HP
  go_enter Tryz.func47, Tryz.ntmps47
  go_wp2_with fail
  refine HP.out.mono ?_
  rintro e W1 ⟨rfl, hf⟩
  go_wp2_with fail
  refine bodyPost_end (v := .tuple #[]) (by simp [results, Tryz.results47, go_sem]) rfl ?_
  exact ⟨rfl, hf⟩
set_option maxHeartbeats 2000000 in
theorem pop48 {m : Nat} (k : HpW base hB g11 gD n ds h v W) (hm : h.length = m + 1) (hh : IsH (far ds) h h.length) (hn : n ≤ 100000) (hl : h.length ≤ 100000) :
    Calls Tryz.prog 48 #[.pointer (some ⟨hB, 0, none⟩)] W fun e W' => e = .returned (.int .i64 (hat h 0 : Nat)) ∧ HpN base hB g11 gD n ds v W (fun h' => (hat h 0 :: h').Perm h) W' := by
  have hm1 : ∀ u : World, (Instr.makeInterface 65 (.pointer (some ⟨hB, 0, none⟩))).run Tryz.prog u = .ok (.iface 65 (.pointer (some ⟨hB, 0, none⟩))) u := fun _ => by kernel_rfl
  have HP := Lib.hid (heapPop65 k hm hh hn hl)
  clear k hh hm
  unfold ifc at HP
  generalize hat h 0 = x at HP ⊢
  have hta : ∀ u : World, (Instr.typeAssert (.iface 3 (.int .i64 (x : Nat))) 20 3 false).run Tryz.prog u = .ok (.int .i64 (x : Nat)) u := fun _ => by kernel_rfl
  go_enter Tryz.func48, Tryz.ntmps48
  go_wp2_with fail
  refine HP.out.mono ?_
  rintro e W1 ⟨rfl, hf⟩
  go_wp2_with fail
  go_ret
  exact ⟨rfl, hf⟩
end Go.Proofs.Ng
end

