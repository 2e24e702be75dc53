/-
  Texts put together: Ih Ii.
-/
import Derived.Test.YtemchlakoalhcaaZJointFree27
import Derived.Test.YtemchlakoalhcaaZJointFree26
import Derived.BigQuiet
import Derived.Test.YtemchlakoalhcaaZJointFree25
set_option linter.unusedVariables false
section
/-
  Walks of the reference's search: Shortest.
-/
namespace Go.Proofs.Jn
open Go.RowKit

theorem own_new1 (W : World) (x : Nat) : (W.alloc (.cells #[.int .i64 (x : Nat)] 3)).ownsRow W.heap.size 3 1 (.slice (some ⟨W.heap.size, 0, none⟩) 1 1) 1 [.int .i64 (x : Nat)] := by
  refine ⟨rfl, .inr ⟨W.heap.size, 1, #[.int .i64 (x : Nat)], rfl, Nat.le_refl _, ?_, Nat.le_refl _, by unfold maxLen; omega, rfl, rfl⟩⟩
  show (W.heap.push (.cells #[.int .i64 (x : Nat)] 3))[W.heap.size]? = _
  simp
theorem own_sep {W : World} {B n11 : Nat} {v u : Value} {l : List Nat} {rest : List Value} (h : W.ownsRow B 3 1 v l.length (nvals l).flatten) (hl : 0 < l.length) (r : Blk W n11 (u :: rest)) (hu : ∃ a n c, u = .slice a n c) : v.ownBlock ≠ some n11 := by
  intro hb
  obtain ⟨g, cap, cur, rfl, -⟩ := own_cur h hl
  obtain ⟨y, hy⟩ : ∃ y, l[0]? = some y := ⟨_, List.getElem?_eq_getElem hl⟩
  have h1 := own_cell h 0 y hy
  have h2 := r.c 0 _ rfl
  simp [Value.ownBlock] at hb
  subst hb
  obtain ⟨a, n, c, rfl⟩ := hu
  rw [h1] at h2
  cases h2
def nxI : Option Nat → Int
  | none => -1
  | some z => (z : Nat)
theorem nextE_app : ∀ (l : List (Option Nat)) (a : Nat) (es fs : List (Nat × Nat)) (o : Option Nat), nextE l a (es ++ fs) o = nextE l a fs (nextE l a es o)
  | _, _, [], _, _ => rfl
  | l, a, _ :: es, fs, _ => nextE_app l a es fs _
theorem nextE_skip (l : List (Option Nat)) (o : Option Nat) {a u v : Nat} (h1 : u ≠ a) (h2 : v ≠ a) : nextE l a [(u, v)] o = o := by
  have e1 : Nat.beq u a = false := by rw [← Bool.not_eq_true]; exact fun h => h1 (Nat.eq_of_beq_eq_true h)
  have e2 : Nat.beq v a = false := by rw [← Bool.not_eq_true]; exact fun h => h2 (Nat.eq_of_beq_eq_true h)
  simp [nextE, e1, e2]
def takeE (o1 o : Option Nat) (z b : Nat) : Option Nat := match o1 with
  | some p => bif Nat.beq (p + 1) b && lessO z o then some z else o
  | none => o
theorem takeE_some (p z : Nat) (o : Option Nat) : takeE (some p) o z (p + 1) = bif lessO z o then some z else o := by
  show (bif Nat.beq (p + 1) (p + 1) && lessO z o then some z else o) = _
  rw [Nat.beq_refl, Bool.true_and]
theorem lessO_lt {z y : Nat} (h : z < y) : lessO z (some y) = true := by
  unfold lessO
  rw [Nat.blt_eq]
  exact h
theorem lessO_ge {z y : Nat} (h : ¬ z < y) : lessO z (some y) = false := by
  unfold lessO
  rw [← Bool.not_eq_true, Nat.blt_eq]
  exact h
theorem nextE_take (l : List (Option Nat)) (o : Option Nat) {a u v z b : Nat} {o1 : Option Nat} (h : u = a ∨ v = a) (hz : z = u + v - a) (h1 : l[z]? = some o1) (h2 : l[a]? = some (some b)) : nextE l a [(u, v)] o = takeE o1 o z b := by
  have e : (Nat.beq u a || Nat.beq v a) = true := by
    rcases h with h | h
    · rw [h, Nat.beq_refl]; rfl
    · rw [h, Nat.beq_refl, Bool.or_true]
  show nextE l a [] (bif (Nat.beq u a || Nat.beq v a) then _ else o) = _
  rw [e, ← hz, List.getD_eq_getElem?_getD, h1, List.getD_eq_getElem?_getD, h2]
  cases o1 <;> rfl
/-- What Shortest answers. -/
def ShortP (m : Mp) (x y : Nat) (w : World) (e : Ending) (W : World) : Prop := Below w.heap.size w W ∧
  ((e = .returned (.tuple #[.agg #[.slice none 0 0, .int .i64 0], .bool false]) ∧ distM m x y = none) ∨
   ∃ (d : Nat) (ov : Option Addr) (cv : Nat), e = .returned (.tuple #[.agg #[.slice ov (d + 1) cv, .int .i64 (d : Nat)], .bool true]) ∧ distM m x y = some d)

set_option maxRecDepth 100000 in
set_option maxHeartbeats 4000000 in
theorem shortest_any (m : Mp) (x tg : Nat) (w : World) (hM : MadeM m) (hc1 : ∀ e ∈ m.es, e.c = 1) (hx : x < m.n) (ht : tg < m.n) (hE : Sl w m.oe 12 (m.es.map Ed.vals)) :
    Calls Try.prog 18 #[.agg #[.slice m.op m.n m.cp, .slice m.oe m.es.length m.ce], .int .i64 (x : Nat), .int .i64 (tg : Nat), .int .i64 0] w (ShortP m x tg w) := by
  have hn4 := hM.n4.2
  have h16 := hM.n6
  have HG := Lib.hid (good_of (made_good hM) ht)
  have hask := fun X => asked_any m x tg X hM.ok hx ht
  have HASK := Lib.hid hask
  have hlab := fun X => labels_any m tg X hM hc1 ht
  have HLAB := Lib.hid hlab
  have HM := Lib.hid hM
  have HC1 := Lib.hid hc1
  clear hM hc1 hask hlab
  go_enter Try.func18, Try.ntmps18
  go_upto_region 1 with fail
  have hbx_ := blks2 w [.slice m.op m.n m.cp, .slice m.oe m.es.length m.ce] [.slice none 0 0, .int .i64 0] 43 56
  replace hE := hE.keep hbx_.2.2
  have HB := Lib.hid (hbx_.2.2)
  have hod : w.heap.size ≤ w.heap.size ∧ w.heap.size < w.heap.size + 1 := by omega
  generalize (w.alloc (.cells #[.slice m.op m.n m.cp, .slice m.oe m.es.length m.ce] 43)).alloc (.cells #[.slice none 0 0, .int .i64 0] 56) = W0 at hbx_ hE HB ⊢
  obtain ⟨r4, r8, hbel_⟩ := hbx_
  generalize w.heap.size + 1 = n8 at r8 hod ⊢
  obtain ⟨n4, hn_⟩ : ∃ n, n = w.heap.size := ⟨_, rfl⟩
  rw [← hn_] at r4 ⊢
  replace hod := And.intro (Nat.le_of_eq hn_.symm) (hn_ ▸ hod.2)
  clear hn_ hbel_
  have HE := Lib.hid hE
  have a0 : W0.cell? ⟨n4, 0, none⟩ = some (.slice m.op m.n m.cp) := r4.c 0 _ rfl
  have a1 : W0.cell? ⟨n4, 1, none⟩ = some (.slice m.oe m.es.length m.ce) := r4.c 1 _ rfl
  have l4 := r4.lt
  have HR4 := Lib.hid r4
  have HR8 := Lib.hid r8
  clear hE r4 r8
  go_wp2_with fail
  with_reducible refine (HASK.out _ HE.out).mono ?_
  rintro e W1 ⟨rfl, hb⟩
  have HB1 := Lib.hid hb
  have r4 := HR4.out.keep hb
  clear a0 a1 l4 hb
  have a0 : W1.cell? ⟨n4, 0, none⟩ = some (.slice m.op m.n m.cp) := r4.c 0 _ rfl
  have a1 : W1.cell? ⟨n4, 1, none⟩ = some (.slice m.oe m.es.length m.ce) := r4.c 1 _ rfl
  have l4 := r4.lt
  clear r4
  go_wp2_with fail
  with_reducible refine (HLAB.out _ (HE.out.keep HB1.out)).mono ?_
  rintro e W2 ⟨g, rfl, hL, hg, hb⟩
  have HB2 := Lib.hid (below_call HB1.out hb)
  have HL := Lib.hid hL
  obtain ⟨o1, ho1⟩ : ∃ o, (finL m.n (pairsM m) tg)[x]? = some o := ⟨_, List.getElem?_eq_getElem (by rw [HG.out.len]; exact hx)⟩
  have HO1 := Lib.hid ho1
  have hdx : distM m x tg = o1 := by unfold distM; rw [List.getD_eq_getElem?_getD, ho1]; rfl
  have HDX := Lib.hid hdx
  have c0 := hL.c (x * 2) _ (encL_get ho1).1
  have lg := hL.lt
  have i1 : (x : Int) < (m.n : Int) := by omega
  clear a0 a1 l4 hb hL ho1 hdx HASK HLAB
  cases o1 with
  | none =>
    have r8 := HR8.out.keep HB2.out
    have b0 : W2.cell? ⟨n8, 0, none⟩ = some (.slice none 0 0) := r8.c 0 _ rfl
    have b1 : W2.cell? ⟨n8, 1, none⟩ = some (.int .i64 0) := r8.c 1 _ rfl
    have f0 := r8.f 0
    have f1 := r8.f 1
    have l8 := r8.lt
    have c0' : W2.cell? ⟨g, x * 2, none⟩ = some (.int .i64 (-1)) := c0
    have HEND : Hid (Below w.heap.size w ((W2.setCell ⟨n8, 0, none⟩ (.slice none 0 0)).setCell ⟨n8, 1, none⟩ (.int .i64 0))) := Lib.hid (((below_call HB.out HB2.out).setCell (p := ⟨n8, 0, none⟩) (by show w.heap.size ≤ n8; omega) _).setCell (p := ⟨n8, 1, none⟩) (by show w.heap.size ≤ n8; omega) _)
    clear r8 c0
    go_wp2_with fail
    refine bodyPost_ret (v := .tuple #[.agg #[.slice none 0 0, .int .i64 0], .bool false]) (by simp [results, Try.results18, go_sem, b0, b1]) rfl ?_
    exact ⟨HEND.out, .inl ⟨rfl, HDX.out⟩⟩
  | some d =>
    have c0' : W2.cell? ⟨g, x * 2, none⟩ = some (.int .i64 (d : Nat)) := c0
    have d1 : decide ((d : Int) < 0) = false := decide_eq_false (by omega)
    clear c0
    go_upto_region 7 with fail
    clear c0' d1 lg i1
    have hbA : Below W2.heap.size W2 ((W2.alloc (.cells #[.int .i64 (x : Nat)] 3)).alloc (.cells #[.slice (some ⟨W2.heap.size, 0, none⟩) 1 1, .int .i64 (d : Nat)] 56)) := ((Below.refl _ _).alloc (Nat.le_refl _) _).alloc (by simp) _
    have hO : ((W2.alloc (.cells #[.int .i64 (x : Nat)] 3)).alloc (.cells #[.slice (some ⟨W2.heap.size, 0, none⟩) 1 1, .int .i64 (d : Nat)] 56)).ownsRow W2.heap.size 3 1 (.slice (some ⟨W2.heap.size, 0, none⟩) 1 1) [x].length (nvals [x]).flatten := own_keep (own_new1 W2 x) ((Below.refl _ _).alloc (Nat.le_refl _) _)
    have r11 : Blk ((W2.alloc (.cells #[.int .i64 (x : Nat)] 3)).alloc (.cells #[.slice (some ⟨W2.heap.size, 0, none⟩) 1 1, .int .i64 (d : Nat)] 56)) (W2.heap.size + 1) [.slice (some ⟨W2.heap.size, 0, none⟩) 1 1, .int .i64 (d : Nat)] := by
      have := Blk.new (W2.alloc (.cells #[.int .i64 (x : Nat)] 3)) [.slice (some ⟨W2.heap.size, 0, none⟩) 1 1, .int .i64 (d : Nat)] 56
      have e : (W2.alloc (.cells #[.int .i64 (x : Nat)] 3)).heap.size = W2.heap.size + 1 := by simp
      rw [e] at this
      exact this
    have hnb : (Value.slice (some ⟨W2.heap.size, 0, none⟩) 1 1).ownBlock ≠ some (W2.heap.size + 1) := by
      intro h
      simp [Value.ownBlock] at h
    generalize (W2.alloc (.cells #[.int .i64 (x : Nat)] 3)).alloc (.cells #[.slice (some ⟨W2.heap.size, 0, none⟩) 1 1, .int .i64 (d : Nat)] 56) = W3 at hbA hO r11 ⊢
    obtain ⟨B, hB⟩ : ∃ B, B = W2.heap.size := ⟨_, rfl⟩
    rw [← hB] at hO r11 hnb ⊢
    generalize Value.slice (some ⟨B, 0, none⟩) 1 1 = u0 at hO r11 hnb
    obtain ⟨n11, hn11⟩ : ∃ n, n = B + 1 := ⟨_, rfl⟩
    rw [← hn11] at r11 hnb ⊢
    have HBe := Lib.hid hB
    have HBA := Lib.hid hbA
    have HOw := Lib.hid hO
    have HR11 := Lib.hid r11
    have HNB := Lib.hid hnb
    have hB11 : B ≤ n11 := by omega
    clear hn11 hB hbA hO r11 hnb
    go_wp2_with fail
    go_loopg [12] d (fun gk v W => ∃ (a : Nat) (vs : List Nat) (u : Value), v = .int .i64 (a : Nat) ∧ a < m.n ∧ (finL m.n (pairsM m) tg)[a]? = some (some gk) ∧ vs.length + gk = d + 1 ∧ W.ownsRow B 3 1 u vs.length (nvals vs).flatten ∧ Blk W n11 [u, .int .i64 (d : Nat)] ∧ u.ownBlock ≠ some n11 ∧ Below W2.heap.size W2 W)
    case atStart => exact ⟨x, [x], u0, rfl, hx, HO1.out, by simp; omega, HOw.out, HR11.out, HNB.out, HBA.out⟩
    case round =>
      clear HOw HR11 HNB HBA HO1
      obtain ⟨a, vs, u, rfl, han, hfa, hvl, hO, r11, hnb, hW⟩ := hrel
      obtain ⟨Wa, rfl⟩ : ∃ X, X = wr := ⟨_, rfl⟩
      have HFA := Lib.hid hfa
      have HVL := Lib.hid hvl
      have HOW := Lib.hid hO
      have HR11 := Lib.hid r11
      have HNB := Lib.hid hnb
      have HW := Lib.hid hW
      clear hvl hO hnb hW
      by_cases hat : a = tg
      · have hg0 : gk = 0 := by
          cases gk with
          | zero => rfl
          | succ c => exact absurd hat (HG.out.step a c han (by rw [List.getD_eq_getElem?_getD, hfa]; rfl)).2.1
        have e0 : ((a : Int) != (tg : Int)) = false := by simp; omega
        have HG0 := Lib.hid hg0
        obtain ⟨oa, ca, hu⟩ := own_slice HOW.out
        have hvd : vs.length = d + 1 := by have := HVL.out; omega
        rw [hvd] at hu
        subst hu
        have r8 := (HR8.out.keep HB2.out).keep HW.out
        have b0 : Wa.cell? ⟨n8, 0, none⟩ = some (.slice none 0 0) := r8.c 0 _ rfl
        have b1 : Wa.cell? ⟨n8, 1, none⟩ = some (.int .i64 0) := r8.c 1 _ rfl
        have c0 : Wa.cell? ⟨n11, 0, none⟩ = some (.slice oa (d + 1) ca) := r11.c 0 _ rfl
        have c1 : Wa.cell? ⟨n11, 1, none⟩ = some (.int .i64 (d : Nat)) := r11.c 1 _ rfl
        have f0 := r8.f 0
        have f1 := r8.f 1
        have l8 := r8.lt
        have l11 := r11.lt
        have HEND : Hid (Below w.heap.size w ((Wa.setCell ⟨n8, 0, none⟩ (.slice oa (d + 1) ca)).setCell ⟨n8, 1, none⟩ (.int .i64 (d : Nat)))) := Lib.hid (((below_call HB.out (below_call HB2.out HW.out)).setCell (p := ⟨n8, 0, none⟩) (by show w.heap.size ≤ n8; omega) _).setCell (p := ⟨n8, 1, none⟩) (by show w.heap.size ≤ n8; omega) _)
        clear r8 r11 hfa hat hg0 hvd
        go_wp2_with fail
        refine bodyPost_ret (v := .tuple #[.agg #[.slice oa (d + 1) ca, .int .i64 (d : Nat)], .bool true]) (by simp [results, Try.results18, go_sem, b0, b1]) rfl ?_
        exact ⟨HEND.out, .inr ⟨d, oa, ca, rfl, HDX.out⟩⟩
      · have e0 : ((a : Int) != (tg : Int)) = true := by simp; omega
        obtain ⟨c, rfl⟩ : ∃ c, gk = c + 1 := by
          cases gk with
          | zero => exact absurd (HG.out.zero a han (by rw [List.getD_eq_getElem?_getD, hfa]; rfl)) hat
          | succ c => exact ⟨c, rfl⟩
        obtain ⟨hc3, -, y, hny, hyn, hfy⟩ := HG.out.step a c han (by rw [List.getD_eq_getElem?_getD, hfa]; rfl)
        have HNY := Lib.hid hny
        have HFY := Lib.hid hfy
        clear r11 hfa hat hny hfy
        go_upto_region 10 with fail
        clear e0
        go_wp2_with fail
        go_loopw [13, 14] (fun nx i W => ∃ (k : Nat) (o : Option Nat), i = .int .i64 (k : Nat) ∧ k ≤ m.es.length ∧ nx = .int .i64 (nxI o) ∧ nextE (finL m.n (pairsM m) tg) a ((pairsM m).take k) none = o ∧ (∀ z, o = some z → z < m.n) ∧ Below Wa.heap.size Wa W) (fun _ i _ => m.es.length - (intOf i).toNat)
        case atStart => exact ⟨0, none, rfl, Nat.zero_le _, rfl, rfl, fun z h => (by cases h), Below.refl _ _⟩
        case round =>
          obtain ⟨k, o, rfl, hk, rfl, hno, hoz, hV⟩ := hrel
          obtain ⟨Wb, rfl⟩ : ∃ X, X = wr := ⟨_, rfl⟩
          have HNO := Lib.hid hno
          have HOZ := Lib.hid hoz
          have HV := Lib.hid hV
          have hVW := below_call HW.out hV
          have HVW := Lib.hid (below_call HB2.out hVW)
          have r4 := HR4.out.keep HVW.out
          have a0 : Wb.cell? ⟨n4, 0, none⟩ = some (.slice m.op m.n m.cp) := r4.c 0 _ rfl
          have a1 : Wb.cell? ⟨n4, 1, none⟩ = some (.slice m.oe m.es.length m.ce) := r4.c 1 _ rfl
          have l4 := r4.lt
          clear hno hoz hV hVW r4
          by_cases hlt : k < m.es.length
          · obtain ⟨e, he⟩ : ∃ e, m.es[k]? = some e := ⟨_, List.getElem?_eq_getElem hlt⟩
            have hEW : Sl Wb m.oe 12 (m.es.map Ed.vals) := HE.out.keep HVW.out
            obtain ⟨be, offe, hoe, hEr⟩ := hEW (map_ne hlt)
            rw [hoe] at a1
            have x0 : Wb.cell? ⟨be, offe + k * 12, none⟩ = some (.int .i64 (e.u : Nat)) := hEr.c k _ (map_get he) 0 _ rfl
            have x1 : Wb.cell? ⟨be, offe + k * 12 + 1, none⟩ = some (.int .i64 (e.v : Nat)) := hEr.c k _ (map_get he) 1 _ rfl
            have x2 : Wb.cell? ⟨be, offe + k * 12 + 2, none⟩ = some (.int .i64 e.c) := hEr.c k _ (map_get he) 2 _ rfl
            have x3 : Wb.cell? ⟨be, offe + k * 12 + 3, none⟩ = some (.int .i64 e.st) := hEr.c k _ (map_get he) 3 _ rfl
            have x4 : Wb.cell? ⟨be, offe + k * 12 + 4, none⟩ = some (.int .i64 e.k0) := hEr.c k _ (map_get he) 4 _ rfl
            have x5 : Wb.cell? ⟨be, offe + k * 12 + 5, none⟩ = some (.slice e.s1.a e.s1.n e.s1.c) := hEr.c k _ (map_get he) 5 _ rfl
            have x6 : Wb.cell? ⟨be, offe + k * 12 + 6, none⟩ = some (.int .i64 e.k2) := hEr.c k _ (map_get he) 6 _ rfl
            have x7 : Wb.cell? ⟨be, offe + k * 12 + 7, none⟩ = some (.int .i64 e.k3) := hEr.c k _ (map_get he) 7 _ rfl
            have x8 : Wb.cell? ⟨be, offe + k * 12 + 8, none⟩ = some (.slice e.s4.a e.s4.n e.s4.c) := hEr.c k _ (map_get he) 8 _ rfl
            have x9 : Wb.cell? ⟨be, offe + k * 12 + 9, none⟩ = some (.int .i64 e.k5) := hEr.c k _ (map_get he) 9 _ rfl
            have x10 : Wb.cell? ⟨be, offe + k * 12 + 10, none⟩ = some (.slice e.s6.a e.s6.n e.s6.c) := hEr.c k _ (map_get he) 10 _ rfl
            have x11 : Wb.cell? ⟨be, offe + k * 12 + 11, none⟩ = some (.slice e.s7.a e.s7.n e.s7.c) := hEr.c k _ (map_get he) 11 _ rfl
            have lbe := hEr.lt
            have hed := HM.out.ok.ed e (List.mem_of_getElem? he)
            have HST := Lib.hid (HM.out.st e (List.mem_of_getElem? he))
            have HEC := Lib.hid (HC1.out e (List.mem_of_getElem? he))
            have HEk := Lib.hid he
            clear hEr he hEW
            go_upto_region 14 with fail
            clear x0 x1 x2 x3 x4 x5 x6 x7 x8 x9 x10 x11 lbe a0 a1 l4 hoe
            have hbx_ := blks1 Wb [.int .i64 (e.u : Nat), .int .i64 (e.v : Nat), .int .i64 e.c, .int .i64 e.st, .int .i64 e.k0, .slice e.s1.a e.s1.n e.s1.c, .int .i64 e.k2, .int .i64 e.k3, .slice e.s4.a e.s4.n e.s4.c, .int .i64 e.k5, .slice e.s6.a e.s6.n e.s6.c, .slice e.s7.a e.s7.n e.s7.c] 54
            have HVc := Lib.hid (below_call HV.out (hbx_.2))
            generalize Wb.alloc (.cells #[.int .i64 (e.u : Nat), .int .i64 (e.v : Nat), .int .i64 e.c, .int .i64 e.st, .int .i64 e.k0, .slice e.s1.a e.s1.n e.s1.c, .int .i64 e.k2, .int .i64 e.k3, .slice e.s4.a e.s4.n e.s4.c, .int .i64 e.k5, .slice e.s6.a e.s6.n e.s6.c, .slice e.s7.a e.s7.n e.s7.c] 54) = Wc at hbx_ HVc ⊢
            obtain ⟨r15, hbel_⟩ := hbx_
            obtain ⟨n15, hn_⟩ : ∃ n, n = Wb.heap.size := ⟨_, rfl⟩
            rw [← hn_] at r15 ⊢
            clear hn_ hbel_
            have hus := fun X => usableIn_any e X HST.out
            have HUS := Lib.hid hus
            have y0 : Wc.cell? ⟨n15, 0, none⟩ = some (.int .i64 (e.u : Nat)) := r15.c 0 _ rfl
            have y1 : Wc.cell? ⟨n15, 1, none⟩ = some (.int .i64 (e.v : Nat)) := r15.c 1 _ rfl
            have y2 : Wc.cell? ⟨n15, 2, none⟩ = some (.int .i64 e.c) := r15.c 2 _ rfl
            have y3 : Wc.cell? ⟨n15, 3, none⟩ = some (.int .i64 e.st) := r15.c 3 _ rfl
            have y4 : Wc.cell? ⟨n15, 4, none⟩ = some (.int .i64 e.k0) := r15.c 4 _ rfl
            have y5 : Wc.cell? ⟨n15, 5, none⟩ = some (.slice e.s1.a e.s1.n e.s1.c) := r15.c 5 _ rfl
            have y6 : Wc.cell? ⟨n15, 6, none⟩ = some (.int .i64 e.k2) := r15.c 6 _ rfl
            have y7 : Wc.cell? ⟨n15, 7, none⟩ = some (.int .i64 e.k3) := r15.c 7 _ rfl
            have y8 : Wc.cell? ⟨n15, 8, none⟩ = some (.slice e.s4.a e.s4.n e.s4.c) := r15.c 8 _ rfl
            have y9 : Wc.cell? ⟨n15, 9, none⟩ = some (.int .i64 e.k5) := r15.c 9 _ rfl
            have y10 : Wc.cell? ⟨n15, 10, none⟩ = some (.slice e.s6.a e.s6.n e.s6.c) := r15.c 10 _ rfl
            have y11 : Wc.cell? ⟨n15, 11, none⟩ = some (.slice e.s7.a e.s7.n e.s7.c) := r15.c 11 _ rfl
            have l15 := r15.lt
            have HR15 := Lib.hid r15
            clear hus r15
            have hstep : nextE (finL m.n (pairsM m) tg) a ((pairsM m).take (k + 1)) none = nextE (finL m.n (pairsM m) tg) a [(e.u, e.v)] o := by rw [pairs_take HEk.out, nextE_app, HNO.out]
            have HSTEP := Lib.hid hstep
            clear hstep HNO
            go_cut [81] (fun v81 X => ∃ b : Bool, v81 = .bool b ∧ (b = true → e.u ≠ a ∧ e.v ≠ a) ∧ (b = false → e.u = a ∨ e.v = a) ∧ Below Wc.heap.size Wc X)
            case first =>
              go_wp2_with fail
              with_reducible refine (HUS.out _).mono ?_
              rintro e' Wd ⟨rfl, hb⟩
              have r15 := HR15.out.keep hb
              have HBd := Lib.hid hb
              have HVd := Lib.hid (below_call HVc.out hb)
              clear y0 y1 y2 y3 y4 y5 y6 y7 y8 y9 y10 y11 l15 hb HUS HR15
              have y0 : Wd.cell? ⟨n15, 0, none⟩ = some (.int .i64 (e.u : Nat)) := r15.c 0 _ rfl
              have y1 : Wd.cell? ⟨n15, 1, none⟩ = some (.int .i64 (e.v : Nat)) := r15.c 1 _ rfl
              have l15 := r15.lt
              clear r15
              by_cases hua : e.u = a
              · have q1 : ((e.u : Int) != (a : Int)) = false := by simp; omega
                have HUA := Lib.hid hua
                clear hua
                go_wp2_with fail
                go_meet
                exact ⟨false, rfl, (fun h => by cases h), fun _ => .inl HUA.out, HBd.out⟩
              · have q1 : ((e.u : Int) != (a : Int)) = true := by simp; omega
                by_cases hva : e.v = a
                · have q2 : ((e.v : Int) != (a : Int)) = false := by simp; omega
                  have HVA := Lib.hid hva
                  clear hva hua
                  go_wp2_with fail
                  go_meet
                  exact ⟨false, rfl, (fun h => by cases h), fun _ => .inr HVA.out, HBd.out⟩
                · have q2 : ((e.v : Int) != (a : Int)) = true := by simp; omega
                  have HNO2 : Hid (e.u ≠ a ∧ e.v ≠ a) := Lib.hid ⟨hua, hva⟩
                  clear hua hva
                  go_wp2_with fail
                  go_meet
                  exact ⟨true, rfl, fun _ => HNO2.out, (fun h => by cases h), HBd.out⟩
            case rest =>
              obtain ⟨b, rfl, hb1, hb2, hb⟩ := hcut
              obtain ⟨Wd, rfl⟩ : ∃ X, X = wc := ⟨_, rfl⟩
              have r15 := HR15.out.keep hb
              have HVd := Lib.hid (below_call HVc.out hb)
              clear y0 y1 y2 y3 y4 y5 y6 y7 y8 y9 y10 y11 l15 hb HUS HR15
              cases b with
              | true =>
                have HSK := Lib.hid (nextE_skip (finL m.n (pairsM m) tg) o (hb1 rfl).1 (hb1 rfl).2)
                clear hb1 hb2 r15
                go_wp2_with fail
                go_roundw
                case rel => exact ⟨k + 1, o, by simp, by omega, rfl, by rw [HSTEP.out, HSK.out], HOZ.out, HVd.out⟩
                case measure => simp [intOf]; omega
              | false =>
                have hor := hb2 rfl
                clear hb1 hb2
                have y0 : Wd.cell? ⟨n15, 0, none⟩ = some (.int .i64 (e.u : Nat)) := r15.c 0 _ rfl
                have y1 : Wd.cell? ⟨n15, 1, none⟩ = some (.int .i64 (e.v : Nat)) := r15.c 1 _ rfl
                have y2 : Wd.cell? ⟨n15, 2, none⟩ = some (.int .i64 1) := by rw [← HEC.out]; exact r15.c 2 _ rfl
                have l15 := r15.lt
                clear r15
                obtain ⟨z, hz⟩ : ∃ z, z = e.u + e.v - a := ⟨_, rfl⟩
                have hzn : z < m.n := by omega
                have hw1 : IntKind.i64.wrap ((e.u : Int) + (e.v : Int)) = (e.u : Int) + (e.v : Int) := IntWalk.i64_in _ (by omega)
                have hw2 : IntKind.i64.wrap ((e.u : Int) + (e.v : Int) - (a : Int)) = (z : Int) := by rw [IntWalk.i64_in _ (by omega)]; omega
                obtain ⟨o1, ho1⟩ : ∃ o, (finL m.n (pairsM m) tg)[z]? = some o := ⟨_, List.getElem?_eq_getElem (by rw [HG.out.len]; exact hzn)⟩
                have HTK := Lib.hid (nextE_take (finL m.n (pairsM m) tg) o hor hz ho1 HFA.out)
                have HO1 := Lib.hid ho1
                clear hz ho1 hor
                go_upto_region 16 with fail
                clear y0 y1 hw1 hw2 hed
                have hLd := HL.out.keep (below_call HW.out HVd.out)
                have h0 : Wd.cell? ⟨g, a * 2, none⟩ = some (.int .i64 ((c : Int) + 1)) := hLd.c _ _ (encL_get HFA.out).1
                have h1 : Wd.cell? ⟨g, a * 2 + 1, none⟩ = some (.int .i64 ((c : Int) + 1)) := hLd.c _ _ (encL_get HFA.out).2
                have hg0 := hLd.c _ _ (encL_get HO1.out).1
                have hg1 := hLd.c _ _ (encL_get HO1.out).2
                have lg := hLd.lt
                have i1 : (z : Int) < (m.n : Int) := by omega
                have i2 : (a : Int) < (m.n : Int) := by omega
                clear hLd
                cases o1 with
                | none =>
                  have g0 : Wd.cell? ⟨g, z * 2, none⟩ = some (.int .i64 (-1)) := hg0
                  clear hg0 hg1
                  go_quiet (fail)
                  go_wp2
                  go_roundw
                  case rel => exact ⟨k + 1, o, by simp, by omega, rfl, by rw [HSTEP.out, HTK.out]; rfl, HOZ.out, below_call HVd.out (below_drew Wd nq)⟩
                  case measure => simp [intOf]; omega
                | some p =>
                  have g0 : Wd.cell? ⟨g, z * 2, none⟩ = some (.int .i64 (p : Nat)) := hg0
                  have g1 : Wd.cell? ⟨g, z * 2 + 1, none⟩ = some (.int .i64 (p : Nat)) := hg1
                  have d1 : decide ((p : Int) ≥ 0) = true := decide_eq_true (by omega)
                  have hpb : p < 10 := by
                    cases p with
                    | zero => omega
                    | succ q => have := (HG.out.step z q hzn (by rw [List.getD_eq_getElem?_getD, HO1.out]; rfl)).1; omega
                  clear hg0 hg1
                  by_cases hpc : p = c
                  · subst hpc
                    have hw3 : IntKind.i64.wrap ((p : Int) + 1) = (p : Int) + 1 := IntWalk.i64_in _ (by omega)
                    cases o with
                    | none =>
                      have HTK2 : Hid (_ = some z) := Lib.hid (HTK.out.trans (takeE_some p z none))
                      have d2 : decide (nxI none < 0) = true := rfl
                      go_quiet (fail)
                      go_wp2
                      go_roundw
                      case rel => exact ⟨k + 1, some z, by simp, by omega, rfl, by rw [HSTEP.out, HTK2.out], (fun z' h => by injection h with h; omega), below_call HVd.out (below_drew Wd nq)⟩
                      case measure => simp [intOf]; omega
                    | some zz =>
                      have d2 : decide (nxI (some zz) < 0) = false := decide_eq_false (by show ¬ ((zz : Nat) : Int) < 0; omega)
                      by_cases hzz : z < zz
                      · have d3 : decide ((z : Int) < nxI (some zz)) = true := decide_eq_true (by show (z : Int) < ((zz : Nat) : Int); omega)
                        have HTK2 : Hid (_ = some z) := Lib.hid (HTK.out.trans (by rw [takeE_some, lessO_lt hzz]; rfl))
                        go_quiet (fail)
                        go_wp2
                        go_roundw
                        case rel => exact ⟨k + 1, some z, by simp, by omega, rfl, by rw [HSTEP.out, HTK2.out], (fun z' h => by injection h with h; omega), below_call HVd.out (below_drew Wd nq)⟩
                        case measure => simp [intOf]; omega
                      · have d3 : decide ((z : Int) < nxI (some zz)) = false := decide_eq_false (by show ¬ (z : Int) < ((zz : Nat) : Int); omega)
                        have HTK2 : Hid (_ = some zz) := Lib.hid (HTK.out.trans (by rw [takeE_some, lessO_ge hzz]; rfl))
                        go_quiet (fail)
                        go_wp2
                        go_roundw
                        case rel => exact ⟨k + 1, some zz, by simp, by omega, rfl, by rw [HSTEP.out, HTK2.out], HOZ.out, below_call HVd.out (below_drew Wd nq)⟩
                        case measure => simp [intOf]; omega
                  · have hw3 : IntKind.i64.wrap ((p : Int) + 1) = (p : Int) + 1 := IntWalk.i64_in _ (by omega)
                    have HTK2 : Hid (_ = o) := Lib.hid (HTK.out.trans (by have : Nat.beq (p + 1) (c + 1) = false := by rw [← Bool.not_eq_true]; intro h; exact hpc (by have := Nat.eq_of_beq_eq_true h; omega)
                                                                          simp only [takeE, this, Bool.false_and, cond_false]))
                    have e5 : ((p : Int) + 1 == (c : Int) + 1) = false := by simp; omega
                    have e6 : ((p : Int) == (c : Int)) = false := by simp; omega
                    have e7 : (p == c) = false := by simp; omega
                    have e8 : decide (p = c) = false := decide_eq_false hpc
                    go_quiet (fail)
                    go_wp2
                    go_roundw
                    case rel => exact ⟨k + 1, o, by simp, by omega, rfl, by rw [HSTEP.out, HTK2.out], HOZ.out, below_call HVd.out (below_drew Wd nq)⟩
                    case measure => simp [intOf]; omega
          · have hkl : k = m.es.length := by omega
            have ho : o = some y := by
              have := HNO.out
              rw [hkl, List.take_of_length_le (by simp [pairsM]), HNY.out] at this
              exact this.symm
            subst ho
            have hxI : nxI (some y) = ((y : Nat) : Int) := rfl
            rw [hxI]
            have r11 := HR11.out.keep HV.out
            have hO4 := own_keep HOW.out HV.out
            have hsz : B ≤ Wb.heap.size := by have := (below_call HW.out HV.out).size; rw [HBe.out]; exact this
            have HHW := Lib.hid (below_call HW.out HV.out)
            have hvl := HVL.out
            have hd4 : d < 10 := by
              cases d with
              | zero => omega
              | succ q => have := (HG.out.step x q hx HDX.out).1; omega
            obtain ⟨oa, ca, hu⟩ := own_slice HOW.out
            have HU := Lib.hid hu
            have hfy2 : (finL m.n (pairsM m) tg)[y]? = some (some c) := by
              have h1 := HFY.out
              rw [List.getD_eq_getElem?_getD] at h1
              obtain ⟨r, hr⟩ : ∃ r, (finL m.n (pairsM m) tg)[y]? = some r := ⟨_, List.getElem?_eq_getElem (by rw [HG.out.len]; exact hyn)⟩
              rw [hr] at h1 ⊢
              exact congrArg some h1
            have HFY2 := Lib.hid hfy2
            clear hfy2
            clear hu hxI HVW HV HNO HOZ HNY HOW HR11
            go_upto_region 19 with fail
            clear a0 a1 l4
            obtain ⟨i0, hi, hz0, hz1, hz2⟩ := info_parts info3
            have x0 := r11.c 0 _ rfl
            have f0 := r11.f 0
            have l11 := r11.lt
            have HO4 := Lib.hid (own_keep hO4 (W' := Wb.alloc (.cells #[.int .i64 (y : Nat)] 3)) ((Below.refl _ _).alloc (Nat.le_refl _) _))
            have HR4b := Lib.hid (r11.keep (W' := Wb.alloc (.cells #[.int .i64 (y : Nat)] 3)) ((Below.refl _ _).alloc (Nat.le_refl _) _))
            have HHA : Hid (Below W2.heap.size W2 (Wb.alloc (.cells #[.int .i64 (y : Nat)] 3))) := Lib.hid (HHW.out.alloc HHW.out.size _)
            have HSZ := Lib.hid hsz
            clear hO4 r11 hsz HHW
            go_wp2_with (at_builtin; refine wpList_append_own _ rfl _ _ 22 rfl B 3 i0 (.int .i64 0) 1 8 under22 hi hz0 hz1 hz2 rfl (by decide) _ _ _ rfl HO4.out ⟨Wb.heap.size, 0, none⟩ 1 1 [.int .i64 (y : Nat)] rfl rfl ?c1 ?c2 ?c3 ?c4 ?c5 ?_)
            case c1 => exact new_cells _ _ _
            case c2 => intro u hu; simp at hu; subst hu; rfl
            case c3 => unfold maxLen; omega
            case c4 => omega
            case c5 => have := HSZ.out; simp; omega
            intro v' w' hown' hgrow _
            have hblk := HR4b.out.keepN (hgrow.block n11 HR4b.out.lt (fun e => HNB.out e.symm)) hgrow.size
            have hHW2 : Below W2.heap.size W2 w' := HHA.out.trans (by have := grown_below HO4.out hgrow (by have := HSZ.out; simp; omega); rw [HBe.out] at this; exact this)
            rw [← nflat_snoc] at hown'
            obtain ⟨ov, cv, rfl⟩ := own_slice hown'
            have hown2 : w'.ownsRow B 3 1 (.slice ov (vs.length + 1) cv) (vs ++ [y]).length (nvals (vs ++ [y])).flatten := by rw [List.length_append]; exact hown'
            have hsep := own_sep hown2 (by simp) hblk ⟨_, _, _, HU.out⟩
            have b0 := hblk.c 0 _ rfl
            have g0 := hblk.f 0
            have k11 := hblk.lt
            have HBL := Lib.hid hblk
            have HHW2 := Lib.hid hHW2
            have HOW2 := Lib.hid hown2
            have HSEP := Lib.hid hsep
            clear hown' hgrow HO4 hi hz0 hz1 hz2 hblk hHW2 hown2 hsep x0 f0 l11
            go_wp2_with fail
            go_roundg c
            case rel =>
              refine ⟨y, vs ++ [y], _, rfl, hyn, HFY2.out, by rw [List.length_append]; show vs.length + 1 + c = d + 1; omega, ?_, HBL.out.put 0 _, HSEP.out, HHW2.out.setCell (p := ⟨n11, 0, none⟩) (by show W2.heap.size ≤ n11; rw [← HBe.out]; exact hB11) _⟩
              exact own_blk HOW2.out fun b hb _ _ => Below.heap_setCell w' ⟨n11, 0, none⟩ _ b fun e => HSEP.out (by rw [hb]; have : b = n11 := e; rw [this])
            case measure => omega
end Go.Proofs.Jn
end

section
/-
  Edges whose costs are being set to one; the plain law of arms without conflicts.
-/
namespace Go.Proofs.Jn
open Go.RowKit

def c1E (e : Ed) : Ed := { e with c := 1 }
def costM (m : Mp) : Mp := { m with es := m.es.map c1E }
/-- The team whose first k arms' costs are one, without conflicts. -/
def costT (T : Tm) (k : Nat) : Tm := ⟨T.ms.mapIdx fun j m => if j < k then costM m else m, []⟩
theorem costT_len (T : Tm) (k : Nat) : (costT T k).ms.length = T.ms.length := by simp [costT]
theorem costT_get {T : Tm} {k j : Nat} {m : Mp} (h : T.ms[j]? = some m) : (costT T k).ms[j]? = some (if j < k then costM m else m) := by
  simp [costT, h]
theorem costT_mem {T : Tm} {k : Nat} {m' : Mp} (h : m' ∈ (costT T k).ms) : ∃ (j : Nat) (m : Mp), T.ms[j]? = some m ∧ m' = if j < k then costM m else m := by
  obtain ⟨j, hj⟩ := List.mem_iff_getElem?.1 h
  simp only [costT, List.getElem?_mapIdx, Option.map_eq_some_iff] at hj
  obtain ⟨m, hm, e⟩ := hj
  exact ⟨j, m, hm, e.symm⟩
theorem costM_pairs (m : Mp) : pairsM (costM m) = pairsM m := by simp [pairsM, costM, c1E, List.map_map]
theorem costM_dist (m : Mp) (x y : Nat) : distM (costM m) x y = distM m x y := by unfold distM; rw [costM_pairs]; rfl
theorem costM_mapOk {m : Mp} (h : MapOk m) : MapOk (costM m) := by
  refine ⟨h.n1, h.n2, by simpa [costM] using h.len, fun e he => ?_, fun k e f h1 h2 => ?_⟩
  · obtain ⟨e0, he0, rfl⟩ := List.mem_map.1 he
    have := h.ed e0 he0
    exact ⟨this.1, this.2.1, by show (0 : Int) ≤ 1; omega, by show (1 : Int) ≤ 1099511627776; omega⟩
  · simp only [costM, List.getElem?_map, Option.map_eq_some_iff] at h1 h2
    obtain ⟨a, ha, rfl⟩ := h1
    obtain ⟨b, hb, rfl⟩ := h2
    exact h.asc k a b ha hb
theorem costM_made {m : Mp} (h : MadeM m) : MadeM (costM m) := by
  refine ⟨costM_mapOk h.ok, h.n4, fun e he => ?_, by simpa [costM] using h.n6⟩
  obtain ⟨e0, he0, rfl⟩ := List.mem_map.1 he
  exact h.st e0 he0
theorem costM_one (m : Mp) : ∀ e ∈ (costM m).es, e.c = 1 := by
  intro e he
  obtain ⟨e0, _, rfl⟩ := List.mem_map.1 he
  rfl
theorem costT_ok {T : Tm} (h : TeamOk T) (k : Nat) : TeamOk (costT T k) := by
  refine ⟨by rw [costT_len]; exact h.n1, by rw [costT_len]; exact h.n2, fun m' hm' => ?_, by simp [costT], by simp [costT]⟩
  obtain ⟨j, m, hm, rfl⟩ := costT_mem hm'
  split
  · exact costM_mapOk (h.mo m (List.mem_of_getElem? hm))
  · exact h.mo m (List.mem_of_getElem? hm)
theorem costT_made {T : Tm} (h : ∀ m ∈ T.ms, MadeM m) (k : Nat) : ∀ m ∈ (costT T k).ms, MadeM m := by
  intro m' hm'
  obtain ⟨j, m, hm, rfl⟩ := costT_mem hm'
  split
  · exact costM_made (h m (List.mem_of_getElem? hm))
  · exact h m (List.mem_of_getElem? hm)
theorem costT_inr {T : Tm} {ps : List Nat} (h : InR T ps) (k : Nat) : InR (costT T k) ps := by
  refine ⟨by rw [costT_len]; exact h.1, fun j x m' hx hm' => ?_⟩
  have hj : j < T.ms.length := by
    have := (List.getElem?_eq_some_iff.1 hm').1
    rwa [costT_len] at this
  obtain ⟨m, hm⟩ : ∃ m, T.ms[j]? = some m := ⟨_, List.getElem?_eq_getElem hj⟩
  rw [costT_get hm] at hm'
  injection hm' with hm'
  have := h.2 j x m hx hm
  rw [← hm']
  split <;> exact this
/-- Without conflicts: everybody arrives in n ticks exactly if each arm's label is at most n. -/
theorem free_reach {T : Tm} (hO : TeamOk T) (hmk : ∀ m ∈ T.ms, MadeM m) {ps qs : List Nat} (hp : InR T ps) (hq : InR T qs) (k n : Nat) :
    LReach (costT T k) ps n qs ↔ ∀ (j : Nat) (m : Mp), T.ms[j]? = some m → ∃ d, distM m (atOf ps j) (atOf qs j) = some d ∧ d ≤ n := by
  have key : ∀ (j : Nat) (m : Mp), T.ms[j]? = some m → (ArmR (costT T k) j n (atOf ps j) (atOf qs j) ↔ ∃ d, distM m (atOf ps j) (atOf qs j) = some d ∧ d ≤ n) := by
    intro j m hm
    have h1 := costT_get (k := k) hm
    have h2 := costT_made hmk k _ (List.mem_of_getElem? h1)
    have hn : (if j < k then costM m else m).n = m.n := by split <;> rfl
    have hd : distM (if j < k then costM m else m) (atOf ps j) (atOf qs j) = distM m (atOf ps j) (atOf qs j) := by
      split
      · exact costM_dist m _ _
      · rfl
    have := arm_dist h1 h2 (x := atOf ps j) (y := atOf qs j) (by rw [hn]; exact atOf_lt hp hm) (by rw [hn]; exact atOf_lt hq hm) n
    rw [hd] at this
    exact this
  constructor
  · intro h j m hm
    have := (arm_of (costT_ok hO k) (costT_inr hp k) h).2 j (by rw [costT_len]; exact (List.getElem?_eq_some_iff.1 hm).1)
    exact (key j m hm).1 this
  · intro h
    refine of_arm (costT_ok hO k) rfl (costT_inr hp k) (costT_inr hq k) fun j hj => ?_
    rw [costT_len] at hj
    obtain ⟨m, hm⟩ : ∃ m, T.ms[j]? = some m := ⟨_, List.getElem?_eq_getElem hj⟩
    exact (key j m hm).2 (h j m hm)

/-- Setting a cell of one's own row. -/
theorem own_setk {W : World} {base n c g size : Nat} {t : TypeId} {xs : List Value} (h : W.ownsRow base t size (.slice (some ⟨g, 0, none⟩) n c) n xs) (i : Nat) (hn : 0 < n) (x : Value) : (W.setCell ⟨g, i, none⟩ x).ownsRow base t size (.slice (some ⟨g, 0, none⟩) n c) n (xs.set i x) := by
  obtain ⟨hl, hv⟩ := h
  refine ⟨by simp [hl], .inr ?_⟩
  rcases hv with ⟨h1, h2⟩ | ⟨g', cap, cur, h1, h2, h3, h4, h5, h6, h7⟩
  · omega
  · injection h1 with h1 h8 h9
    injection h1 with h1
    injection h1 with h1 _ _
    subst h1 h9
    refine ⟨g, c, cur.setIfInBounds i x, rfl, h2, ?_, h4, h5, by simp [h6], ?_⟩
    · have hg : g < W.heap.size := by
        rcases Nat.lt_or_ge g W.heap.size with h1 | h1
        · exact h1
        · rw [Array.getElem?_eq_none h1] at h3; cases h3
      simp [World.setCell, Array.getElem?_modify, h3]
    · rw [← h7]
      simp [List.take_set]
theorem own_frozen {W : World} {base n c g size : Nat} {t : TypeId} {xs : List Value} (h : W.ownsRow base t size (.slice (some ⟨g, 0, none⟩) n c) n xs) (hn : 0 < n) (i : Nat) : W.frozen? ⟨g, i, none⟩ = false := by
  rcases h.2 with ⟨h1, h2⟩ | ⟨g', cap, cur, h1, h2, h3, -⟩
  · omega
  · injection h1 with h1 _ _
    injection h1 with h1
    injection h1 with h1 _ _
    subst h1
    simp [World.frozen?, h3]
theorem own_some {W : World} {base n size : Nat} {t : TypeId} {v : Value} {xs : List Value} (h : W.ownsRow base t size v n xs) (hn : 0 < n) : ∃ g c, v = .slice (some ⟨g, 0, none⟩) n c := by
  rcases h.2 with ⟨h1, h2⟩ | ⟨g, cap, cur, h1, -⟩
  · omega
  · exact ⟨g, cap, h1⟩
/-- A roadmap's edges while arm k's costs are set, the first i done. -/
def stageE (k i j : Nat) (es : List Ed) : List Ed := if j < k then es.map c1E else if j = k then (es.take i).map c1E ++ es.drop i else es
theorem stage_len (k i j : Nat) (es : List Ed) : (stageE k i j es).length = es.length := by
  unfold stageE
  split
  · simp
  · split
    · simp; omega
    · rfl
theorem stage_zero (k j : Nat) (es : List Ed) : stageE k 0 j es = if j < k then es.map c1E else es := by
  unfold stageE
  split
  · rfl
  · split <;> simp
theorem stage_done (k j : Nat) (es : List Ed) (i : Nat) (h : j = k → i = es.length) : stageE k i j es = stageE (k + 1) 0 j es := by
  rw [stage_zero]
  unfold stageE
  by_cases h1 : j < k
  · rw [if_pos h1, if_pos (by omega)]
  · rw [if_neg h1]
    by_cases h2 : j = k
    · rw [if_pos h2, if_pos (by omega), h h2]
      simp
    · rw [if_neg h2, if_neg (by omega)]
theorem set_flat : ∀ {es : List Ed} {i : Nat} {e : Ed}, es[i]? = some e → (es.map Ed.vals).flatten.set (i * 12 + 2) (.int .i64 1) = ((es.set i (c1E e)).map Ed.vals).flatten
  | [], i, e, h => by simp at h
  | a :: es, 0, e, h => by
    simp at h; subst h
    simp [List.flatten_cons, Ed.vals, c1E]
  | a :: es, i + 1, e, h => by
    have ih := set_flat (es := es) (i := i) (e := e) (by simpa using h)
    have hl : a.vals.length = 12 := rfl
    simp only [List.map_cons, List.flatten_cons, List.set_cons_succ]
    rw [List.set_append_right _ _ (by omega), ← ih]
    congr 2
    omega
theorem stage_step {k i : Nat} {es : List Ed} {e : Ed} (h : es[i]? = some e) : (stageE k i k es)[i]? = some e ∧ (stageE k i k es).set i (c1E e) = stageE k (i + 1) k es := by
  have hi := (List.getElem?_eq_some_iff.1 h).1
  unfold stageE
  simp only [Nat.lt_irrefl, if_false, if_true]
  constructor
  · rw [List.getElem?_append_right (by simp; omega)]
    simp [Nat.min_eq_left (Nat.le_of_lt hi), h]
  · rw [List.set_append_right _ _ (by simp; omega), List.take_add_one, h, List.drop_eq_getElem_cons hi]
    have he : es[i] = e := by rw [List.getElem?_eq_getElem hi] at h; injection h
    simp only [List.length_map, List.length_take, Nat.min_eq_left (Nat.le_of_lt hi), Nat.sub_self, List.set_cons_zero, Option.toList_some, List.map_append, List.map_cons, List.map_nil, List.append_assoc, List.cons_append, List.nil_append]
/-- A block of the edges. -/
def EdB (T : Tm) (b : Nat) : Prop := ∃ m ∈ T.ms, m.ev.ownBlock = some b
structure CW (T : Tm) (base : Nat) (W1 W : World) (k i : Nat) : Prop where
  tch : Tch (EdB T) W1 W
  own : ∀ (j : Nat) (m : Mp), T.ms[j]? = some m → W.ownsRow base 54 12 m.ev m.es.length ((stageE k i j m.es).map Ed.vals).flatten
theorem CW.keep {T : Tm} {base k i : Nat} {W1 W W' : World} (h : CW T base W1 W k i) (hb : Below W.heap.size W W') : CW T base W1 W' k i :=
  ⟨h.tch.trans (Tch.of_below hb), fun j m hm => own_keep (h.own j m hm) hb⟩
theorem CW.done {T : Tm} {base k i : Nat} {W1 W : World} (h : CW T base W1 W k i) {m : Mp} (hm : T.ms[k]? = some m) (hi : i = m.es.length) : CW T base W1 W (k + 1) 0 := by
  refine ⟨h.tch, fun j m' hm' => ?_⟩
  rw [← stage_done k j m'.es i (fun e => by subst e; rw [hm] at hm'; injection hm' with hm'; subst hm'; exact hi)]
  exact h.own j m' hm'
theorem CW.put {T : Tm} {base k i g c : Nat} {W1 W : World} {m : Mp} {e : Ed} (h : CW T base W1 W k i) (hD : T.ms.Pairwise fun a b => ∀ g, a.ev.ownBlock = some g → b.ev.ownBlock ≠ some g) (hm : T.ms[k]? = some m) (he : m.es[i]? = some e) (hg : m.ev = .slice (some ⟨g, 0, none⟩) m.es.length c) :
    CW T base W1 (W.setCell ⟨g, i * 12 + 2, none⟩ (.int .i64 1)) k (i + 1) := by
  have hob : m.ev.ownBlock = some g := by rw [hg]; rfl
  refine ⟨h.tch.set ⟨m, List.mem_of_getElem? hm, hob⟩ _ _, fun j m' hm' => ?_⟩
  by_cases hj : j = k
  · subst hj
    rw [hm] at hm'
    injection hm' with hm'
    subst hm'
    have h1 := h.own j m hm
    obtain ⟨h2, h3⟩ := stage_step (k := j) he
    rw [← h3, ← set_flat h2]
    rw [hg] at h1 ⊢
    exact own_setk h1 _ (by have := (List.getElem?_eq_some_iff.1 he).1; omega) _
  · have e1 : stageE k (i + 1) j m'.es = stageE k i j m'.es := by unfold stageE; simp [hj]
    rw [e1]
    refine own_blk (h.own j m' hm') fun b hb _ _ => Below.heap_setCell W ⟨g, _, none⟩ _ b fun e => ?_
    have e : b = g := e
    subst e
    rw [List.pairwise_iff_getElem] at hD
    have hj1 := List.getElem?_eq_some_iff.1 hm'
    have hk1 := List.getElem?_eq_some_iff.1 hm
    rcases Nat.lt_or_gt_of_ne hj with h5 | h5
    · have := hD j k hj1.1 hk1.1 h5 b (by rw [hj1.2]; exact hb)
      rw [hk1.2] at this
      exact this hob
    · have := hD k j hk1.1 hj1.1 h5 b (by rw [hk1.2]; exact hob)
      rw [hj1.2] at this
      exact this hb
/-- What the law's team is. -/
theorem CW.team {T : Tm} {base k : Nat} {om oc : Option Addr} {W1 W : World} (h : CW T base W1 W k 0) (hT : TeamAt W1 om oc T) (hom : ∀ b off s, om = some ⟨b, off, s⟩ → ¬ EdB T b) : TeamAt W om none (costT T k) := by
  refine ⟨?_, fun hc => absurd rfl hc, fun m' hm' => ?_⟩
  · have e : (costT T k).ms.map Mp.vals = T.ms.map Mp.vals := by
      apply List.ext_getElem?
      intro j
      simp only [costT, List.getElem?_map, List.getElem?_mapIdx, Option.map_map]
      cases T.ms[j]? with
      | none => rfl
      | some m =>
        simp only [Option.map_some, Function.comp]
        congr 1
        split
        · simp [Mp.vals, costM]
        · rfl
    rw [e]
    exact hT.ms.tch h.tch hom
  · obtain ⟨j, m, hm, rfl⟩ := costT_mem hm'
    have h1 := h.own j m hm
    rw [stage_zero] at h1
    have h2 : m.es.length = ((if j < k then m.es.map c1E else m.es).map Ed.vals).length := by split <;> simp
    have h3 : Sl W m.oe 12 ((if j < k then m.es.map c1E else m.es).map Ed.vals) := own_sl (ed_len _) (by rw [← h2]; exact h1)
    split
    · next hjk => rw [if_pos hjk] at h3; exact h3
    · next hjk => rw [if_neg hjk] at h3; exact h3
theorem CW.edges {T : Tm} {base k : Nat} {W1 W : World} (h : CW T base W1 W (k + 1) 0) {m : Mp} (hm : T.ms[k]? = some m) : Sl W m.oe 12 ((costM m).es.map Ed.vals) := by
  have h1 := h.own k m hm
  rw [stage_zero, if_pos (by omega)] at h1
  have h2 : m.es.length = ((costM m).es.map Ed.vals).length := by simp [costM]
  exact own_sl (ed_len _) (by rw [← h2]; exact h1)
end Go.Proofs.Jn
end

