/-
  Texts put together: Kh Ki Kj.
-/
import Derived.Test.YtemchlakoalhcaaZJointMoves23
import Derived.Test.YtemchlakoalhcaaZJointMoves25
import Derived.Test.YtemchlakoalhcaaZJointMoves13
set_option linter.unusedVariables false
section
/-
  Arbitrary teams: Moves and ref.Moves list the same.
-/
namespace Go.Proofs.Jn
open Go.RowKit Go.Shelf

/-- What a list of moves is answered by. -/
def MovP (L : List (List Nat)) (w : World) (e : Ending) (W : World) : Prop := ∃ (ol : Option Addr) (cl : Nat), e = .returned (.slice ol L.length cl) ∧ LL W ol L ∧ Below w.heap.size w W
theorem LL.nil (W : World) (o : Option Addr) : LL W o [] := ⟨[], fun h => absurd rfl h, rfl, fun i v l h => by simp at h⟩
theorem movP_nil {w W : World} (hb : Below w.heap.size w W) : MovP [] w (.returned (.slice none 0 0)) W := ⟨none, 0, rfl, LL.nil W none, hb⟩
set_option maxRecDepth 100000 in
set_option maxHeartbeats 4000000 in
theorem moves_none (om oc oa : Option Addr) (cm cc ca nm nc na : Nat) (P Q : Prop) (hPQ : ¬ (P ∧ Q)) (w : World)
    (hP : ∀ X, Below w.heap.size w X → Calls Try.prog 29 #[.agg #[.slice om nm cm, .slice oc nc cc]] X (VerP P X))
    (hQ : ∀ X, Below w.heap.size w X → Calls Try.prog 30 #[.agg #[.slice om nm cm, .slice oc nc cc], .slice oa na ca] X (VerP Q X)) :
    Calls Try.prog 21 #[.agg #[.slice om nm cm, .slice oc nc cc], .slice oa na ca] w (MovP [] w) := by
  have HPQ := Lib.hid hPQ
  have HP := Lib.hid hP
  have HQ := Lib.hid hQ
  clear hPQ hP hQ
  go_enter Try.func21, Try.ntmps21
  go_upto_region 1 with fail
  have hbx_ := boxes2 w [.slice om nm cm, .slice oc nc cc] [.slice oa na ca] 26 22
  have HB := Lib.hid (hbx_.2.2)
  generalize (w.alloc (.cells #[.slice om nm cm, .slice oc nc cc] 26)).alloc (.cells #[.slice oa na ca] 22) = W0 at hbx_ HB ⊢
  obtain ⟨r2, r3, hbel_⟩ := hbx_
  generalize w.heap.size + 1 = n3 at r3  ⊢
  obtain ⟨n2, hn_⟩ : ∃ n, n = w.heap.size := ⟨_, rfl⟩
  rw [← hn_] at r2 ⊢
  clear hn_ hbel_
  have HR2 := Lib.hid r2
  have HR3 := Lib.hid r3
  have a0 : W0.cell? ⟨n2, 0, none⟩ = some (.slice om nm cm) := r2.c 0 _ rfl
  have a1 : W0.cell? ⟨n2, 1, none⟩ = some (.slice oc nc cc) := r2.c 1 _ rfl
  have b0 : W0.cell? ⟨n3, 0, none⟩ = some (.slice oa na ca) := r3.c 0 _ rfl
  have l2 := r2.lt
  have l3 := r3.lt
  clear r2 r3
  go_wp2_with fail
  with_reducible refine (HP.out _ HB.out).mono ?_
  rintro e X ⟨b, rfl, hbi, hb⟩
  have HX := Lib.hid (below_call HB.out hb)
  have r2 := HR2.out.keep hb
  have r3 := HR3.out.keep hb
  clear a0 a1 b0 l2 l3 hb
  cases b with
  | false =>
    clear r2 r3
    go_wp2_with fail
    go_ret
    exact movP_nil HX.out
  | true =>
    have HPT := Lib.hid (hbi.1 rfl)
    have a0 : X.cell? ⟨n2, 0, none⟩ = some (.slice om nm cm) := r2.c 0 _ rfl
    have a1 : X.cell? ⟨n2, 1, none⟩ = some (.slice oc nc cc) := r2.c 1 _ rfl
    have b0 : X.cell? ⟨n3, 0, none⟩ = some (.slice oa na ca) := r3.c 0 _ rfl
    have l2 := r2.lt
    have l3 := r3.lt
    clear r2 r3 hbi
    go_wp2_with fail
    with_reducible refine (HQ.out _ HX.out).mono ?_
    rintro e Y ⟨b, rfl, hbi, hb⟩
    have HY := Lib.hid (below_call HX.out hb)
    cases b with
    | true => exact absurd ⟨HPT.out, hbi.1 rfl⟩ HPQ.out
    | false =>
      clear a0 a1 b0 l2 l3 hb hbi
      go_wp2_with fail
      go_ret
      exact movP_nil HY.out
set_option maxRecDepth 100000 in
set_option maxHeartbeats 4000000 in
theorem refMoves_none (om oc oa : Option Addr) (cm cc ca nm nc na : Nat) (P Q : Prop) (hPQ : ¬ (P ∧ Q)) (w : World)
    (hP : ∀ X, Below w.heap.size w X → Calls Try.prog 36 #[.agg #[.slice om nm cm, .slice oc nc cc]] X (VerP P X))
    (hQ : ∀ X, Below w.heap.size w X → Calls Try.prog 38 #[.agg #[.slice om nm cm, .slice oc nc cc], .slice oa na ca] X (VerP Q X)) :
    Calls Try.prog 15 #[.agg #[.slice om nm cm, .slice oc nc cc], .slice oa na ca] w (MovP [] w) := by
  have HPQ := Lib.hid hPQ
  have HP := Lib.hid hP
  have HQ := Lib.hid hQ
  clear hPQ hP hQ
  go_enter Try.func15, Try.ntmps15
  go_upto_region 1 with fail
  have hbx_ := boxes1 w [.slice om nm cm, .slice oc nc cc] 26
  have HB := Lib.hid (hbx_.2)
  generalize w.alloc (.cells #[.slice om nm cm, .slice oc nc cc] 26) = W0 at hbx_ HB ⊢
  obtain ⟨r2, hbel_⟩ := hbx_
  obtain ⟨n2, hn_⟩ : ∃ n, n = w.heap.size := ⟨_, rfl⟩
  rw [← hn_] at r2 ⊢
  clear hn_ hbel_
  have HR2 := Lib.hid r2
  have a0 : W0.cell? ⟨n2, 0, none⟩ = some (.slice om nm cm) := r2.c 0 _ rfl
  have a1 : W0.cell? ⟨n2, 1, none⟩ = some (.slice oc nc cc) := r2.c 1 _ rfl
  have l2 := r2.lt
  clear r2
  go_wp2_with fail
  with_reducible refine (HP.out _ HB.out).mono ?_
  rintro e X ⟨b, rfl, hbi, hb⟩
  have HX := Lib.hid (below_call HB.out hb)
  have r2 := HR2.out.keep hb
  clear a0 a1 l2 hb
  cases b with
  | false =>
    clear r2
    go_wp2_with fail
    go_ret
    exact movP_nil HX.out
  | true =>
    have HPT := Lib.hid (hbi.1 rfl)
    have a0 : X.cell? ⟨n2, 0, none⟩ = some (.slice om nm cm) := r2.c 0 _ rfl
    have a1 : X.cell? ⟨n2, 1, none⟩ = some (.slice oc nc cc) := r2.c 1 _ rfl
    have l2 := r2.lt
    clear r2 hbi
    go_wp2_with fail
    with_reducible refine (HQ.out _ HX.out).mono ?_
    rintro e Y ⟨b, rfl, hbi, hb⟩
    have HY := Lib.hid (below_call HX.out hb)
    cases b with
    | true => exact absurd ⟨HPT.out, hbi.1 rfl⟩ HPQ.out
    | false =>
      clear a0 a1 l2 hb hbi
      go_wp2_with fail
      go_ret
      exact movP_nil HY.out
theorem next_small {T : Tm} (hO : TeamOk T) (ps : List Nat) : (nextR T ps T.ms.length []).length ≤ 1000000000000 :=
  Nat.le_trans (nextR_len hO _ _) (Nat.le_trans (Nat.pow_le_pow_right (by omega) hO.n2) (by decide))
def toC (c : Rc) : Cf := ⟨c.a.nat, c.b.nat⟩
def toT (ms : List Rm) (cs : List Rc) : Tm := ⟨ms.map toM, cs.map toC⟩
def toPs (xs : List Int) : List Nat := xs.map Int.toNat
theorem toT_one {ms : List Rm} {cs : List Rc} {xs : List Int} (hl : LocI ms xs) {m : Rm} (hm : m ∈ ms) : 1 ≤ m.n := by
  obtain ⟨j, hj⟩ := List.mem_iff_getElem?.1 hm
  obtain ⟨x, hx⟩ : ∃ x, xs[j]? = some x := ⟨_, List.getElem?_eq_getElem (by rw [hl.len]; exact (List.getElem?_eq_some_iff.1 hj).1)⟩
  have := hl.at_ j x m hx hj
  omega
theorem toT_ok {ms : List Rm} {cs : List Rc} {xs : List Int} (hS : SmallR ms cs) (hC : ChkI ms cs) (hl : LocI ms xs) : TeamOk (toT ms cs) := by
  refine ⟨by simpa [toT] using hC.n1, by simpa [toT] using hS.n2, toM_all fun m hm => toM_ok (hC.wf m hm) (hS.mn m hm) (hS.me m hm) (toT_one (cs := cs) hl hm), by simpa [toT] using hS.cn, fun c hc => ?_⟩
  obtain ⟨c0, hc0, rfl⟩ := List.mem_map.1 hc
  obtain ⟨h1, h2, h3⟩ := hC.cf c0 hc0
  obtain ⟨e1, -, -⟩ := mv_nat h2.1
  obtain ⟨e2, -, -⟩ := mv_nat h3.1
  refine ⟨fun e => h1 ?_, h2.2, h3.2⟩
  have e : c0.a.arm.toNat = c0.b.arm.toNat := e
  rw [e1, e2, e]
theorem toPs_in {ms : List Rm} {cs : List Rc} {xs : List Int} (hl : LocI ms xs) : InR (toT ms cs) (toPs xs) := by
  refine ⟨by simpa [toPs, toT] using hl.len, fun k x m hx hm => ?_⟩
  simp only [toPs, toT, List.getElem?_map, Option.map_eq_some_iff] at hx hm
  obtain ⟨x0, hx0, rfl⟩ := hx
  obtain ⟨m0, hm0, rfl⟩ := hm
  have := hl.at_ k x0 m0 hx0 hm0
  show x0.toNat < m0.n
  omega
theorem toC_rows {ms : List Rm} {cs : List Rc} (hC : ChkI ms cs) : (cs.map toC).map Cf.vals = cs.map Rc.vals := by
  rw [List.map_map]
  refine List.map_congr_left fun c hc => ?_
  obtain ⟨-, h2, h3⟩ := hC.cf c hc
  obtain ⟨e1, e2, e3⟩ := mv_nat h2.1
  obtain ⟨f1, f2, f3⟩ := mv_nat h3.1
  simp only [Function.comp, toC, Cf.vals, Rc.vals, Mv.vals, Rv.vals, Rv.nat]
  rw [← e1, ← e2, ← e3, ← f1, ← f2, ← f3]
theorem toT_at {W : World} {om oc : Option Addr} {ms : List Rm} {cs : List Rc} (hC : ChkI ms cs) (h : RawAt W om oc ms cs) : TeamAt W om oc (toT ms cs) :=
  ⟨by show Sl W om 2 ((ms.map toM).map Mp.vals); rw [toM_rows]; exact h.rm, by show Sl W oc 6 ((cs.map toC).map Cf.vals); rw [toC_rows hC]; exact h.rc, toM_all fun m hm => by rw [toM_edges (hC.wf m hm)]; exact h.es m hm⟩
theorem toPs_vals {ms : List Rm} {xs : List Int} (hl : LocI ms xs) : nvals (toPs xs) = pvals xs := by
  unfold nvals toPs pvals
  rw [List.map_map]
  refine List.map_congr_left fun x hx => ?_
  obtain ⟨k, hk⟩ := List.mem_iff_getElem?.1 hx
  obtain ⟨m, hm⟩ : ∃ m, ms[k]? = some m := ⟨_, List.getElem?_eq_getElem (by rw [← hl.len]; exact (List.getElem?_eq_some_iff.1 hk).1)⟩
  have := hl.at_ k x m hk hm
  simp only [Function.comp]
  rw [show ((x.toNat : Nat) : Int) = x by omega]
/-- Whatever the team and the places: both list the same. -/
theorem both_raw (ms : List Rm) (cs : List Rc) (xs : List Int) (hS : SmallR ms cs) (hme : ∀ m ∈ ms, m.es.length ≤ 100) (hxl : xs.length ≤ 100) :
    ∃ L : List (List Nat), (L.length ≤ 1000000000000 ∧ ∀ l ∈ L, l.length ≤ 100) ∧ ∀ (om oc oa : Option Addr) (cm cc ca : Nat) (X : World), RawAt X om oc ms cs → Sl X oa 1 (pvals xs) →
      Calls Try.prog 21 #[.agg #[.slice om ms.length cm, .slice oc cs.length cc], .slice oa xs.length ca] X (MovP L X) ∧ Calls Try.prog 15 #[.agg #[.slice om ms.length cm, .slice oc cs.length cc], .slice oa xs.length ca] X (MovP L X) := by
  by_cases h : ChkI ms cs ∧ LocI ms xs
  · obtain ⟨hC, hl⟩ := h
    have hO := toT_ok hS hC hl
    have hI := toPs_in (cs := cs) hl
    have e1 : (toT ms cs).ms.length = ms.length := by simp [toT]
    have e2 : (toT ms cs).cs.length = cs.length := by simp [toT]
    have e3 : (toPs xs).length = xs.length := by simp [toPs]
    have hlen : (movesE (toT ms cs) (toPs xs)).2.length ≤ 1000000000000 := by
      rw [moves_next hO hI]
      exact next_small hO (toPs xs)
    have hrow : ∀ l ∈ (movesE (toT ms cs) (toPs xs)).2, l.length ≤ 100 := fun l hl2 => by
      rw [moves_next hO hI] at hl2
      have h1 := (mem_nextR hO hI _ [] (by simp) l hl2).1
      have h2 := hO.n2
      omega
    refine ⟨(movesE (toT ms cs) (toPs xs)).2, ⟨hlen, hrow⟩, fun om oc oa cm cc ca X hT hA => ⟨?_, ?_⟩⟩
    · have h1 := moves_any om oc oa cm cc ca (toT ms cs) (toPs xs) X hO (toM_all fun m hm => by simpa [toM] using hme m hm) hI (toT_at hC hT) (by rw [toPs_vals hl]; exact hA)
      unfold Tm.val at h1
      rw [e1, e2, e3] at h1
      refine h1.mono ?_
      rintro e W ⟨ol, cl, h2, h3, h4, -⟩
      exact ⟨ol, cl, h2, h3, h4⟩
    · have h1 := refMoves_any om oc oa cm cc ca (toT ms cs) (toPs xs) X hO hI (toT_at hC hT) (by rw [toPs_vals hl]; exact hA)
      rw [← moves_next hO hI, e1, e2, e3] at h1
      exact h1
  · refine ⟨[], ⟨by simp, by simp⟩, fun om oc oa cm cc ca X hT hA => ⟨?_, ?_⟩⟩
    · exact moves_none om oc oa cm cc ca ms.length cs.length xs.length _ _ h X (fun Y hY => check_raw om oc cm cc ms cs Y hS (hT.keep hY)) (fun Y hY => located_raw om oc oa cm cc ca cs.length ms xs Y (by have := hS.n2; omega) hxl (hT.keep hY).rm (hA.keep hY))
    · exact refMoves_none om oc oa cm cc ca ms.length cs.length xs.length _ _ h X (fun Y hY => checkT_raw om oc cm cc ms cs Y hS (hT.keep hY)) (fun Y hY => placed_raw om oc oa cm cc ca cs.length ms xs Y (by have := hS.n2; omega) hxl (hT.keep hY).rm (hA.keep hY))
end Go.Proofs.Jn
end

section
/-
  Walks: SameLists of one list twice; small.
-/
namespace Go.Proofs.Jn
open Go.RowKit Go.Shelf

theorem ll_at {W : World} {o : Option Addr} {L : List (List Nat)} {k : Nat} {l : List Nat} (h : LL W o L) (hl : L[k]? = some l) : ∃ b off o2 c, o = some ⟨b, off, none⟩ ∧ b < W.heap.size ∧ W.cell? ⟨b, off + k, none⟩ = some (.slice o2 l.length c) ∧ Sl W o2 1 (nvals l) := by
  obtain ⟨vs, hs, hvl, hv⟩ := h
  have hk := (List.getElem?_eq_some_iff.1 hl).1
  obtain ⟨v, hvk⟩ : ∃ v, vs[k]? = some v := ⟨_, List.getElem?_eq_getElem (by rw [hvl]; exact hk)⟩
  obtain ⟨o2, c, rfl, h2⟩ := hv k v l hvk hl
  obtain ⟨b, off, e, hr⟩ := hs (map_ne (k := k) (by rw [hvl]; exact hk))
  refine ⟨b, off, o2, c, e, hr.lt, ?_, h2⟩
  have := hr.c k _ (map_get hvk) 0 _ rfl
  simpa using this
set_option maxRecDepth 100000 in
set_option maxHeartbeats 4000000 in
theorem sameLists_any (oa ob : Option Addr) (ca cb : Nat) (L : List (List Nat)) (w : World) (hLl : L.length ≤ 1000000000000) (hLr : ∀ l ∈ L, l.length ≤ 100) (hA : LL w oa L) (hB : LL w ob L) :
    Calls Try.prog 20 #[.slice oa L.length ca, .slice ob L.length cb] w (BoolP true w) := by
  have HA := Lib.hid hA
  have HBB := Lib.hid hB
  have HLR := Lib.hid hLr
  clear hA hB hLr
  go_enter Try.func20, Try.ntmps20
  go_wp2_with fail
  go_loopw [5] (fun i W => ∃ k : Nat, k ≤ L.length ∧ i = .int .i64 (k : Nat) ∧ Below w.heap.size w W) (fun i _ => L.length - (intOf i).toNat)
  case atStart => exact ⟨0, Nat.zero_le _, rfl, Below.refl _ _⟩
  case round =>
    obtain ⟨k, hk, rfl, hW⟩ := hrel
    obtain ⟨Wa, rfl⟩ : ∃ X, X = wr := ⟨_, rfl⟩
    have HW := Lib.hid hW
    clear hW
    by_cases hlt : k < L.length
    · obtain ⟨l, hl⟩ : ∃ l, L[k]? = some l := ⟨_, List.getElem?_eq_getElem hlt⟩
      obtain ⟨ba, offa, o2, c2, hoa, lba, x0, hsa⟩ := ll_at (HA.out.keep HW.out) hl
      obtain ⟨bb, offb, o3, c3, hob, lbb, y0, hsb⟩ := ll_at (HBB.out.keep HW.out) hl
      have hsm : ∀ X, Below Wa.heap.size Wa X → Calls Try.prog 22 #[.slice o2 l.length c2, .slice o3 l.length c3] X (BoolP true X) := fun X hX => by
        have := same_any o2 o3 c2 c3 l l X rfl (HLR.out l (List.mem_of_getElem? hl)) (hsa.keep hX) (hsb.keep hX)
        rwa [decide_eq_true rfl] at this
      have HSM := Lib.hid hsm
      have hmk : ∀ Y, Below Wa.heap.size Wa Y → Y.cell? ⟨ba, offa + k, none⟩ = some (.slice o2 l.length c2) ∧ Y.cell? ⟨bb, offb + k, none⟩ = some (.slice o3 l.length c3) ∧ Below Wa.heap.size Wa Y := fun Y hY => ⟨(hY.cell (p := ⟨ba, offa + k, none⟩) lba).trans x0, (hY.cell (p := ⟨bb, offb + k, none⟩) lbb).trans y0, hY⟩
      have hS := hmk Wa (Below.refl _ _)
      have HMK := Lib.hid hmk
      rw [hoa, hob]
      clear hl hsa hsb hsm hmk x0 y0 hoa hob
      go_upto_region 6 with fail
      go_region_held3 (fun X => X.cell? ⟨ba, offa + k, none⟩ = some (.slice o2 l.length c2) ∧ X.cell? ⟨bb, offb + k, none⟩ = some (.slice o3 l.length c3) ∧ Below Wa.heap.size Wa X)
        (first
          | assumption
          | exact hS
          | exact HMK.out _ (by assumption : _ ∧ _ ∧ Below Wa.heap.size Wa _).2.2.drew)
        (first
          | (go_at_call 22
             with_reducible refine (HSM.out _ (by assumption : _ ∧ _ ∧ Below Wa.heap.size Wa _).2.2).mono ?_
             rintro e Xa ⟨rfl, hba⟩
             have hSa := HMK.out _ (below_call (by assumption : _ ∧ _ ∧ Below Wa.heap.size Wa _).2.2 hba)
             have HSA := Lib.hid hSa
             clear hba))
      all_goals
        have HX := Lib.hid (below_call HW.out HSA.out.2.2)
        clear hS hSa lba lbb
        go_wp2_with fail
        go_roundw
        case rel => exact ⟨k + 1, by omega, by simp, HX.out⟩
        case measure => simp [intOf]; omega
    · go_wp2_with fail
      go_ret
      exact boolP_mk rfl HW.out
/-- A team that is small. -/
structure TinyR (ms : List Rm) (cs : List Rc) : Prop where
  m3 : ms.length ≤ 3
  c40 : cs.length ≤ 40
  all : ∀ (j : Nat) (m : Rm), ms[j]? = some m → m.n ≤ 6 ∧ m.es.length ≤ 30
theorem TinyR.small {ms : List Rm} {cs : List Rc} (h : TinyR ms cs) : SmallR ms cs := by
  have hm : ∀ m ∈ ms, m.n ≤ 6 ∧ m.es.length ≤ 30 := fun m hm => by
    obtain ⟨j, hj⟩ := List.mem_iff_getElem?.1 hm
    exact h.all j m hj
  exact ⟨by have := h.m3; omega, by have := h.c40; omega, fun m hh => by have := hm m hh; omega, fun m hh => by have := hm m hh; omega⟩
set_option maxRecDepth 100000 in
set_option maxHeartbeats 4000000 in
theorem small_any (om oc : Option Addr) (cm cc : Nat) (ms : List Rm) (cs : List Rc) (w : World) (hl1 : ms.length ≤ 9223372036854775807) (hl2 : cs.length ≤ 9223372036854775807) (hms : Sl w om 2 (ms.map Rm.vals)) :
    Calls Try.prog 19 #[.agg #[.slice om ms.length cm, .slice oc cs.length cc]] w (VerP (TinyR ms cs) w) := by
  go_enter Try.func19, Try.ntmps19
  go_upto_region 1 with fail
  have hbx_ := boxes1 w [.slice om ms.length cm, .slice oc cs.length cc] 26
  replace hms := hms.keep hbx_.2
  have HB := Lib.hid (hbx_.2)
  generalize w.alloc (.cells #[.slice om ms.length cm, .slice oc cs.length cc] 26) = W0 at hbx_ hms HB ⊢
  obtain ⟨r1, hbel_⟩ := hbx_
  obtain ⟨n1, hn_⟩ : ∃ n, n = w.heap.size := ⟨_, rfl⟩
  rw [← hn_] at r1 ⊢
  clear hn_ hbel_
  have HMS := Lib.hid hms
  have HR1 := Lib.hid r1
  have a0 : W0.cell? ⟨n1, 0, none⟩ = some (.slice om ms.length cm) := r1.c 0 _ rfl
  have a1 : W0.cell? ⟨n1, 1, none⟩ = some (.slice oc cs.length cc) := r1.c 1 _ rfl
  have l1 := r1.lt
  clear hms r1
  by_cases q1 : ms.length > 3
  · have d1 : decide ((ms.length : Int) > 3) = true := decide_eq_true (by omega)
    have HNO : Hid (¬ TinyR ms cs) := Lib.hid fun h => by have := h.m3; omega
    clear q1
    go_wp2_with fail
    go_ret
    exact verP_no HNO.out HB.out
  · have d1 : decide ((ms.length : Int) > 3) = false := decide_eq_false (by omega)
    by_cases q2 : cs.length > 40
    · have d2 : decide ((cs.length : Int) > 40) = true := decide_eq_true (by omega)
      have HNO : Hid (¬ TinyR ms cs) := Lib.hid fun h => by have := h.c40; omega
      clear q1 q2
      go_wp2_with fail
      go_ret
      exact verP_no HNO.out HB.out
    · have d2 : decide ((cs.length : Int) > 40) = false := decide_eq_false (by omega)
      have hm3 : ms.length ≤ 3 := by omega
      have HC4 : Hid (cs.length ≤ 40) := Lib.hid (by omega)
      clear q1 q2
      go_wp2_with fail
      clear a0 a1 l1 d1 d2
      go_loopw [3] (fun i W => ∃ k : Nat, k ≤ ms.length ∧ i = .int .i64 (k : Nat) ∧ Below W0.heap.size W0 W ∧ ∀ (j : Nat) (m : Rm), j < k → ms[j]? = some m → m.n ≤ 6 ∧ m.es.length ≤ 30) (fun i _ => ms.length - (intOf i).toNat)
      case atStart => exact ⟨0, Nat.zero_le _, rfl, Below.refl _ _, fun j m h => absurd h (Nat.not_lt_zero _)⟩
      case round =>
        obtain ⟨k, hk, rfl, hW, hto⟩ := hrel
        obtain ⟨Wa, rfl⟩ : ∃ X, X = wr := ⟨_, rfl⟩
        have HTO := Lib.hid hto
        have HW := Lib.hid hW
        have r1 := HR1.out.keep hW
        have a0 : Wa.cell? ⟨n1, 0, none⟩ = some (.slice om ms.length cm) := r1.c 0 _ rfl
        have l1 := r1.lt
        clear hto hW r1
        by_cases hlt : k < ms.length
        · obtain ⟨m, hm⟩ : ∃ r, ms[k]? = some r := ⟨_, List.getElem?_eq_getElem hlt⟩
          obtain ⟨bm, offm, hom, hMr⟩ := (HMS.out.keep HW.out) (map_ne hlt)
          rw [hom] at a0
          have x0 : Wa.cell? ⟨bm, offm + k * 2, none⟩ = some (.slice m.op m.n m.cp) := hMr.c k _ (map_get hm) 0 _ rfl
          have x1 : Wa.cell? ⟨bm, offm + k * 2 + 1, none⟩ = some (.slice m.oe m.es.length m.ce) := hMr.c k _ (map_get hm) 1 _ rfl
          have lbm := hMr.lt
          have HM := Lib.hid hm
          clear hMr hm hom
          by_cases q1 : m.n > 6
          · have d1 : decide ((m.n : Int) > 6) = true := decide_eq_true (by omega)
            have HNO : Hid (¬ TinyR ms cs) := Lib.hid fun h => by have := (h.all k m HM.out).1; omega
            clear q1
            go_wp2_with fail
            go_ret
            exact verP_no HNO.out (below_call HB.out HW.out)
          · have d1 : decide ((m.n : Int) > 6) = false := decide_eq_false (by omega)
            by_cases q2 : m.es.length > 30
            · have d2 : decide ((m.es.length : Int) > 30) = true := decide_eq_true (by omega)
              have HNO : Hid (¬ TinyR ms cs) := Lib.hid fun h => by have := (h.all k m HM.out).2; omega
              clear q1 q2
              go_wp2_with fail
              go_ret
              exact verP_no HNO.out (below_call HB.out HW.out)
            · have d2 : decide ((m.es.length : Int) > 30) = false := decide_eq_false (by omega)
              have HTN : Hid (∀ (j : Nat) (m : Rm), j < k + 1 → ms[j]? = some m → m.n ≤ 6 ∧ m.es.length ≤ 30) := Lib.hid fun j m' hj hm' => by
                rcases Nat.lt_or_ge j k with h1 | h1
                · exact HTO.out j m' h1 hm'
                · have : j = k := by omega
                  subst this
                  rw [HM.out] at hm'; injection hm' with hm'; subst hm'
                  exact ⟨by omega, by omega⟩
              clear q1 q2
              go_wp2_with fail
              go_roundw
              case rel => exact ⟨k + 1, by omega, by simp, HW.out, HTN.out⟩
              case measure => simp [intOf]; omega
        · have HOK : Hid (TinyR ms cs) := Lib.hid ⟨hm3, HC4.out, fun j m hm => HTO.out j m (by have := (List.getElem?_eq_some_iff.1 hm).1; omega) hm⟩
          have HEND := Lib.hid (below_call HB.out HW.out)
          go_wp2_with fail
          go_ret
          exact verP_yes HOK.out HEND.out
end Go.Proofs.Jn
end

section
/-
  Walks: the maker's Vertices, as a function of its list.
-/
namespace Go.Proofs.Jn
open Go.RowKit

/-- The number that the source gives at a place. -/
def nextV (xs : List Int) (k : Nat) (n : Int) : Int := match xs[k]? with
  | some x => x % n
  | none => 0
theorem nextV_min (xs : List Int) (k : Nat) (n : Int) : nextV xs (min k xs.length) n = nextV xs k n := by
  rcases Nat.le_total k xs.length with h | h
  · rw [Nat.min_eq_left h]
  · rw [Nat.min_eq_right h]
    unfold nextV
    rw [List.getElem?_eq_none (Nat.le_refl _), List.getElem?_eq_none h]
/-- The source's box, at a place. -/
structure SrcK (W : World) (nS : Nat) (os : Option Addr) (cap : Nat) (xs : List Int) (k : Nat) : Prop where
  le : k ≤ xs.length
  cells : Cells2 W nS (.slice os xs.length cap) (.int .i64 k)
  ints : Sl W os 1 (pvals xs)
  off : xs ≠ [] → ∀ b o s, os = some ⟨b, o, s⟩ → b ≠ nS
  len : xs.length ≤ 9223372036854775807
theorem SrcK.low {w W W' : World} {nS : Nat} {os : Option Addr} {cap k : Nat} {xs : List Int} (h : SrcK W nS os cap xs k) (i0 : Sl w os 1 (pvals xs)) (hn : nS < w.heap.size) (hb : Below w.heap.size W W') : SrcK W' nS os cap xs k := by
  have h1 : Src W nS os cap xs := ⟨⟨k, h.le, h.cells⟩, h.ints, h.off, h.len⟩
  have e := hb.block nS hn
  obtain ⟨c0, c1, f0, f1, lt⟩ := h.cells
  refine ⟨h.le, ⟨?_, ?_, ?_, ?_, Nat.lt_of_lt_of_le lt hb.size⟩, (h1.low i0 hn hb).ints, h.off, h.len⟩
  · rw [← c0]; simp [World.cell?, e]
  · rw [← c1]; simp [World.cell?, e]
  · rw [← f0]; simp [World.frozen?, e]
  · rw [← f1]; simp [World.frozen?, e]
theorem SrcK.keepB {W W' : World} {nS : Nat} {os : Option Addr} {cap k : Nat} {xs : List Int} (h : SrcK W nS os cap xs k) (hb : Below W.heap.size W W') : SrcK W' nS os cap xs k :=
  ⟨h.le, h.cells.keep hb, h.ints.keep hb, h.off, h.len⟩
set_option maxRecDepth 100000 in
set_option maxHeartbeats 2000000 in
theorem next_at (W : World) (nS : Nat) (os : Option Addr) (cap k : Nat) (xs : List Int) (n : Int) (hS : SrcK W nS os cap xs k) (h1 : 1 ≤ n) (h2 : n ≤ 1000000000000) :
    Calls Try.prog 26 #[.pointer (some ⟨nS, 0, none⟩), .int .i64 n] W (fun e W' => ∃ r : Int, r = nextV xs k n ∧ 0 ≤ r ∧ r < n ∧ e = .returned (.int .i64 r) ∧ W.grownBy W' (some nS) ∧ SrcK W' nS os cap xs (min (k + 1) xs.length) ∧ W'.heap.size = W.heap.size) := by
  obtain ⟨hk, hc, hints, hoff, hlen⟩ := hS
  have k0 := hc.c0; have k1 := hc.c1; have k2 := hc.f0; have k3 := hc.f1; have k4 := hc.lt
  by_cases hlt : k < xs.length
  · have hlt' : decide ((xs.length : Int) ≤ (k : Int)) = false := decide_eq_false (by omega)
    have hlt'' : decide (xs.length ≤ k) = false := decide_eq_false (by omega)
    obtain ⟨x, hx⟩ : ∃ x, xs[k]? = some x := ⟨_, List.getElem?_eq_getElem hlt⟩
    have HNV : Hid (nextV xs k n = x % n) := Lib.hid (by unfold nextV; rw [hx])
    obtain ⟨b, off, rfl, hr⟩ := hints (pvals_ne hlt)
    have hbne := hoff (by intro h; subst h; simp at hlt) b off none rfl
    go_enter Try.func26, Try.ntmps26
    go_wp2_with fail
    go_quiet (fail)
    have hcV := hc.keep (below_drew W nq)
    have hrV := hr.keep (below_drew W nq)
    have hgV : W.grownBy (W.drewN nq) (some nS) := grown_of_below (below_drew W nq)
    have hzV : (W.drewN nq).heap.size = W.heap.size := rfl
    clear k0 k1 k2 k3 k4
    generalize W.drewN nq = V at hcV hrV hgV hzV ⊢
    have k0 := hcV.c0; have k1 := hcV.c1; have k2 := hcV.f0; have k3 := hcV.f1; have k4 := hcV.lt
    go_wp2_with fail
    have hcX : Cells2 (V.setCell ⟨nS, 1, none⟩ (.int .i64 ((k : Int) + 1))) nS (.slice (some ⟨b, off, none⟩) xs.length cap) (.int .i64 ((k : Int) + 1)) := hcV.put1 _
    have hgX := grown_trans hgV (grown_set V nS 1 (.int .i64 ((k : Int) + 1)))
    have hrX := hrV.keepG (grown_set V nS 1 (.int .i64 ((k : Int) + 1))) hbne
    have hzX : (V.setCell ⟨nS, 1, none⟩ (.int .i64 ((k : Int) + 1))).heap.size = W.heap.size := by rw [← hzV]; simp [World.setCell]
    clear k0 k1 k2 k3 k4 hcV hrV hgV
    generalize (V.setCell ⟨nS, 1, none⟩ (.int .i64 ((k : Int) + 1))) = X at hcX hgX hrX hzX ⊢
    have HZ := Lib.hid hzX
    clear hzX hzV
    have k0 := hcX.c0; have k1 := hcX.c1; have k2 := hcX.f0; have k3 := hcX.f1; have k4 := hcX.lt
    have x0 : X.cell? ⟨b, off + k, none⟩ = some (.int .i64 x) := by have := hrX.c k _ (pvals_get hx) 0 _ rfl; simpa using this
    have hw1 : IntKind.i64.wrap ((k : Int) + 1 - 1) = (k : Int) := by rw [IntWalk.i64_in _ (by omega)]; omega
    have hw2 : IntKind.i64.wrap (k : Int) = (k : Int) := IntWalk.i64_in _ (by omega)
    have HC : Hid (∀ w, Calls Try.prog 11 #[.int .i64 x, .int .i64 n] w fun e w' => e = .returned (.int .i64 (x % n)) ∧ w' = w) := Lib.hid (fun w => (round_any x n w (by omega) (by omega)).mono fun _ _ ⟨h, h'⟩ => ⟨h, h'.symm⟩)
    have hr0 : 0 ≤ x % n := Int.emod_nonneg _ (by omega)
    have hr1 : x % n < n := Int.emod_lt_of_pos _ (by omega)
    have HR0 := Lib.hid hr0
    have HR1 := Lib.hid hr1
    clear hr0 hr1
    go_quiet ((go_at_call 11; exact Calls.quiet_of_same (HC.out _)))
    have hcY := hcX.keep (below_drew X nq)
    have hrY := hrX.keep (below_drew X nq)
    have hgY := grown_trans hgX (grown_of_below (below_drew X nq))
    clear k0 k1 k2 k3 k4 x0 hw1 hw2
    have hzY : (X.drewN nq).heap.size = W.heap.size := HZ.out
    generalize X.drewN nq = Y at hcY hrY hgY hzY ⊢
    have HZY := Lib.hid hzY
    clear hzY
    go_wp2
    go_ret
    have hmn : min (k + 1) xs.length = k + 1 := Nat.min_eq_left hlt
    exact ⟨x % n, HNV.out.symm, HR0.out, HR1.out, rfl, hgY, by rw [hmn]; exact ⟨by omega, hcY, fun _ => ⟨b, off, rfl, hrY⟩, hoff, hlen⟩, HZY.out⟩
  · have hlt' : decide ((xs.length : Int) ≤ (k : Int)) = true := decide_eq_true (by omega)
    have hlt'' : decide (xs.length ≤ k) = true := decide_eq_true (by omega)
    go_enter Try.func26, Try.ntmps26
    go_wp2_with fail
    go_quiet (fail)
    have hcV := hc.keep (below_drew W nq)
    have hiV := hints.keep (below_drew W nq)
    have hgV : W.grownBy (W.drewN nq) (some nS) := grown_of_below (below_drew W nq)
    clear k0 k1 k2 k3 k4
    have hzV : (W.drewN nq).heap.size = W.heap.size := rfl
    generalize W.drewN nq = V at hcV hiV hgV hzV ⊢
    have HZ := Lib.hid hzV
    clear hzV
    go_wp2
    go_ret
    have hmn : min (k + 1) xs.length = k := by omega
    exact ⟨0, by unfold nextV; rw [List.getElem?_eq_none (by omega)], by omega, by omega, rfl, hgV, by rw [hmn]; exact ⟨hk, hcV, hiV, hoff, hlen⟩, HZ.out⟩
/-- The world inside Vertices. -/
structure NK (W1 : World) (nS : Nat) (os : Option Addr) (cap : Nat) (xs : List Int) (i : Nat) (ps : List Nat) (v : Value) (W : World) : Prop where
  gr : W1.grownBy W (some nS)
  src : SrcK W nS os cap xs i
  own : W.ownsRow W1.heap.size 3 1 v ps.length (nvals ps).flatten
  hb : W1.heap.size ≤ W.heap.size
  hs : nS < W1.heap.size
  i0 : Sl W1 os 1 (pvals xs)
theorem NK.call {W1 W W' : World} {nS : Nat} {os : Option Addr} {cap : Nat} {xs : List Int} {i : Nat} {ps : List Nat} {v : Value} (h : NK W1 nS os cap xs i ps v W) (hg : W.grownBy W' (some nS)) {i' : Nat} (hS : SrcK W' nS os cap xs i') : NK W1 nS os cap xs i' ps v W' :=
  ⟨grown_trans h.gr hg, hS, own_blk h.own fun g _ hl hb => hg.block g hl (fun e => by injection e; have := h.hs; omega), Nat.le_trans h.hb hg.size, h.hs, h.i0⟩
theorem NK.keep {W1 W W' : World} {nS : Nat} {os : Option Addr} {cap : Nat} {xs : List Int} {i : Nat} {ps : List Nat} {v : Value} (h : NK W1 nS os cap xs i ps v W) (hb : Below W.heap.size W W') : NK W1 nS os cap xs i ps v W' :=
  ⟨grown_trans h.gr (grown_of_below hb), h.src.keepB hb, own_keep h.own hb, Nat.le_trans h.hb hb.size, h.hs, h.i0⟩
theorem NK.app {W1 W W' : World} {nS : Nat} {os : Option Addr} {cap : Nat} {xs : List Int} {i : Nat} {ps : List Nat} {p : Nat} {v v' : Value} (h : NK W1 nS os cap xs i ps v W) (ho : W'.ownsRow W1.heap.size 3 1 v' (ps.length + 1) ((nvals ps).flatten ++ [.int .i64 (p : Nat)])) (hg : W.grownBy W' v.ownBlock) :
    NK W1 nS os cap xs i (ps ++ [p]) v' W' := by
  have B1 : Below W1.heap.size W W' := grown_below h.own hg h.hb
  refine ⟨grown_low h.gr B1, h.src.low h.i0 h.hs B1, ?_, Nat.le_trans h.hb B1.size, h.hs, h.i0⟩
  rw [nflat_snoc, List.length_append]
  exact ho
theorem NK.done {W1 W : World} {nS : Nat} {os : Option Addr} {cap : Nat} {xs : List Int} {i : Nat} {ps : List Nat} {v : Value} (h : NK W1 nS os cap xs i ps v W) : ∃ oa ca, v = .slice oa ps.length ca ∧ Sl W oa 1 (nvals ps) ∧ ∀ a, oa = some a → W1.heap.size ≤ a.block := by
  have ho := h.own
  rw [← nvals_len] at ho
  obtain ⟨oa, ca, hv, hs⟩ := own_rows (nvals_one ps) ho
  rw [nvals_len] at hv
  subst hv
  exact ⟨oa, ca, rfl, hs, own_fresh ho⟩

/-- The vertices that are made. -/
def vertsTo (T : Tm) (xs : List Int) (k : Nat) : List Nat := (List.range k).map fun i => (nextV xs i (((T.ms[i]?).map fun m => (m.n : Int)).getD 1)).toNat
theorem vertsTo_snoc {T : Tm} {xs : List Int} {ps : List Nat} {m : Mp} {q : Nat} (h : ps = vertsTo T xs ps.length) (hm : T.ms[ps.length]? = some m) (hq : (q : Int) = nextV xs (min ps.length xs.length) m.n) : ps ++ [q] = vertsTo T xs (ps ++ [q]).length := by
  rw [List.length_append]
  show ps ++ [q] = vertsTo T xs (ps.length + 1)
  unfold vertsTo
  rw [List.range_succ, List.map_append, ← vertsTo, ← h]
  simp only [List.map_cons, List.map_nil, hm, Option.map_some, Option.getD_some]
  rw [nextV_min] at hq
  rw [← hq]
  rfl
def VertF (T : Tm) (xs : List Int) (w : World) (e : Ending) (W : World) : Prop := ∃ (oa : Option Addr) (ca : Nat), e = .returned (.slice oa (vertsTo T xs T.ms.length).length ca) ∧ Sl W oa 1 (nvals (vertsTo T xs T.ms.length)) ∧ Below w.heap.size w W ∧ ∀ a, oa = some a → w.heap.size ≤ a.block

set_option maxRecDepth 100000 in
set_option maxHeartbeats 4000000 in
theorem verts_fun (om oc os : Option Addr) (cm cc cap : Nat) (T : Tm) (xs : List Int) (w : World) (hO : TeamOk T) (hT : TeamAt w om oc T) (hX : Sl w os 1 (pvals xs)) (hxl : xs.length ≤ 9223372036854775807) :
    Calls Try.prog 10 #[T.val om oc cm cc, .slice os xs.length cap] w (VertF T xs w) := by
  unfold Tm.val
  obtain ⟨n1, n2, mo, cn, cf⟩ := id hO
  have HMO := Lib.hid mo
  clear hO mo cf cn
  obtain ⟨bm, offm, rfl, hMr⟩ := hT.ms (map_ne (k := 0) (by omega))
  clear hT
  go_enter Try.func10, Try.ntmps10
  go_upto_region 1 with fail
  have hbx_ := boxes1 w [.slice (some ⟨bm, offm, none⟩) T.ms.length cm, .slice oc T.cs.length cc] 26
  replace hMr := hMr.keep hbx_.2
  replace hX := hX.keep hbx_.2
  have HB := Lib.hid (hbx_.2)
  have hod : w.heap.size ≤ w.heap.size := by omega
  generalize w.alloc (.cells #[.slice (some ⟨bm, offm, none⟩) T.ms.length cm, .slice oc T.cs.length cc] 26) = W0 at hbx_ hMr hX HB ⊢
  obtain ⟨r2, hbel_⟩ := hbx_
  obtain ⟨n2', hn_⟩ : ∃ n, n = w.heap.size := ⟨_, rfl⟩
  rw [← hn_] at r2 ⊢
  replace hod := Nat.le_of_eq hn_.symm
  clear hn_ hbel_
  go_wp2_with fail
  refine (from_any os cap xs.length W0).mono ?_
  rintro e W1 ⟨rfl, rfl⟩
  have hbA : Below W0.heap.size W0 (W0.alloc (.cells #[.slice os xs.length cap, .int .i64 0] 116)) := (Below.refl _ _).alloc (Nat.le_refl _) _
  have hC2 := Cells2.new W0 (.slice os xs.length cap) (.int .i64 0) 116
  have hl2 := r2.lt
  replace r2 := r2.keep hbA
  have hlm := hMr.lt
  replace hMr := hMr.keep hbA
  have hX1 := hX.keep hbA
  have hoff : pvals xs ≠ [] → ∀ b o s, os = some ⟨b, o, s⟩ → b ≠ W0.heap.size := fun h b o s he => by
    obtain ⟨b', off', e1, hr⟩ := hX h
    rw [he] at e1; injection e1 with e1; injection e1 with e1 _ _
    have := hr.lt; omega
  have hS : SrcK (W0.alloc (.cells #[.slice os xs.length cap, .int .i64 0] 116)) W0.heap.size os cap xs 0 := ⟨by omega, hC2, hX1, fun h => hoff (fun h0 => h (by simpa [pvals] using h0)), hxl⟩
  have HB1 := Lib.hid (below_call HB.out hbA)
  have hnS : w.heap.size ≤ W0.heap.size := HB.out.size
  clear hbA hC2 hX HB hoff
  generalize W0.alloc (.cells #[.slice os xs.length cap, .int .i64 0] 116) = W1 at *
  generalize W0.heap.size = nS at *
  have hI : NK W1 nS os cap xs 0 [] (.slice none 0 0) W1 := ⟨grown_of_below (Below.refl _ _), hS, World.ownsRow_nil _ _ _ _, Nat.le_refl _, hS.cells.lt, hX1⟩
  have hr2 : n2' ≠ nS := by omega
  have hrm : bm ≠ nS := by omega
  clear hS hX1
  go_wp2_with fail
  go_loopw [6, 7] (fun v i W => ∃ ps : List Nat, ps = vertsTo T xs ps.length ∧ ps.length ≤ T.ms.length ∧ i = .int .i64 (ps.length : Nat) ∧ (∀ (k x : Nat) (m : Mp), ps[k]? = some x → T.ms[k]? = some m → x < m.n) ∧ NK W1 nS os cap xs (min ps.length xs.length) ps v W) (fun _ i _ => T.ms.length - (intOf i).toNat)
  case atStart => exact ⟨[], rfl, by simp, rfl, by simp, by rw [show min ([] : List Nat).length xs.length = 0 from Nat.zero_min _]; exact hI⟩
  case round =>
    clear hI
    obtain ⟨ps, hps, hk, rfl, hV, hI⟩ := hrel
    have HPS := Lib.hid hps
    clear hps
    have HV := Lib.hid hV
    clear hV
    have R2 := r2.keepG hI.gr hr2
    have s0 : wr.cell? ⟨n2', 0, none⟩ = some (.slice (some ⟨bm, offm, none⟩) T.ms.length cm) := R2.c 0 _ rfl
    have l2 := R2.lt
    by_cases hlt : ps.length < T.ms.length
    · obtain ⟨m, hm⟩ : ∃ r, T.ms[ps.length]? = some r := ⟨_, List.getElem?_eq_getElem hlt⟩
      have x0 : wr.cell? ⟨bm, offm + ps.length * 2, none⟩ = some (.slice m.op m.n m.cp) := (hMr.keepG hI.gr hrm).c _ _ (map_get hm) 0 _ rfl
      have hn := HMO.out m (List.mem_of_getElem? hm)
      have hn1 := hn.n1
      have hn2 := hn.n2
      have HM := Lib.hid hm
      clear hn hm
      go_wp2_with fail
      refine (next_at wr nS os cap (min ps.length xs.length) xs m.n hI.src (by omega) (by omega)).mono ?_
      rintro e W2 ⟨q, hqv, q0, q1, rfl, hg2, hS2, -⟩
      obtain ⟨q, rfl, q2⟩ := nat_int q0 q1
      have HQV := Lib.hid hqv
      clear hqv
      replace hI := hI.call hg2 hS2
      clear hg2 hS2 x0 s0 l2 R2
      obtain ⟨i0, hi, hz0, hz1, hz2⟩ := info_parts info3
      have HC2 := Lib.hid (hI.keep (W' := W2.alloc (.cells #[.int .i64 (q : Nat)] 3)) ((Below.refl _ _).alloc (Nat.le_refl _) _))
      go_wp2_with (at_builtin; refine wpList_append_own _ rfl _ _ 22 rfl W1.heap.size 3 i0 (.int .i64 0) 1 8 under22 hi hz0 hz1 hz2 rfl (by decide) _ _ _ rfl HC2.out.own ⟨W2.heap.size, 0, none⟩ 1 1 [.int .i64 (q : Nat)] rfl rfl ?c1 ?c2 ?c3 ?c4 ?c5 ?_)
      case c1 => exact new_cells _ _ _
      case c2 => intro u hu; simp at hu; subst hu; rfl
      case c3 => unfold maxLen; omega
      case c4 => omega
      case c5 => exact HC2.out.hb
      intro v' w' hown' hgrow _
      have HN := Lib.hid (HC2.out.app hown' hgrow)
      clear hown' hgrow HC2 hI hi hz0 hz1 hz2
      go_wp2
      go_roundw
      case rel =>
        refine ⟨ps ++ [q], vertsTo_snoc HPS.out HM.out HQV.out, by simp; omega, by simp, fun k x m' hk' hm' => ?_, by rw [List.length_append, show min (ps.length + [q].length) xs.length = min (min ps.length xs.length + 1) xs.length by simp only [List.length_cons, List.length_nil]; omega]; exact HN.out⟩
        rcases Nat.lt_trichotomy k ps.length with h | h | h
        · exact HV.out k x m' (by rwa [List.getElem?_append_left h] at hk') hm'
        · subst h
          rw [HM.out] at hm'
          cases hm'
          simp at hk'
          omega
        · rw [List.getElem?_eq_none (by simp; omega)] at hk'; cases hk'
      case measure => simp [intOf]; omega
    · obtain ⟨oa, ca, rfl, hs, hf⟩ := hI.done
      have hle : ps.length = T.ms.length := by omega
      have HI := Lib.hid hI
      have HS := Lib.hid hs
      have HF := Lib.hid hf
      clear hI hs hf
      go_wp2
      go_ret
      have hvp : vertsTo T xs T.ms.length = ps := by rw [← hle]; exact HPS.out.symm
      refine ⟨oa, ca, by rw [hvp]; rfl, by rw [hvp]; exact HS.out, ?_, fun a ha => Nat.le_trans HB1.out.size (HF.out a ha)⟩
      exact (grown_fresh HB1.out HI.out.gr hnS)
end Go.Proofs.Jn
end

