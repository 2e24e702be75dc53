/-
  Texts put together: Dh Di Dj Dk Dl.
-/
import Derived.Test.YtemchlakoalhcaaZJointCloses15
set_option linter.unusedVariables false
section
/-
  Walks: expand.
-/
namespace Go.Proofs.Jn
open Go.RowKit Go.Shelf

/-- What expand answers. -/
def ExpE {σ : Type} (G : Gh σ) (r : Bool × σ) (c : Nat) (s : σ) (W : World) (e : Ending) (W' : World) : Prop := e = .returned (.bool r.1) ∧ Stp G.Own s W r.2 W' ∧ G.Inv r.2 W' ∧ G.R c r.2
set_option maxRecDepth 100000 in
set_option maxHeartbeats 4000000 in
theorem expand_any {σ : Type} (G : Gh σ) (W0 : World) (on : Option Addr) (es : List NxE) (cn gm : Nat) (l : List ((Mv × Mv) × Value)) (f : S4) (a : Nat → Nat) (L : Nat) (hG : GhOk G (es.map NxE.ls) a W0.heap.size) (hC : CrewAt W0 on es gm l) (hv : ∀ e ∈ l, e.2 = .bool true) (hn : es.length ≤ 4)
    (ha : ∀ i, i < es.length → f.get i = (a i : Nat)) (hb : ∀ (i : Nat) (e : NxE), es[i]? = some e → a i < e.ls.length ∧ e.ls.length ≤ 100000 ∧ ∀ x ∈ e.ls, x.length ≤ L) (hL : L ≤ 100000) :
    ∀ (d k : Nat) (t : S4) (s : σ) (c : Nat) (w : World), k + d = es.length → CK (crewUses on es gm) W0 w → G.Inv s w → (∀ b, G.Own s w b → ¬ crewUses on es gm b) → G.R (c + L ^ d) s → G.InTo (es.map NxE.ls) a k t → (d = 0 → G.op s t es.length = true) →
    Calls Try.prog 47 #[.agg #[.slice on es.length cn, .map (some gm)], f.v, t.v, .int .i64 (k : Nat), .func (.func G.fo) G.Fo #[], .func (.func G.fv) #[] G.Cv] w (ExpE G (expF (es.map NxE.ls) (frB l a) G.op G.vi a d k t s) c s w) := by
  intro d
  induction d with
  | zero =>
    intro k t s c w hk hW hI hO hR hT ho
    unfold S4.v
    go_enter Try.func47, Try.ntmps47
    go_upto_region 1 with fail
    have hbx_ := boxes3 w [.slice on es.length cn, .map (some gm)] [.int .i64 f.a, .int .i64 f.b, .int .i64 f.c, .int .i64 f.d] [.int .i64 t.a, .int .i64 t.b, .int .i64 t.c, .int .i64 t.d] 82 84 84
    have HB := Lib.hid (hbx_.2.2.2)
    generalize ((w.alloc (.cells #[.slice on es.length cn, .map (some gm)] 82)).alloc (.cells #[.int .i64 f.a, .int .i64 f.b, .int .i64 f.c, .int .i64 f.d] 84)).alloc (.cells #[.int .i64 t.a, .int .i64 t.b, .int .i64 t.c, .int .i64 t.d] 84) = W1 at hbx_ HB ⊢
    obtain ⟨r6, r7, r8, hbel_⟩ := hbx_
    generalize w.heap.size + 1 + 1 = n8 at r8  ⊢
    generalize w.heap.size + 1 = n7 at r7  ⊢
    obtain ⟨n6, hn_⟩ : ∃ n, n = w.heap.size := ⟨_, rfl⟩
    rw [← hn_] at r6 ⊢
    clear hn_ hbel_
    have hI1 := hG.keep s w W1 hI HB.out
    have hkn : ((k : Int) == (es.length : Int)) = true := by simp; omega
    have ev : ∀ args w, (callFunc G.fv args).run Try.prog w = .ok (.enter G.fv args) w := hG.ev
    have HV := Lib.hid (hG.callV s W1 t c hI1 (by simpa using hR) (by rw [List.length_map]; have : k = es.length := by omega
                                                                      rw [← this]; exact hT) (by rw [List.length_map]; exact ho rfl))
    have a0 : W1.cell? ⟨n6, 0, none⟩ = some (.slice on es.length cn) := r6.c 0 _ rfl
    have a1 : W1.cell? ⟨n6, 1, none⟩ = some (.map (some gm)) := r6.c 1 _ rfl
    have l6 := r6.lt
    have b0 : W1.cell? ⟨n8, 0, none⟩ = some (.int .i64 t.a) := r8.c 0 _ rfl
    have b1 : W1.cell? ⟨n8, 1, none⟩ = some (.int .i64 t.b) := r8.c 1 _ rfl
    have b2 : W1.cell? ⟨n8, 2, none⟩ = some (.int .i64 t.c) := r8.c 2 _ rfl
    have b3 : W1.cell? ⟨n8, 3, none⟩ = some (.int .i64 t.d) := r8.c 3 _ rfl
    have l8 := r8.lt
    unfold S4.v at HV
    go_wp2_with (go_at_fn G.fv; refine HV.out.mono ?_; rintro e w' ⟨rfl, hS, hI', hR'⟩)
    go_ret
    exact ⟨rfl, hS.low (fun b => hG.ownB s w W1 b hI HB.out) HB.out, hI', hR'⟩
  | succ d ih =>
    intro k t s c w hk hW hI hO hR hT ho
    have hkl : k < es.length := by omega
    obtain ⟨e, he⟩ : ∃ r, es[k]? = some r := ⟨_, List.getElem?_eq_getElem hkl⟩
    obtain ⟨hak, hel, hll⟩ := hb k e he
    obtain ⟨lv, hlv⟩ : ∃ r, e.ls[a k]? = some r := ⟨_, List.getElem?_eq_getElem hak⟩
    have hnx : nextAt (es.map NxE.ls) k (a k) = lv := by simp [nextAt, he, hlv]
    have hlvL : lv.length ≤ L := hll lv (List.mem_of_getElem? hlv)
    obtain ⟨F, hF⟩ : ∃ F : Nat → σ → Bool × σ, F = fun (v : Nat) s => if G.op s (t.set k v) (k + 1) && frB l a (t.set k v) k then expF (es.map NxE.ls) (frB l a) G.op G.vi a d (k + 1) (t.set k v) s else (false, s) := ⟨_, rfl⟩
    have hexp : expF (es.map NxE.ls) (frB l a) G.op G.vi a (d + 1) k t s = loopF F lv s := by rw [hF, ← hnx]; rfl
    rw [hexp]
    have hW1 : Below w.heap.size w w := Below.refl _ _
    have hI0 := hI
    have HIH := Lib.hid ih
    have HG := Lib.hid hG
    have HC0 := Lib.hid hC
    have HV := Lib.hid hv
    have HHW := Lib.hid hW
    have HO := Lib.hid hO
    have HT := Lib.hid hT
    have HAI := Lib.hid ha
    have HF := Lib.hid hF
    have HNX := Lib.hid hnx
    have HFK : Hid (f.get k = (a k : Nat)) := Lib.hid (ha k hkl)
    obtain ⟨bn, offn, hon, hNr⟩ := (hC.keepC hW).nx (map_ne hkl)
    have hE := (hC.keepC hW).ok e (List.mem_of_getElem? he)
    obtain ⟨ou, cu, hcu, hSu, hUse⟩ := (hC.ok e (List.mem_of_getElem? he)).rowU hlv
    have hcu' : w.cell? ⟨e.g, a k, none⟩ = some (.slice ou lv.length cu) := by rw [← hcu]; exact hW.cell (.inr (.inr ⟨e, List.mem_of_getElem? he, .inl rfl⟩)) (a k)
    have HCB : Hid (∀ b off s, ou = some ⟨b, off, s⟩ → crewUses on es gm b) := Lib.hid fun b off s h => .inr (.inr ⟨e, List.mem_of_getElem? he, hUse b off s h⟩)
    have HCL : Hid (∀ b, crewUses on es gm b → b < W0.heap.size) := Lib.hid hC.lt
    clear hUse
    have HSU := Lib.hid hSu
    have x0 : w.cell? ⟨bn, offn + k, none⟩ = some (.slice (some ⟨e.g, 0, none⟩) e.ls.length e.cap) := by have := hNr.c k _ (map_get he) 0 _ rfl; simpa [NxE.v] using this
    have lbn := hNr.lt
    have lge := NB.lt hE
    clear ih hG hv hO hT ha hF hb hll hNr hSu hnx hexp hcu he hlv hE hC hI ho
    subst hon
    unfold S4.v
    have hkn : ((k : Int) == (es.length : Int)) = false := nat_bne (by omega)
    go_enter Try.func47, Try.ntmps47
    go_upto_region 1 with fail
    have hbx_ := blks3 w [.slice (some ⟨bn, offn, none⟩) es.length cn, .map (some gm)] [.int .i64 f.a, .int .i64 f.b, .int .i64 f.c, .int .i64 f.d] [.int .i64 t.a, .int .i64 t.b, .int .i64 t.c, .int .i64 t.d] 82 84 84
    have HB := Lib.hid (hbx_.2.2.2)
    have hod : w.heap.size ≤ w.heap.size ∧ w.heap.size < w.heap.size + 1 ∧ w.heap.size + 1 < w.heap.size + 1 + 1 := by omega
    generalize ((w.alloc (.cells #[.slice (some ⟨bn, offn, none⟩) es.length cn, .map (some gm)] 82)).alloc (.cells #[.int .i64 f.a, .int .i64 f.b, .int .i64 f.c, .int .i64 f.d] 84)).alloc (.cells #[.int .i64 t.a, .int .i64 t.b, .int .i64 t.c, .int .i64 t.d] 84) = W1 at hbx_ HB ⊢
    obtain ⟨r6, r7, r8, hbel_⟩ := hbx_
    generalize w.heap.size + 1 + 1 = n8 at r8 hod ⊢
    generalize w.heap.size + 1 = n7 at r7 hod ⊢
    obtain ⟨n6, hn_⟩ : ∃ n, n = w.heap.size := ⟨_, rfl⟩
    rw [← hn_] at r6 ⊢
    replace hod := And.intro (Nat.le_of_eq hn_.symm) (hn_ ▸ hod.2)
    clear hn_ hbel_
    replace x0 := (HB.out.cell (p := ⟨bn, offn + k, none⟩) lbn).trans x0
    replace hcu' := (HB.out.cell (p := ⟨e.g, a k, none⟩) lge).trans hcu'
    have lbn1 := Nat.lt_of_lt_of_le lbn HB.out.size
    have lge1 := Nat.lt_of_lt_of_le lge HB.out.size
    have b0 : W1.cell? ⟨n6, 0, none⟩ = some (.slice (some ⟨bn, offn, none⟩) es.length cn) := r6.c 0 _ rfl
    have b1 : W1.cell? ⟨n6, 1, none⟩ = some (.map (some gm)) := r6.c 1 _ rfl
    have l6 := r6.lt
    have l7 := r7.lt
    have l8 := r8.lt
    have y7 : W1.cell? ⟨n7, k, none⟩ = some (.int .i64 (a k : Nat)) := by rw [← HFK.out]; exact r7.c k _ (f.l_get k (by omega))
    go_upto_region 3 with fail
    go_quiet (fail)
    have hBV := below_drew W1 nq
    replace r6 := r6.keep hBV
    replace r7 := r7.keep hBV
    replace r8 := r8.keep hBV
    have HBV := Lib.hid (below_call HB.out hBV)
    clear x0 hcu' lbn1 lge1 b0 b1 l6 l7 l8 y7 hBV HB lbn lge
    generalize W1.drewN nq = V at r6 r7 r8 HBV ⊢
    have hno : ∀ n, w.heap.size ≤ n → n < V.heap.size → ∀ s1 X, (∀ b, G.Own s1 X b → G.Own s w b ∨ V.heap.size ≤ b) → ¬ G.Own s1 X n := fun n h1 h2 s1 X h3 h4 => by
      rcases h3 n h4 with h5 | h5
      · have := HG.out.own s w n hI0 h5; omega
      · omega
    have n6' : w.heap.size ≤ n6 := by omega
    have n7' : w.heap.size ≤ n7 := by omega
    have n8' : w.heap.size ≤ n8 := by omega
    have hne6 : n6 ≠ n8 := by omega
    have hne7 : n7 ≠ n8 := by omega
    have HNO := Lib.hid hno
    have HBD := Lib.hid (And.intro n6' (And.intro n7' (And.intro n8' (And.intro hne6 hne7))))
    have HL6 := Lib.hid r6.lt
    have HL7 := Lib.hid r7.lt
    have HL8 := Lib.hid r8.lt
    clear hno n6' n7' n8' hne6 hne7 hod
    go_wp2_with fail
    go_loopw [34] (fun i X => ∃ (j : Nat) (s1 : σ) (u : S4), i = .int .i64 (j : Nat) ∧ j ≤ lv.length ∧ Stp G.Own s w s1 X ∧ (∀ b, G.Own s1 X b → G.Own s w b ∨ V.heap.size ≤ b) ∧ V.heap.size ≤ X.heap.size ∧ G.Inv s1 X ∧ G.R (c + (lv.length - j) * L ^ d) s1 ∧ Blk X n6 [.slice (some ⟨bn, offn, none⟩) es.length cn, .map (some gm)] ∧ Blk X n7 f.l ∧ Blk X n8 u.l ∧ (∀ x, u.set k x = t.set k x) ∧ loopF F lv s = loopF F (lv.drop j) s1) (fun i _ => lv.length - (intOf i).toNat)
    case atStart => exact ⟨0, s, t, rfl, by omega, Stp.of_below (fun b => HG.out.ownB s w V b hI0 HBV.out) HBV.out, fun b h => .inl (HG.out.ownB s w V b hI0 HBV.out h), Nat.le_refl _, HG.out.keep s w V hI0 HBV.out, HG.out.mono _ _ s hR (by rw [Nat.pow_succ, Nat.mul_comm (L ^ d) L]; exact Nat.add_le_add_left (Nat.mul_le_mul_right _ (by omega)) _), r6, r7, r8, fun x => rfl, rfl⟩
    case round =>
      clear r6 r7 r8
      obtain ⟨j, s1, u, rfl, hj, hS, hOw, hVs, hI, hR1, r6, r7, r8, hu, hlp⟩ := hrel
      have HLP := Lib.hid hlp
      have HU := Lib.hid hu
      have HOW := Lib.hid hOw
      have HR1 := Lib.hid hR1
      clear hlp hu hR1 hOw
      by_cases hlt : j < lv.length
      · obtain ⟨x, hx⟩ : ∃ r, lv[j]? = some r := ⟨_, List.getElem?_eq_getElem hlt⟩
        have HX := Lib.hid hx
        obtain ⟨bu, offu, hou, hUr⟩ := HSU.out (nvals_ne hlt)
        subst hou
        have HW0 := Lib.hid (hS.ck HHW.out HCL.out HO.out)
        have hUr2 := hUr.keepQ HW0.out.size (HW0.out.block bu (HCB.out bu offu none rfl))
        have x0 : wr.cell? ⟨bu, offu + j, none⟩ = some (.int .i64 (x : Nat)) := by have := hUr2.c j _ (nvals_get hx) 0 _ rfl; simpa using this
        have lu := hUr2.lt
        have HS := Lib.hid hS
        have hnx8 := HNO.out n8 HBD.out.2.2.1 HL8.out s1 wr HOW.out
        have c8 : wr.cell? ⟨n8, k, none⟩ = some (.int .i64 (u.get k)) := r8.c k _ (u.l_get k (by omega))
        have f8 := r8.f k
        have l8 := r8.lt
        clear hS hx hUr hUr2
        go_upto_region 7 with fail
        have r8n : Blk (wr.setCell ⟨n8, k, none⟩ (.int .i64 (x : Nat))) n8 (t.set k (x : Nat)).l := by
          have := r8.put k (.int .i64 (x : Nat))
          rw [← S4.l_set u k _ (by omega), HU.out] at this
          exact this
        have hst : ∀ b, b ≠ n8 → (wr.setCell ⟨n8, k, none⟩ (.int .i64 (x : Nat))).heap[b]? = wr.heap[b]? := fun b hb => Below.heap_setCell wr ⟨n8, k, none⟩ _ b hb
        have hsz : wr.heap.size ≤ (wr.setCell ⟨n8, k, none⟩ (.int .i64 (x : Nat))).heap.size := by simp [World.setCell]
        replace r6 := r6.keepN (hst n6 HBD.out.2.2.2.1) hsz
        replace r7 := r7.keepN (hst n7 HBD.out.2.2.2.2) hsz
        have hI2 := HG.out.kset s1 wr n8 k (.int .i64 (x : Nat)) hI (Nat.le_trans HHW.out.size HBD.out.2.2.1) hnx8 l8
        have HS2 := Lib.hid (HS.out.set (i := k) HBD.out.2.2.1 (.int .i64 (x : Nat)) (fun b => HG.out.ownS s1 wr n8 k _ b hI (Nat.le_trans HHW.out.size HBD.out.2.2.1) hnx8))
        have HO2 : Hid (∀ b, G.Own s1 (wr.setCell ⟨n8, k, none⟩ (.int .i64 (x : Nat))) b → G.Own s w b ∨ V.heap.size ≤ b) := Lib.hid fun b h => HOW.out b (HG.out.ownS s1 wr n8 k _ b hI (Nat.le_trans HHW.out.size HBD.out.2.2.1) hnx8 h)
        have hVs2 : V.heap.size ≤ (wr.setCell ⟨n8, k, none⟩ (.int .i64 (x : Nat))).heap.size := Nat.le_trans hVs hsz
        clear hI r8 x0 lu c8 f8 l8 hst hsz hnx8 HS HW0 hVs HOW
        generalize wr.setCell ⟨n8, k, none⟩ (.int .i64 (x : Nat)) = Y at r8n r6 r7 hI2 HS2 HO2 hVs2 ⊢
        obtain ⟨t2, ht2⟩ : ∃ r, r = t.set k (x : Nat) := ⟨_, rfl⟩
        rw [← ht2] at r8n
        have r8 := r8n
        clear r8n
        have HT2 := Lib.hid ht2
        clear ht2
        have HOC := Lib.hid (HG.out.callO s1 Y t2 (k + 1) hI2 (by rw [List.length_map]; omega))
        unfold S4.v at HOC
        have eo : ∀ args w, (callFunc G.fo args).run Try.prog w = .ok (.enter G.fo args) w := HG.out.eo
        have hstep := loopF_drop (f := F) HX.out s1
        have b0 : Y.cell? ⟨n6, 0, none⟩ = some (.slice (some ⟨bn, offn, none⟩) es.length cn) := r6.c 0 _ rfl
        have b1 : Y.cell? ⟨n6, 1, none⟩ = some (.map (some gm)) := r6.c 1 _ rfl
        have d0 : Y.cell? ⟨n7, 0, none⟩ = some (.int .i64 f.a) := r7.c 0 _ rfl
        have d1 : Y.cell? ⟨n7, 1, none⟩ = some (.int .i64 f.b) := r7.c 1 _ rfl
        have d2 : Y.cell? ⟨n7, 2, none⟩ = some (.int .i64 f.c) := r7.c 2 _ rfl
        have d3 : Y.cell? ⟨n7, 3, none⟩ = some (.int .i64 f.d) := r7.c 3 _ rfl
        have e0 : Y.cell? ⟨n8, 0, none⟩ = some (.int .i64 t2.a) := r8.c 0 _ rfl
        have e1 : Y.cell? ⟨n8, 1, none⟩ = some (.int .i64 t2.b) := r8.c 1 _ rfl
        have e2 : Y.cell? ⟨n8, 2, none⟩ = some (.int .i64 t2.c) := r8.c 2 _ rfl
        have e3 : Y.cell? ⟨n8, 3, none⟩ = some (.int .i64 t2.d) := r8.c 3 _ rfl
        have l6 := r6.lt
        have l7 := r7.lt
        have l8 := r8.lt
        go_wp2_with fail
        refine HOC.out.mono ?_
        rintro e9 X2 ⟨rfl, hb⟩
        clear b0 b1 d0 d1 d2 d3 e0 e1 e2 e3 l6 l7 l8
        replace r6 := r6.keep hb
        replace r7 := r7.keep hb
        replace r8 := r8.keep hb
        have hI3 := HG.out.keep s1 Y X2 hI2 hb
        have HS3 := Lib.hid (HS2.out.trans (Stp.of_below (fun b => HG.out.ownB s1 Y X2 b hI2 hb) hb))
        have HO3 : Hid (∀ b, G.Own s1 X2 b → G.Own s w b ∨ V.heap.size ≤ b) := Lib.hid fun b h => HO2.out b (HG.out.ownB s1 Y X2 b hI2 hb h)
        have hVs3 := Nat.le_trans hVs2 hb.size
        clear hb hI2 HS2 HO2 hVs2 eo HOC
        have b0 : X2.cell? ⟨n6, 0, none⟩ = some (.slice (some ⟨bn, offn, none⟩) es.length cn) := r6.c 0 _ rfl
        have b1 : X2.cell? ⟨n6, 1, none⟩ = some (.map (some gm)) := r6.c 1 _ rfl
        have d0 : X2.cell? ⟨n7, 0, none⟩ = some (.int .i64 f.a) := r7.c 0 _ rfl
        have d1 : X2.cell? ⟨n7, 1, none⟩ = some (.int .i64 f.b) := r7.c 1 _ rfl
        have d2 : X2.cell? ⟨n7, 2, none⟩ = some (.int .i64 f.c) := r7.c 2 _ rfl
        have d3 : X2.cell? ⟨n7, 3, none⟩ = some (.int .i64 f.d) := r7.c 3 _ rfl
        have e0 : X2.cell? ⟨n8, 0, none⟩ = some (.int .i64 t2.a) := r8.c 0 _ rfl
        have e1 : X2.cell? ⟨n8, 1, none⟩ = some (.int .i64 t2.b) := r8.c 1 _ rfl
        have e2 : X2.cell? ⟨n8, 2, none⟩ = some (.int .i64 t2.c) := r8.c 2 _ rfl
        have e3 : X2.cell? ⟨n8, 3, none⟩ = some (.int .i64 t2.d) := r8.c 3 _ rfl
        have l6 := r6.lt
        have l7 := r7.lt
        have l8 := r8.lt
        cases hop : G.op s1 t2 (k + 1) with
        | false =>
          go_wp2_with fail
          clear b0 b1 d0 d1 d2 d3 e0 e1 e2 e3 l6 l7 l8
          have hFx : F x s1 = (false, s1) := by rw [HF.out]; show (if _ then _ else _) = _; rw [← HT2.out, if_neg (by simp [hop])]
          have hnext := HLP.out.trans hstep
          rw [hFx] at hnext
          have HN := Lib.hid hnext
          have HRR := Lib.hid (HG.out.mono _ (c + (lv.length - (j + 1)) * L ^ d) s1 HR1.out (Nat.add_le_add_left (Nat.mul_le_mul_right _ (by omega)) _))
          clear hnext hFx hstep
          go_wp2_with fail
          go_roundw
          case rel => exact ⟨j + 1, s1, t2, by simp, by omega, HS3.out, HO3.out, hVs3, hI3, HRR.out, r6, r7, r8, fun y => by rw [HT2.out]; exact S4.set_set t k _ y, HN.out⟩
          case measure => simp [intOf]; omega
        | true =>
          have hInto := InTo.set (G := G) HT.out (by omega) (x := x) (by rw [HNX.out]; exact List.mem_of_getElem? HX.out)
          rw [← HT2.out] at hInto
          have HIN := Lib.hid hInto
          have hB0 := HS3.out.ck HHW.out HCL.out HO.out
          have hfc := free_any (some ⟨bn, offn, none⟩) es.length cn gm l f t2 k a (fun i => (t2.get i).toNat) X2 (by omega) (fun i hi => HAI.out i (by omega)) (fun i hi => InTo.nat hInto i (by omega)) (HC0.out.map.keepN (hB0.block gm (.inr (.inl rfl)))) HV.out
          unfold S4.v at hfc
          have HFC := Lib.hid hfc
          have HOP := Lib.hid hop
          clear hInto hB0 hfc hop
          go_wp2_with fail
          refine HFC.out.mono ?_
          rintro e9 X3 ⟨rfl, hb⟩
          clear b0 b1 d0 d1 d2 d3 e0 e1 e2 e3 l6 l7 l8
          replace r6 := r6.keep hb
          replace r7 := r7.keep hb
          replace r8 := r8.keep hb
          have hI4 := HG.out.keep s1 X2 X3 hI3 hb
          have HS4 := Lib.hid (HS3.out.trans (Stp.of_below (fun b => HG.out.ownB s1 X2 X3 b hI3 hb) hb))
          have HO4 : Hid (∀ b, G.Own s1 X3 b → G.Own s w b ∨ V.heap.size ≤ b) := Lib.hid fun b h => HO3.out b (HG.out.ownB s1 X2 X3 b hI3 hb h)
          have hVs4 := Nat.le_trans hVs3 hb.size
          clear hb hI3 HS3 HO3 hVs3 HFC
          have b0 : X3.cell? ⟨n6, 0, none⟩ = some (.slice (some ⟨bn, offn, none⟩) es.length cn) := r6.c 0 _ rfl
          have b1 : X3.cell? ⟨n6, 1, none⟩ = some (.map (some gm)) := r6.c 1 _ rfl
          have d0 : X3.cell? ⟨n7, 0, none⟩ = some (.int .i64 f.a) := r7.c 0 _ rfl
          have d1 : X3.cell? ⟨n7, 1, none⟩ = some (.int .i64 f.b) := r7.c 1 _ rfl
          have d2 : X3.cell? ⟨n7, 2, none⟩ = some (.int .i64 f.c) := r7.c 2 _ rfl
          have d3 : X3.cell? ⟨n7, 3, none⟩ = some (.int .i64 f.d) := r7.c 3 _ rfl
          have e0 : X3.cell? ⟨n8, 0, none⟩ = some (.int .i64 t2.a) := r8.c 0 _ rfl
          have e1 : X3.cell? ⟨n8, 1, none⟩ = some (.int .i64 t2.b) := r8.c 1 _ rfl
          have e2 : X3.cell? ⟨n8, 2, none⟩ = some (.int .i64 t2.c) := r8.c 2 _ rfl
          have e3 : X3.cell? ⟨n8, 3, none⟩ = some (.int .i64 t2.d) := r8.c 3 _ rfl
          have l6 := r6.lt
          have l7 := r7.lt
          have l8 := r8.lt
          cases hfr : freeB l a (fun i => (t2.get i).toNat) k with
          | false =>
            have HFR := Lib.hid hfr
            clear hfr
            go_wp2_with fail
            clear b0 b1 d0 d1 d2 d3 e0 e1 e2 e3 l6 l7 l8
            have hFx : F x s1 = (false, s1) := by rw [HF.out]; show (if _ then _ else _) = _; rw [← HT2.out, if_neg (by simp [(show frB l a t2 k = false from HFR.out)])]
            have hnext := HLP.out.trans hstep
            rw [hFx] at hnext
            have HN := Lib.hid hnext
            have HRR := Lib.hid (HG.out.mono _ (c + (lv.length - (j + 1)) * L ^ d) s1 HR1.out (Nat.add_le_add_left (Nat.mul_le_mul_right _ (by omega)) _))
            clear hnext hFx hstep
            go_wp2_with fail
            go_roundw
            case rel => exact ⟨j + 1, s1, t2, by simp, by omega, HS4.out, HO4.out, hVs4, hI4, HRR.out, r6, r7, r8, fun y => by rw [HT2.out]; exact S4.set_set t k _ y, HN.out⟩
            case measure => simp [intOf]; omega
          | true =>
            have HFR := Lib.hid hfr
            clear hfr
            have hB0 := HS4.out.ck HHW.out HCL.out HO.out
            have HSO := Lib.hid hB0.size
            have hrec := HIH.out (k + 1) t2 s1 (c + (lv.length - (j + 1)) * L ^ d) X3 (by omega) hB0 hI4 (fun b h => by
              rcases HO4.out b h with h1 | h1
              · exact HO.out b h1
              · intro hu; have := HCL.out b hu; have := HBV.out.size; have := HHW.out.size; omega) (by
              have := HR1.out
              rw [show lv.length - j = (lv.length - (j + 1)) + 1 by omega, Nat.succ_mul, ← Nat.add_assoc] at this
              exact this) HIN.out (fun h0 => by rw [← HOP.out]; congr 1; omega)
            have hFx : F x s1 = expF (es.map NxE.ls) (frB l a) G.op G.vi a d (k + 1) t2 s1 := by rw [HF.out]; show (if _ then _ else _) = _; rw [← HT2.out, if_pos (by rw [HOP.out, show frB l a t2 k = true from HFR.out]; rfl)]
            generalize expF (es.map NxE.ls) (frB l a) G.op G.vi a d (k + 1) t2 s1 = r at hrec hFx
            have hnext := HLP.out.trans hstep
            rw [hFx] at hnext
            have HN := Lib.hid hnext
            unfold S4.v at hrec
            have HREC := Lib.hid hrec
            clear hrec hFx hnext hstep hB0
            go_wp2_with fail
            refine HREC.out.mono ?_
            rintro e9 X5 ⟨rfl, hS5, hI5, hR5⟩
            obtain ⟨rb, rs⟩ := r
            have hq : ∀ n, w.heap.size ≤ n → n < V.heap.size → ¬ G.Own s1 X3 n := fun n h1 h2 => HNO.out n h1 h2 s1 X3 HO4.out
            replace r6 := hS5.blk r6 (hq n6 HBD.out.1 HL6.out)
            replace r7 := hS5.blk r7 (hq n7 HBD.out.2.1 HL7.out)
            replace r8 := hS5.blk r8 (hq n8 HBD.out.2.2.1 HL8.out)
            have HS5 := Lib.hid (HS4.out.trans hS5)
            have hOw5 : ∀ b, G.Own rs X5 b → G.Own s w b ∨ V.heap.size ≤ b := fun b h => by
              rcases hS5.own b h with h1 | h1
              · exact HO4.out b h1
              · exact .inr (by omega)
            have HOW5 := Lib.hid hOw5
            have hVs5 := Nat.le_trans hVs4 hS5.size
            have HI5 := Lib.hid hI5
            have HR5 := Lib.hid hR5
            clear b0 b1 d0 d1 d2 d3 e0 e1 e2 e3 l6 l7 l8
            clear hq hS5 hOw5 hI4 HS4 HO4 hVs4 hI5 hR5 HREC
            cases rb with
            | false =>
              go_wp2_with fail
              go_roundw
              case rel => exact ⟨j + 1, rs, t2, by simp, by omega, HS5.out, HOW5.out, hVs5, HI5.out, HR5.out, r6, r7, r8, fun y => by rw [HT2.out]; exact S4.set_set t k _ y, HN.out⟩
              case measure => simp [intOf]; omega
            | true =>
              clear r6 r7 r8
              go_wp2
              go_ret
              have hn := HN.out
              simp only [if_true] at hn
              rw [hn]
              exact ⟨rfl, HS5.out, HI5.out, HG.out.mono _ _ _ HR5.out (Nat.le_add_right _ _)⟩
      · have hje : j = lv.length := by omega
        clear r6 r7 r8
        have hn := HLP.out
        rw [hje, List.drop_length] at hn
        have hr := HR1.out
        rw [hje, Nat.sub_self, Nat.zero_mul] at hr
        have HN := Lib.hid hn
        have HS := Lib.hid hS
        have HR := Lib.hid hr
        clear hn hr hS
        go_wp2
        go_ret
        rw [HN.out]
        exact ⟨rfl, HS.out, hI, HR.out⟩
end Go.Proofs.Jn
end

section
/-
  Walks: Clone, the functions that Moves hands to expand.
-/
namespace Go.Proofs.Jn
open Go.RowKit Go.Shelf

theorem eq22 (a : Addr) (n c : Nat) (w : World) : (binOp .eql 22 (.slice (some a) n c) (.slice none 0 0)).run Try.prog w = .ok (.bool false) w := by
  have h : ∀ d : Nat, (Op.equalIn (d + 1) 22 (.slice (some a) n c) (.slice none 0 0)).run Try.prog w = .ok false w := fun d => by
    simp [Op.equalIn, run_underlying under22]
  simp only [binOp]
  simp [Op.equal, Op.maxDepth, h 9999]
set_option maxRecDepth 100000 in
set_option maxHeartbeats 4000000 in
theorem clone_any (b off ca : Nat) (xs : List Nat) (w : World) (hl : xs.length ≤ 1000) (hpos : 0 < xs.length) (hA : RowsAt w b off 1 (nvals xs)) :
    Calls Try.prog 52 #[.slice (some ⟨b, off, none⟩) xs.length ca] w fun e w' => ∃ g cap, e = .returned (.slice (some ⟨g, 0, none⟩) xs.length cap) ∧ w'.ownsRow w.heap.size 3 1 (.slice (some ⟨g, 0, none⟩) xs.length cap) xs.length (nflat xs) ∧ Below w.heap.size w w' := by
  have hal : Below w.heap.size w (w.alloc (.cells #[] 3)) := (Below.refl _ _).alloc (Nat.le_refl _) _
  have hA2 := hA.keep hal
  have hO : (w.alloc (.cells #[] 3)).ownsRow w.heap.size 3 1 (.slice (some ⟨w.heap.size, 0, none⟩) 0 0) 0 [] := World.ownsRow_made w #[] 0 (Nat.le_refl _) (by decide) rfl
  obtain ⟨i0, hi, hz0, hz1, hz2⟩ := info_parts info3
  have heq := eq22 ⟨b, off, none⟩ xs.length ca w
  go_enter Try.func52, Try.ntmps52
  go_wp2_with (at_builtin; go_loud (refine wpList_append_lies _ rfl _ _ 22 rfl w.heap.size 3 i0 (.int .i64 0) 1 8 under22 hi hz0 hz1 hz2 rfl (by decide) _ _ _ rfl hO ⟨b, off, none⟩ xs.length ca (nflat xs) rfl ?c1 ?c2 ?c3 ?c4 ?c5 ?c6 ?c7 _ rfl ?_))
  case c1 => rw [nflat_len]; omega
  case c2 =>
    intro j u hu
    simp only [nflat, List.getElem?_map, Option.map_eq_some_iff] at hu
    obtain ⟨x, hx, rfl⟩ := hu
    have := hA2.c j _ (nvals_get hx) 0 _ rfl
    rw [← this]
    congr 1
    unfold Addr.add
    split <;> simp_all
  case c3 => intro u hu; simp only [nflat, List.mem_map] at hu; obtain ⟨x, _, rfl⟩ := hu; rfl
  case c4 => exact hpos
  case c5 => unfold maxLen; omega
  case c6 => omega
  case c7 => simp
  intro g cap w9 hown hgr hat hlt
  have hb := hal.trans (grown_below hO hgr (by simp))
  have HB := Lib.hid hb
  have HO := Lib.hid hown
  clear hown hgr hat hb hA2 hA hal hi hz0 hz1 hz2 hO heq
  go_wp2
  go_ret
  exact ⟨g, cap, rfl, HO.out, HB.out⟩

set_option maxHeartbeats 4000000 in
theorem yes_any (t : S4) (k : Nat) (w : World) : Calls Try.prog 50 #[t.v, .int .i64 (k : Nat)] w (BoolP true w) := by
  unfold S4.v
  go_enter Try.func50, Try.ntmps50
  go_wp2
  go_ret
  exact boolP_mk rfl ((Below.refl _ _).alloc (Nat.le_refl _) _)

/-- The rows that Moves lists, where they lie. -/
structure LB (W : World) (nl : Nat) (ls : List (List Nat)) (vs : List Value) (vl : Value) : Prop where
  box : Blk W nl [vl]
  own : W.ownsRow (nl + 1) 22 1 vl vs.length vs
  len : vs.length = ls.length
  row : ∀ (i : Nat) (v : Value) (l : List Nat), vs[i]? = some v → ls[i]? = some l → W.ownsRow (nl + 1) 3 1 v l.length (nflat l)
  ap : ∀ v ∈ vs, ∀ b, v.ownBlock = some b → vl.ownBlock ≠ some b
theorem LB.keep {W W' : World} {nl : Nat} {ls : List (List Nat)} {vs : List Value} {vl : Value} (h : LB W nl ls vs vl) (hb : Below W.heap.size W W') : LB W' nl ls vs vl :=
  ⟨h.box.keep hb, own_keep h.own hb, h.len, fun i v l h1 h2 => own_keep (h.row i v l h1 h2) hb, h.ap⟩
theorem LB.app {W W' : World} {nl : Nat} {ls : List (List Nat)} {vs : List Value} {vl : Value} (h : LB W nl ls vs vl) (v : Value) (l : List Nat) (g c : Nat)
    (ho : W'.ownsRow (nl + 1) 22 1 (.slice (some ⟨g, 0, none⟩) (vs.length + 1) c) (vs.length + 1) (vs ++ [v])) (hg : W.grownBy W' vl.ownBlock) (hat : vl.ownBlock = some g ∨ W.heap.size ≤ g)
    (hv : W.ownsRow (nl + 1) 3 1 v l.length (nflat l)) (hap : ∀ b, v.ownBlock = some b → vl.ownBlock ≠ some b) :
    LB (W'.setCell ⟨nl, 0, none⟩ (.slice (some ⟨g, 0, none⟩) (vs.length + 1) c)) nl (ls ++ [l]) (vs ++ [v]) (.slice (some ⟨g, 0, none⟩) (vs.length + 1) c) := by
  have hxl := h.box.lt
  have hS : ∀ k, k ≠ nl → (W'.setCell ⟨nl, 0, none⟩ (.slice (some ⟨g, 0, none⟩) (vs.length + 1) c)).heap[k]? = W'.heap[k]? := fun k hk => Below.heap_setCell W' ⟨nl, 0, none⟩ _ k hk
  have hvn : ∀ k, k ≤ nl → vl.ownBlock ≠ some k := fun k hk e => by have := (own_lt h.own k e).2; omega
  have hold : ∀ (u : Value) (x : List Nat), W.ownsRow (nl + 1) 3 1 u x.length (nflat x) → (∀ b, u.ownBlock = some b → vl.ownBlock ≠ some b) → (W'.setCell ⟨nl, 0, none⟩ (.slice (some ⟨g, 0, none⟩) (vs.length + 1) c)).ownsRow (nl + 1) 3 1 u x.length (nflat x) := fun u x hu hne =>
    own_blk hu fun b hub hbl hbb => by rw [hS b (by omega), hg.block b hbl (fun e => hne b hub e.symm)]
  have hnew : ∀ (u : Value) (x : List Nat), W.ownsRow (nl + 1) 3 1 u x.length (nflat x) → (∀ b, u.ownBlock = some b → vl.ownBlock ≠ some b) → ∀ b, u.ownBlock = some b → (Value.slice (some ⟨g, 0, none⟩) (vs.length + 1) c).ownBlock ≠ some b := fun u x hu hne b hub e => by
    simp [Value.ownBlock] at e
    subst e
    rcases hat with h3 | h3
    · exact hne _ hub h3
    · have := (own_lt hu _ hub).1; omega
  have hrow : ∀ u ∈ vs, ∃ x, W.ownsRow (nl + 1) 3 1 u x.length (nflat x) := fun u hu => by
    obtain ⟨i, hi⟩ := List.getElem?_of_mem hu
    have hj : i < ls.length := by rw [← h.len]; exact (List.getElem?_eq_some_iff.1 hi).1
    exact ⟨ls[i], h.row i u _ hi (List.getElem?_eq_getElem hj)⟩
  refine ⟨(h.box.keepN (hg.block nl hxl (fun e => hvn nl (Nat.le_refl _) e.symm)) hg.size).put 0 _, ?_, by simp [h.len], fun i u x hu hx => ?_, fun u hu b hub => ?_⟩
  · rw [List.length_append]
    exact own_blk ho fun b _ _ hbb => hS b (by omega)
  · rcases Nat.lt_trichotomy i vs.length with hi | hi | hi
    · rw [List.getElem?_append_left hi] at hu
      rw [List.getElem?_append_left (by rw [← h.len]; exact hi)] at hx
      exact hold u x (h.row i u x hu hx) (h.ap u (List.mem_of_getElem? hu))
    · rw [hi, List.getElem?_append_right (Nat.le_refl _)] at hu
      rw [hi, h.len, List.getElem?_append_right (Nat.le_refl _)] at hx
      simp at hu hx
      subst hu hx
      exact hold _ _ hv hap
    · rw [List.getElem?_eq_none (by simp; omega)] at hu; cases hu
  · rcases List.mem_append.1 hu with hu | hu
    · obtain ⟨x, hx⟩ := hrow u hu
      exact hnew u x hx (h.ap u hu) b hub
    · simp at hu; subst hu
      exact hnew _ l hv hap b hub

def rowOf (N : Nat) (t : S4) : List Nat := (List.range N).map fun i => (t.get i).toNat
def usesL (nl : Nat) (vs : List Value) (vl : Value) (b : Nat) : Prop := b = nl ∨ vl.ownBlock = some b ∨ ∃ u ∈ vs, u.ownBlock = some b
theorem LB.uniq {W : World} {nl : Nat} {ls ls' : List (List Nat)} {vs vs' : List Value} {vl vl' : Value} (h : LB W nl ls vs vl) (k : LB W nl ls' vs' vl') : vl' = vl ∧ vs' = vs := by
  have h1 := h.box.c 0 _ rfl
  have h2 := k.box.c 0 _ rfl
  rw [h1] at h2
  injection h2 with h2
  subst h2
  refine ⟨rfl, ?_⟩
  obtain ⟨_, ho⟩ := h.own
  obtain ⟨_, ko⟩ := k.own
  rcases ho with ⟨rfl, h0⟩ | ⟨g, cap, cur, rfl, _, hg, _, _, _, ht⟩
  · rcases ko with ⟨_, k0⟩ | ⟨g, cap, cur, hv, _⟩
    · rw [List.length_eq_zero_iff.1 h0, List.length_eq_zero_iff.1 k0]
    · cases hv
  · rcases ko with ⟨hv, k0⟩ | ⟨g', cap', cur', hv, _, hg', _, _, _, ht'⟩
    · cases hv
    · injection hv with hv hn hc
      injection hv with hv
      injection hv with hv
      subst hv
      rw [hg] at hg'
      injection hg' with hg'
      injection hg' with hcu
      subst hcu
      rw [← ht, ← ht', hn]
theorem LB.lt {W : World} {nl : Nat} {ls : List (List Nat)} {vs : List Value} {vl : Value} (h : LB W nl ls vs vl) {b : Nat} (hb : usesL nl vs vl b) : b < W.heap.size ∧ nl ≤ b := by
  rcases hb with rfl | hb | ⟨u, hu, hb⟩
  · exact ⟨h.box.lt, Nat.le_refl _⟩
  · have := own_lt h.own b hb; omega
  · obtain ⟨i, hi⟩ := List.getElem?_of_mem hu
    have hj : i < ls.length := by rw [← h.len]; exact (List.getElem?_eq_some_iff.1 hi).1
    have := own_lt (h.row i u _ hi (List.getElem?_eq_getElem hj)) b hb
    omega
theorem LB.keepQ {W W' : World} {nl : Nat} {ls : List (List Nat)} {vs : List Value} {vl : Value} (h : LB W nl ls vs vl) (hs : W.heap.size ≤ W'.heap.size) (hb : ∀ b, usesL nl vs vl b → W'.heap[b]? = W.heap[b]?) : LB W' nl ls vs vl :=
  ⟨h.box.keepN (hb nl (.inl rfl)) hs, own_blk h.own fun g hg _ _ => hb g (.inr (.inl hg)), h.len, fun i v l h1 h2 => own_blk (h.row i v l h1 h2) fun g hg _ _ => hb g (.inr (.inr ⟨v, List.mem_of_getElem? h1, hg⟩)), h.ap⟩
/-- The ghost of Moves. -/
def ghM (nl na N ca : Nat) (oa : Option Addr) : Gh (List (List Nat)) where
  Inv s W := (∃ vs vl, LB W nl s vs vl) ∧ Blk W na [.slice oa N ca] ∧ na < nl
  Own s W b := ∃ vs vl, LB W nl s vs vl ∧ usesL nl vs vl b
  R c s := s.length + c ≤ 1000000000000
  fo := 50
  fv := 51
  Fo := #[]
  Cv := #[.pointer (some ⟨nl, 0, none⟩), .pointer (some ⟨na, 0, none⟩)]
  op _ _ _ := true
  vi s t := (false, s ++ [rowOf N t])
theorem ownM {nl na N ca : Nat} {oa : Option Addr} {W : World} {s : List (List Nat)} {vs : List Value} {vl : Value} (h : LB W nl s vs vl) (b : Nat) : (ghM nl na N ca oa).Own s W b ↔ usesL nl vs vl b := by
  constructor
  · rintro ⟨vs', vl', h', hu⟩
    obtain ⟨rfl, rfl⟩ := h.uniq h'
    exact hu
  · exact fun hu => ⟨vs, vl, h, hu⟩
theorem rowOf_len (N : Nat) (t : S4) : (rowOf N t).length = N := by simp [rowOf]
end Go.Proofs.Jn
end

section
/-
  Walks: the function that Moves hands to expand; Moves.
-/
namespace Go.Proofs.Jn
open Go.RowKit Go.Shelf

theorem rowOf_cells {W : World} {n : Nat} {t : S4} (h : Blk W n t.l) (N : Nat) (hN : N ≤ 4) (ht : ∀ i, i < N → t.get i = ((t.get i).toNat : Nat)) : RowsAt W n 0 1 (nvals (rowOf N t)) := by
  refine ⟨h.lt, fun i r hi k v hv => ?_⟩
  simp only [nvals, rowOf, List.getElem?_map, Option.map_eq_some_iff] at hi
  obtain ⟨x, ⟨j, hj, rfl⟩, rfl⟩ := hi
  obtain ⟨hlt, hji⟩ := List.getElem?_eq_some_iff.1 hj
  simp at hlt
  simp at hji
  subst hji
  have hk : k = 0 := by
    rcases Nat.eq_zero_or_pos k with h | h
    · exact h
    · rw [List.getElem?_eq_none (by simp; omega)] at hv; cases hv
  subst hk
  rw [← ht i hlt] at hv
  simp at hv
  subst hv
  have := h.c i _ (t.l_get i (by omega))
  simpa using this
theorem slice84 (n N : Nat) (hN : N ≤ 4) (w : World) : (Instr.sliceAt 84 (.pointer (some ⟨n, 0, none⟩)) none (some (.int .i64 (N : Nat))) none).run Try.prog w = .ok (.slice (some ⟨n, 0, none⟩) N 4) w := by
  match N, hN with
  | 0, _ | 1, _ | 2, _ | 3, _ | 4, _ => simp [Instr.sliceAt, go_sem, ]
set_option maxRecDepth 100000 in
set_option maxHeartbeats 4000000 in
theorem list_any (nl na N ca : Nat) (oa : Option Addr) (s : List (List Nat)) (vs : List Value) (vl : Value) (t : S4) (w : World) (hL : LB w nl s vs vl) (hA : Blk w na [.slice oa N ca]) (hna : na < nl) (hN : N ≤ 4) (hN1 : 1 ≤ N) (ht : ∀ i, i < N → t.get i = ((t.get i).toNat : Nat)) (hs : s.length < 1000000000000) :
    Calls Try.prog 51 (#[t.v] ++ #[.pointer (some ⟨nl, 0, none⟩), .pointer (some ⟨na, 0, none⟩)]) w fun e w' => e = .returned (.bool false) ∧ ∃ g c v V W9, Below w.heap.size w V ∧ W9.ownsRow (nl + 1) 22 1 (.slice (some ⟨g, 0, none⟩) (vs.length + 1) c) (vs.length + 1) (vs ++ [v]) ∧ V.grownBy W9 vl.ownBlock ∧ (vl.ownBlock = some g ∨ V.heap.size ≤ g) ∧ V.ownsRow (nl + 1) 3 1 v N (nflat (rowOf N t)) ∧ (∀ b, v.ownBlock = some b → w.heap.size ≤ b) ∧ w' = W9.setCell ⟨nl, 0, none⟩ (.slice (some ⟨g, 0, none⟩) (vs.length + 1) c) := by
  have HL0 := Lib.hid hL
  have HA0 := Lib.hid hA
  have hvl : vs.length < 1000000000000 := by rw [hL.len]; exact hs
  unfold S4.v
  go_enter Try.func51, Try.ntmps51
  go_upto_region 1 with fail
  have hbx_ := blks1 w [.int .i64 t.a, .int .i64 t.b, .int .i64 t.c, .int .i64 t.d] 84
  replace hL := hL.keep hbx_.2
  replace hA := hA.keep hbx_.2
  have HB := Lib.hid (hbx_.2)
  have hod : w.heap.size ≤ w.heap.size := by omega
  generalize w.alloc (.cells #[.int .i64 t.a, .int .i64 t.b, .int .i64 t.c, .int .i64 t.d] 84) = W1 at hbx_ hL hA HB ⊢
  obtain ⟨r3, hbel_⟩ := hbx_
  obtain ⟨n3, hn_⟩ : ∃ n, n = w.heap.size := ⟨_, rfl⟩
  rw [← hn_] at r3 ⊢
  replace hod := Nat.le_of_eq hn_.symm
  clear hn_ hbel_
  have x0 := hL.box.c 0 _ rfl
  have f0 := hL.box.f 0
  have lx := hL.box.lt
  have y0 := hA.c 0 _ rfl
  have ly := hA.lt
  have l3 := r3.lt
  have hrow := rowOf_cells (W := W1.drew) (r3.keep (Below.refl _ _).drew) N hN ht
  have HROW := Lib.hid hrow
  have HCL : Hid (Calls Try.prog 52 #[.slice (some ⟨n3, 0, none⟩) N 4] W1.drew _) := Lib.hid (by have := clone_any n3 0 4 (rowOf N t) W1.drew (by rw [rowOf_len]; omega) (by rw [rowOf_len]; omega) hrow; rw [rowOf_len] at this; exact this)
  have hsl := slice84 n3 N hN
  have hne : na ≠ nl := by omega
  have HLB := Lib.hid hL
  have HNA := Lib.hid hna
  obtain ⟨i0, hi, hz0, hz1, hz2⟩ := info_parts info22
  clear hL hA hrow hna
  go_region_law
    (first
      | (go_simp
         go_at_call 52
         refine HCL.out.mono ?_
         rintro e V5 ⟨g, cap, rfl, hown, hb⟩
         have hb1 := (Below.refl W1.heap.size W1).drew.trans hb
         have hL5 := HLB.out.keep hb1
         have q0 : V5.cell? ⟨nl, 0, none⟩ = some vl := hL5.box.c 0 _ rfl
         have q1 : V5.cell? ⟨na, 0, none⟩ = some (.slice oa N ca) := (hb1.cell (p := ⟨na, 0, none⟩) ly).trans y0
         have lq0 := hL5.box.lt
         have lq1 := Nat.lt_of_lt_of_le ly hb1.size
         have hal : Below V5.heap.size V5 (V5.alloc (.cells #[.slice (some ⟨g, 0, none⟩) N cap] 22)) := (Below.refl _ _).alloc (Nat.le_refl _) _
         have HL6 := Lib.hid (hL5.keep hal)
         have HO6 := Lib.hid (own_keep hown hal)
         have HB6 := Lib.hid (below_call hb1 hal)
         have HQ6 := Lib.hid (below_call HB.out (below_call hb1 hal))
         clear hL5 hal hown)
      | (have hxx := HL6; clear hxx
         refine step_append_lies _ rfl (.tmp 5) (.tmp 10) 30 rfl (nl + 1) 22 i0 (.slice none 0 0) 1 24 under30 hi hz0 hz1 hz2 rfl (by decide) vl vs.length _ (by simp [Act.eval]) HL6.out.own ⟨V5.heap.size, 0, none⟩ 1 1 [.slice (some ⟨g, 0, none⟩) N cap] (by simp [Act.eval]) rfl (new_cells _ _ _) (by simp [Value.oneCell']) (by decide) (by unfold maxLen; omega) (by omega) (by have := HL6.out.box.lt; omega) _ rfl ?_
         intro g' c' W9 hown hgrow hat hlt9
         have hb9 := HL6.out.box.low (Nat.lt_succ_self _) (grown_below HL6.out.own hgrow (by have := HL6.out.box.lt; omega))
         have z0 := hb9.c 0 _ rfl
         have z1 := hb9.f 0
         have z2 : W9.cell? ⟨na, 0, none⟩ = some (.slice oa N ca) := by
           have h1 := grown_below HL6.out.own hgrow (by have := HL6.out.box.lt; omega)
           rw [h1.cell (p := ⟨na, 0, none⟩) (by have := HNA.out; show na < nl + 1; omega), HB6.out.cell (p := ⟨na, 0, none⟩) ly]; exact y0
         have HOW := Lib.hid hown
         have HGR := Lib.hid hgrow
         clear hown hgrow))
  all_goals
    have HAT := Lib.hid hat
    clear hat x0 f0 y0 hsl hi hz0 hz1 hz2
    go_wp2
    go_ret
    refine ⟨rfl, g', c', _, V5.alloc (.cells #[.slice (some ⟨g, 0, none⟩) N cap] 22), W9, HQ6.out, HOW.out, HGR.out, ?_, ?_, ?_, rfl⟩
    · rcases HAT.out with h | h
      · exact .inl h
      · exact .inr (by simp at h ⊢; omega)
    · exact own_base HO6.out (by show nl + 1 ≤ W1.heap.size; omega)
    · intro b hb
      have h1 := (own_lt HO6.out b hb).2
      have h2 := HB.out.size
      have h3 : W1.heap.size ≤ b := h1
      omega
theorem ghM_ok {nl na N ca B : Nat} {oa : Option Addr} {nx : List (List (List Nat))} {a : Nat → Nat} (hnx : nx.length = N) (hN : N ≤ 4) (hN1 : 1 ≤ N) (hB : na < B) : GhOk (ghM nl na N ca oa) nx a B where
  eo := enters_of Try.func50 (by kernel_rfl) rfl
  ev := enters_of Try.func51 (by kernel_rfl) rfl
  keep := by
    rintro s W W' ⟨⟨vs, vl, hL⟩, hA, hn⟩ hb
    exact ⟨⟨vs, vl, hL.keep hb⟩, hA.keep hb, hn⟩
  kset := by
    rintro s W n i v ⟨⟨vs, vl, hL⟩, hA, hn⟩ hBn ho _
    rw [ownM hL] at ho
    have hs : W.heap.size ≤ (W.setCell ⟨n, i, none⟩ v).heap.size := by simp [World.setCell]
    exact ⟨⟨vs, vl, hL.keepQ hs fun b hb => Below.heap_setCell W ⟨n, i, none⟩ v b (fun e => ho (by have : b = n := e; rw [← this]; exact hb))⟩, hA.keepN (Below.heap_setCell W ⟨n, i, none⟩ v na (by show na ≠ n; omega)) hs, hn⟩
  own := by
    rintro s W b ⟨⟨vs, vl, hL⟩, _, _⟩ ho
    rw [ownM hL] at ho
    exact (hL.lt ho).1
  ownB := by
    rintro s W W' b ⟨⟨vs, vl, hL⟩, _, _⟩ hb ho
    rw [ownM (hL.keep hb)] at ho
    rw [ownM hL]
    exact ho
  ownS := by
    rintro s W n i v b ⟨⟨vs, vl, hL⟩, _, _⟩ hBn hno ho
    rw [ownM hL] at hno ⊢
    have hs : W.heap.size ≤ (W.setCell ⟨n, i, none⟩ v).heap.size := by simp [World.setCell]
    rw [ownM (hL.keepQ hs fun b hb => Below.heap_setCell W ⟨n, i, none⟩ v b (fun e => hno (by have : b = n := e; rw [← this]; exact hb)))] at ho
    exact ho
  mono := by
    intro c c' s h hc
    show s.length + c' ≤ 1000000000000
    have : s.length + c ≤ 1000000000000 := h
    omega
  callO := by
    intro s W t k _ _
    exact yes_any t k W
  callV := by
    rintro s W t c ⟨⟨vs, vl, hL⟩, hA, hn⟩ hR hT _
    have hR' : s.length + (c + 1) ≤ 1000000000000 := hR
    rw [hnx] at hT
    refine (list_any nl na N ca oa s vs vl t W hL hA hn hN hN1 (InTo.nat hT) (by omega)).mono ?_
    rintro e w' ⟨rfl, g, cc, v, V, W9, hV, hown, hgr, hat, hrow, hvb, hw⟩
    have hLV := hL.keep hV
    have hfar : ∀ b, v.ownBlock = some b → vl.ownBlock ≠ some b := fun b h1 h2 => by
      have := hvb b h1
      have := (own_lt hL.own b h2).1
      omega
    have hrow' : V.ownsRow (nl + 1) 3 1 v (rowOf N t).length (nflat (rowOf N t)) := by rw [rowOf_len]; exact hrow
    have hL9 := hLV.app v (rowOf N t) g cc hown hgr hat hrow' hfar
    subst hw
    have hst : ∀ k, k ≠ nl → (W9.setCell ⟨nl, 0, none⟩ (.slice (some ⟨g, 0, none⟩) (vs.length + 1) cc)).heap[k]? = W9.heap[k]? := fun k hk => Below.heap_setCell W9 ⟨nl, 0, none⟩ _ k hk
    have hs9 : W9.heap.size ≤ (W9.setCell ⟨nl, 0, none⟩ (.slice (some ⟨g, 0, none⟩) (vs.length + 1) cc)).heap.size := by simp [World.setCell]
    have hbl : ∀ b, b < W.heap.size → ¬ usesL nl vs vl b → (W9.setCell ⟨nl, 0, none⟩ (.slice (some ⟨g, 0, none⟩) (vs.length + 1) cc)).heap[b]? = W.heap[b]? := fun b hb hno => by
      rw [hst b (fun e => hno (.inl e)), hgr.block b (Nat.lt_of_lt_of_le hb hV.size) (fun e => hno (.inr (.inl e.symm))), hV.block b hb]
    refine ⟨rfl, ⟨hgr.os.trans hV.os, hgr.tape.trans hV.tape, hgr.output.trans hV.output, Nat.le_trans hV.size (Nat.le_trans hgr.size hs9), fun b hb hno => hbl b hb (fun h => hno ((ownM hL b).2 h)), fun b hb => ?_⟩, ⟨⟨_, _, hL9⟩, ?_, hn⟩, ?_⟩
    · have hb' := (ownM hL9 b).1 hb
      rw [ownM hL]
      rcases hb' with h | h | ⟨u, hu, h⟩
      · exact .inl (.inl h)
      · simp [Value.ownBlock] at h
        subst h
        rcases hat with h | h
        · exact .inl (.inr (.inl h))
        · exact .inr (Nat.le_trans hV.size h)
      · rcases List.mem_append.1 hu with hu | hu
        · exact .inl (.inr (.inr ⟨u, hu, h⟩))
        · simp at hu; subst hu; exact .inr (hvb b h)
    · refine hA.keepN (hbl na hA.lt fun h => ?_) (Nat.le_trans hV.size (Nat.le_trans hgr.size hs9))
      have := (hL.lt h).2
      omega
    · show (s ++ [rowOf N t]).length + c ≤ 1000000000000
      simp; omega
end Go.Proofs.Jn
end

section
/-
  expand as Moves calls it.
-/
namespace Go.Proofs.Jn
open Go.RowKit Go.Shelf

theorem s4n_get (i : Nat) (h : i < 4) : s4n.get i = -1 := by
  match i, h with
  | 0, _ | 1, _ | 2, _ | 3, _ => rfl
def atOf (ps : List Nat) (i : Nat) : Nat := (ps[i]?).getD 0
theorem stOf_get (ps : List Nat) (i : Nat) (hi : i < ps.length) (h4 : ps.length ≤ 4) : (stOf ps).get i = (atOf ps i : Nat) := by
  have : natAt ps i = (atOf ps i : Nat) := by simp [natAt, atOf, hi]
  rw [← this]
  match i, (show i < 4 by omega) with
  | 0, _ | 1, _ | 2, _ | 3, _ => rfl
theorem putL_true {α : Type} [DecidableEq α] {l : List (α × Value)} {k : α} (h : ∀ e ∈ l, e.2 = .bool true) : ∀ e ∈ putL l k (.bool true), e.2 = .bool true := by
  induction l with
  | nil => intro e he; simp [putL] at he; rw [he]
  | cons x r ih =>
    obtain ⟨b, u⟩ := x
    intro e he
    simp only [putL] at he
    split at he
    · rcases List.mem_cons.1 he with rfl | he
      · rfl
      · exact h e (by simp [he])
    · rcases List.mem_cons.1 he with rfl | he
      · exact h _ (by simp)
      · exact ih (fun e he => h e (by simp [he])) e he
theorem clOf_true (cs : List Cf) : ∀ e ∈ clOf cs, e.2 = .bool true := by
  unfold clOf
  suffices h : ∀ (cs : List Cf) (l : List ((Mv × Mv) × Value)), (∀ e ∈ l, e.2 = .bool true) → ∀ e ∈ cs.foldl putC l, e.2 = .bool true from h cs [] (by simp)
  intro cs
  induction cs with
  | nil => intro l hl; exact hl
  | cons c r ih => intro l hl; exact ih _ (putL_true hl)
theorem nextOf_short {m : Mp} (hm : MapOk m) (k : Nat) (hk : m.es.length ≤ k) : ∀ x ∈ nextOf m, x.length ≤ 1 + 2 * k := by
  intro x hx
  unfold nextOf at hx
  obtain ⟨l, hl, rfl⟩ := List.mem_map.1 hx
  have := laid_fair hm m.es.length (Nat.le_refl _) l hl
  rw [srt_len]; omega
/-- The places of a list are points of their arms. -/
def InR (T : Tm) (ps : List Nat) : Prop := ps.length = T.ms.length ∧ ∀ (k x : Nat) (m : Mp), ps[k]? = some x → T.ms[k]? = some m → x < m.n
/-- What Moves lists. -/
def movesE (T : Tm) (ps : List Nat) : Bool × List (List Nat) := expF (T.ms.map nextOf) (frB (clOf T.cs) (atOf ps)) (fun _ _ _ => true) (fun s t => (false, s ++ [rowOf ps.length t])) (atOf ps) ps.length 0 s4n []
theorem exp_moves (T : Tm) (ps : List Nat) (on oa : Option Addr) (es : List NxE) (cn gm nl na ca : Nat) (WC X : World) (hC : CrewAt WC on es gm (clOf T.cs)) (hes : es.map NxE.ls = T.ms.map nextOf) (hO : TeamOk T) (hsm : ∀ m ∈ T.ms, m.es.length ≤ 100) (hps : InR T ps)
    (hWX : Below WC.heap.size WC X) (hnl : WC.heap.size ≤ nl) (hna : na < WC.heap.size) (hbx : Blk X nl [.slice none 0 0]) (hA : Blk X na [.slice oa ps.length ca]) :
    Calls Try.prog 47 #[.agg #[.slice on es.length cn, .map (some gm)], (stOf ps).v, s4n.v, .int .i64 0, .func (.func 50) #[] #[], .func (.func 51) #[] #[.pointer (some ⟨nl, 0, none⟩), .pointer (some ⟨na, 0, none⟩)]] X
      fun e X' => (∃ b, e = .returned (.bool b)) ∧ (∃ vs vl, LB X' nl (movesE T ps).2 vs vl) ∧ X.grownBy X' (some nl) ∧ (movesE T ps).2.length ≤ 1000000000000 := by
  have hn1 := hO.n1
  have hn2 := hO.n2
  have hel : es.length = T.ms.length := by have := congrArg List.length hes; simpa using this
  have hN : ps.length = es.length := by rw [hps.1, hel]
  have hL0 : LB X nl [] [] (.slice none 0 0) := ⟨hbx, World.ownsRow_nil _ _ _ _, rfl, by simp, by simp⟩
  have hnx : (es.map NxE.ls).length = ps.length := by rw [List.length_map, hN]
  have hI : (ghM nl na ps.length ca oa).Inv [] X := ⟨⟨[], _, hL0⟩, hA, by omega⟩
  have hOw : ∀ b, (ghM nl na ps.length ca oa).Own [] X b → ¬ crewUses on es gm b := fun b hb hu => by
    have hul := hC.lt b hu
    rw [ownM hL0] at hb
    rcases hb with rfl | h | ⟨u, hu, _⟩
    · omega
    · cases h
    · cases hu
  have hmm : ∀ (i : Nat) (e : NxE), es[i]? = some e → ∃ m, T.ms[i]? = some m ∧ e.ls = nextOf m := fun i e he => by
    have h1 : (es.map NxE.ls)[i]? = some e.ls := by simp [he]
    rw [hes, List.getElem?_map, Option.map_eq_some_iff] at h1
    obtain ⟨m, hm, h2⟩ := h1
    exact ⟨m, hm, h2.symm⟩
  have key := expand_any (ghM nl na ps.length ca oa) WC on es cn gm (clOf T.cs) (stOf ps) (atOf ps) 201 (ghM_ok hnx (by omega) (by omega) hna) hC (clOf_true _) (by omega)
    (fun i hi => stOf_get ps i (by omega) (by omega))
    (fun i e he => by
      obtain ⟨m, hm, hl⟩ := hmm i e he
      have hmo := hO.mo m (List.mem_of_getElem? hm)
      have hi := (List.getElem?_eq_some_iff.1 he).1
      have hp : ps[i]? = some ps[i] := List.getElem?_eq_getElem (by omega)
      have hlt := hps.2 i _ m hp hm
      rw [hl, nextOf_len]
      refine ⟨by simp [atOf, hp]; exact hlt, by have := hmo.n2; omega, fun x hx => by have := nextOf_short hmo 100 (hsm m (List.mem_of_getElem? hm)) x hx; omega⟩)
    (by omega) ps.length 0 s4n [] 0 X (by omega) (CK.of_below hWX hC.lt) hI hOw (by
      show ([] : List (List Nat)).length + (0 + 201 ^ ps.length) ≤ 1000000000000
      have : 201 ^ ps.length ≤ 201 ^ 4 := Nat.pow_le_pow_right (by omega) (by omega)
      have h4 : (201 : Nat) ^ 4 = 1632240801 := by decide
      simp; omega) ⟨fun i hi => by omega, fun i _ h4 => s4n_get i h4⟩ (fun h => by omega)
  refine key.mono ?_
  rintro e X' ⟨rfl, hS, ⟨⟨vs, vl, hL⟩, _, _⟩, hR⟩
  refine ⟨⟨_, rfl⟩, ⟨vs, vl, ?_⟩, ⟨hS.os, hS.tape, hS.output, hS.size, fun b hb hne => hS.block b hb fun ho => ?_⟩, ?_⟩
  rotate_left
  · rw [ownM hL0] at ho
    rcases ho with rfl | h | ⟨u, hu, _⟩
    · exact hne rfl
    · cases h
    · cases hu
  · rw [hes] at hR
    exact Nat.le_trans (Nat.le_add_right _ _) hR
  · rw [hes] at hL
    exact hL
end Go.Proofs.Jn
end

section
/-
  Walks: Moves.
-/
namespace Go.Proofs.Jn
open Go.RowKit Go.Shelf

/-- A list of lists. -/
def LL (W : World) (ol : Option Addr) (ls : List (List Nat)) : Prop := ∃ vs : List Value, Sl W ol 1 (vs.map fun v => [v]) ∧ vs.length = ls.length ∧ ∀ (i : Nat) (v : Value) (l : List Nat), vs[i]? = some v → ls[i]? = some l → ∃ o c, v = .slice o l.length c ∧ Sl W o 1 (nvals l)
theorem LL.keep {W W' : World} {ol : Option Addr} {ls : List (List Nat)} (h : LL W ol ls) (hb : Below W.heap.size W W') : LL W' ol ls := by
  obtain ⟨vs, h1, h2, h3⟩ := h
  exact ⟨vs, h1.keep hb, h2, fun i v l hv hl => by obtain ⟨o, c, he, hs⟩ := h3 i v l hv hl; exact ⟨o, c, he, hs.keep hb⟩⟩
theorem ones_flat (vs : List Value) : (vs.map fun v => [v]).flatten = vs := by
  induction vs with
  | nil => rfl
  | cons a t ih => simp only [List.map_cons, List.flatten_cons, ih]; rfl
theorem LB.ll {W : World} {nl : Nat} {ls : List (List Nat)} {vs : List Value} {ol : Option Addr} {n cl : Nat} (h : LB W nl ls vs (.slice ol n cl)) : LL W ol ls := by
  refine ⟨vs, ?_, h.len, fun i v l hv hl => ?_⟩
  · have ho := h.own
    have e1 : (vs.map fun v => [v]).length = vs.length := by simp
    have hn : n = vs.length := by
      rcases ho.2 with ⟨h1, h2⟩ | ⟨g, cap, cur, h1, _⟩
      · injection h1 with _ h1 _; omega
      · injection h1
    subst hn
    rw [← ones_flat vs, ones_flat vs] at ho
    have ho2 : W.ownsRow (nl + 1) 22 1 (.slice ol vs.length cl) (vs.map fun v => [v]).length (vs.map fun v => [v]).flatten := by rw [ones_flat, e1]; exact ho
    intro hne
    obtain ⟨oa, cap, hv, hs⟩ := own_rows (fun r hr => by obtain ⟨e, _, rfl⟩ := List.mem_map.1 hr; rfl) ho2
    injection hv with hv _ _
    rw [hv]
    exact hs hne
  · have ho := h.row i v l hv hl
    obtain ⟨o, c, rfl⟩ := own_slice ho
    refine ⟨o, c, rfl, ?_⟩
    rw [← nvals_flat, ← nvals_len] at ho
    intro hne
    obtain ⟨oa, cap, hv2, hs⟩ := own_rows (nvals_one l) ho
    injection hv2 with hv2 _ _
    rw [hv2]
    exact hs hne
theorem keepW {X X' : World} {n5 n3 nl : Nat} {a b c : Value} (h5 : n5 ≠ nl) (h3 : n3 ≠ nl) (h : X.cell? ⟨n5, 0, none⟩ = some a ∧ X.cell? ⟨n5, 1, none⟩ = some b ∧ X.cell? ⟨n3, 0, none⟩ = some c ∧ n5 < X.heap.size ∧ n3 < X.heap.size) (hg : X.grownBy X' (some nl)) :
    X'.cell? ⟨n5, 0, none⟩ = some a ∧ X'.cell? ⟨n5, 1, none⟩ = some b ∧ X'.cell? ⟨n3, 0, none⟩ = some c ∧ n5 < X'.heap.size ∧ n3 < X'.heap.size := by
  obtain ⟨k1, k2, k3, k4, k5⟩ := h
  have e5 := hg.block n5 k4 (fun e => h5 (by injection e))
  have e3 := hg.block n3 k5 (fun e => h3 (by injection e))
  refine ⟨?_, ?_, ?_, Nat.lt_of_lt_of_le k4 hg.size, Nat.lt_of_lt_of_le k5 hg.size⟩
  · rw [← k1]; simp [World.cell?, e5]
  · rw [← k2]; simp [World.cell?, e5]
  · rw [← k3]; simp [World.cell?, e3]
theorem keepW' {X X' : World} {n5 n3 : Nat} (nl : Nat) {a b c : Value} (h5 : n5 ≠ nl) (h3 : n3 ≠ nl) (h : X.cell? ⟨n5, 0, none⟩ = some a ∧ X.cell? ⟨n5, 1, none⟩ = some b ∧ X.cell? ⟨n3, 0, none⟩ = some c ∧ n5 < X.heap.size ∧ n3 < X.heap.size) (hb : Below X.heap.size X X') :
    X'.cell? ⟨n5, 0, none⟩ = some a ∧ X'.cell? ⟨n5, 1, none⟩ = some b ∧ X'.cell? ⟨n3, 0, none⟩ = some c ∧ n5 < X'.heap.size ∧ n3 < X'.heap.size := keepW h5 h3 h (grown_of_below hb)
set_option maxRecDepth 100000 in
set_option maxHeartbeats 4000000 in
theorem moves_any (om oc oa : Option Addr) (cm cc ca : Nat) (T : Tm) (ps : List Nat) (w : World) (hO : TeamOk T) (hsm : ∀ m ∈ T.ms, m.es.length ≤ 100) (hps : InR T ps) (hT : TeamAt w om oc T) (hA : Sl w oa 1 (nvals ps)) :
    Calls Try.prog 21 #[T.val om oc cm cc, .slice oa ps.length ca] w fun e W => ∃ ol cl, e = .returned (.slice ol (movesE T ps).2.length cl) ∧ LL W ol (movesE T ps).2 ∧ Below w.heap.size w W ∧ (movesE T ps).2.length ≤ 1000000000000 := by
  have hn1 := hO.n1
  have hn2 := hO.n2
  have HO := Lib.hid hO
  have HSM := Lib.hid hsm
  have HPS := Lib.hid hps
  have hmf : ∀ (fn : Fn) (first cap : Array Value) (w : World), (Instr.makeFunc fn first cap).run Try.prog w = .ok (.func fn first cap) w := fun _ _ _ _ => rfl
  clear hO hsm hps
  unfold Tm.val
  go_enter Try.func21, Try.ntmps21
  go_upto_region 1 with fail
  have hbx_ := blks2 w [.slice om T.ms.length cm, .slice oc T.cs.length cc] [.slice oa ps.length ca] 26 22
  replace hT := hT.keep hbx_.2.2
  replace hA := hA.keep hbx_.2.2
  have HB := Lib.hid (hbx_.2.2)
  have hod : w.heap.size ≤ w.heap.size ∧ w.heap.size < w.heap.size + 1 := by omega
  generalize (w.alloc (.cells #[.slice om T.ms.length cm, .slice oc T.cs.length cc] 26)).alloc (.cells #[.slice oa ps.length ca] 22) = W0 at hbx_ hT hA HB ⊢
  obtain ⟨r2, r3, hbel_⟩ := hbx_
  generalize w.heap.size + 1 = n3 at r3 hod ⊢
  obtain ⟨n2', hn_⟩ : ∃ n, n = w.heap.size := ⟨_, rfl⟩
  rw [← hn_] at r2 ⊢
  replace hod := And.intro (Nat.le_of_eq hn_.symm) (hn_ ▸ hod.2)
  clear hn_ hbel_
  have hck := check_any om oc cm cc T W0 HO.out hT
  unfold Tm.val at hck
  have HCK := Lib.hid hck
  have HT := Lib.hid hT
  have HA := Lib.hid hA
  clear hck hT hA
  have a0 : W0.cell? ⟨n2', 0, none⟩ = some (.slice om T.ms.length cm) := r2.c 0 _ rfl
  have a1 : W0.cell? ⟨n2', 1, none⟩ = some (.slice oc T.cs.length cc) := r2.c 1 _ rfl
  have b0 : W0.cell? ⟨n3, 0, none⟩ = some (.slice oa ps.length ca) := r3.c 0 _ rfl
  have l2 := r2.lt
  have l3 := r3.lt
  go_wp2_with fail
  refine HCK.out.mono ?_
  rintro e X1 ⟨rfl, hb⟩
  replace r2 := r2.keep hb
  replace r3 := r3.keep hb
  replace HT := Lib.hid (HT.out.keep hb)
  replace HA := Lib.hid (HA.out.keep hb)
  have HB1 := Lib.hid (below_call HB.out hb)
  clear hb a0 a1 b0 l2 l3 HCK HB
  have hlo := located_any om oc oa cm cc ca T ps X1 (by omega) HPS.out.1 HPS.out.2 (fun m hm => (HO.out.mo m hm).n2) HT.out HA.out
  unfold Tm.val at hlo
  have HLO := Lib.hid hlo
  clear hlo
  have a0 : X1.cell? ⟨n2', 0, none⟩ = some (.slice om T.ms.length cm) := r2.c 0 _ rfl
  have a1 : X1.cell? ⟨n2', 1, none⟩ = some (.slice oc T.cs.length cc) := r2.c 1 _ rfl
  have b0 : X1.cell? ⟨n3, 0, none⟩ = some (.slice oa ps.length ca) := r3.c 0 _ rfl
  have l2 := r2.lt
  have l3 := r3.lt
  go_wp2_with fail
  refine HLO.out.mono ?_
  rintro e X2 ⟨rfl, hb⟩
  replace r2 := r2.keep hb
  replace r3 := r3.keep hb
  replace HT := Lib.hid (HT.out.keep hb)
  replace HA := Lib.hid (HA.out.keep hb)
  have HB2 := Lib.hid (below_call HB1.out hb)
  clear hb a0 a1 b0 l2 l3 HLO HB1
  have hnc := newCrew_any om oc cm cc T X2 HO.out HT.out
  unfold Tm.val at hnc
  have HNC := Lib.hid hnc
  clear hnc
  have a0 : X2.cell? ⟨n2', 0, none⟩ = some (.slice om T.ms.length cm) := r2.c 0 _ rfl
  have a1 : X2.cell? ⟨n2', 1, none⟩ = some (.slice oc T.cs.length cc) := r2.c 1 _ rfl
  have l2 := r2.lt
  go_wp2_with fail
  refine HNC.out.mono ?_
  rintro e X3 ⟨es, on, cn, gm, rfl, hC, hes, hb⟩
  replace r3 := r3.keep hb
  replace HA := Lib.hid (HA.out.keep hb)
  have HB3 := Lib.hid (below_call HB2.out hb)
  have HC := Lib.hid hC
  have HES := Lib.hid hes
  have hl3 := r3.lt
  clear hb a0 a1 l2 HNC HB2 r2 hC hes
  go_upto_region 5 with fail
  have hN4 : ps.length ≤ 4 := by rw [HPS.out.1]; exact hn2
  have hN1 : 0 < ps.length := by rw [HPS.out.1]; exact hn1
  have hbx_ := blks2 X3 [.slice on es.length cn, .map (some gm)] [.slice none 0 0] 82 30
  replace r3 := r3.keep hbx_.2.2
  replace HA := Lib.hid (HA.out.keep hbx_.2.2)
  have HB4 := Lib.hid (hbx_.2.2)
  have hoe : X3.heap.size ≤ X3.heap.size ∧ X3.heap.size < X3.heap.size + 1 := by omega
  generalize (X3.alloc (.cells #[.slice on es.length cn, .map (some gm)] 82)).alloc (.cells #[.slice none 0 0] 30) = V at hbx_ r3 HA HB4 ⊢
  obtain ⟨r5, r6, hbel_⟩ := hbx_
  generalize X3.heap.size + 1 = nl at r6 hoe ⊢
  obtain ⟨n5, hn_⟩ : ∃ n, n = X3.heap.size := ⟨_, rfl⟩
  rw [← hn_] at r5 ⊢
  replace hoe := And.intro (Nat.le_of_eq hn_.symm) (hn_ ▸ hoe.2)
  clear hn_ hbel_
  have HX3 : Hid (Below X3.heap.size X3 V.drew) := Lib.hid (HB4.out.drew)
  have hn5 : n5 ≠ nl := by omega
  have hn3 : n3 ≠ nl := by omega
  have HNL : Hid (X3.heap.size ≤ nl) := Lib.hid (by omega)
  have HN3 := Lib.hid hl3
  have hS0 : V.cell? ⟨n5, 0, none⟩ = some (.slice on es.length cn) ∧ V.cell? ⟨n5, 1, none⟩ = some (.map (some gm)) ∧ V.cell? ⟨n3, 0, none⟩ = some (.slice oa ps.length ca) ∧ n5 < V.heap.size ∧ n3 < V.heap.size := ⟨r5.c 0 _ rfl, r5.c 1 _ rfl, r3.c 0 _ rfl, r5.lt, r3.lt⟩
  have hV0 : Below V.heap.size V V.drew := (Below.refl _ _).drew
  have HR3 := Lib.hid r3
  have HR6 := Lib.hid r6
  clear r3 r5 r6 hod hoe hl3
  go_cut [] (fun X => (∃ vs vl, LB X nl (movesE T ps).2 vs vl) ∧ Below X3.heap.size X3 X ∧ (movesE T ps).2.length ≤ 1000000000000)
  case first =>
    go_region_held3 (fun X => X.cell? ⟨n5, 0, none⟩ = some (.slice on es.length cn) ∧ X.cell? ⟨n5, 1, none⟩ = some (.map (some gm)) ∧ X.cell? ⟨n3, 0, none⟩ = some (.slice oa ps.length ca) ∧ n5 < X.heap.size ∧ n3 < X.heap.size)
      (first
        | assumption
        | exact keepW' nl hn5 hn3 hS0 hV0
        | exact keepW' nl hn5 hn3 (by assumption) (by assumption)
        | exact keepW hn5 hn3 (by assumption) (by assumption))
      (first
        | (go_at_call 48
           refine (stateOf_any oa ca ps _ hN4 hN1 (HA.out.keep (by assumption))).mono ?_
           rintro e Xa ⟨rfl, hba⟩
           have hVa := below_call (by assumption : Below V.heap.size V _) hba)
        | (go_at_call 49
           refine (nowhere_any _).mono ?_
           rintro e Xb ⟨rfl, hbb⟩
           have hVb := below_call (by assumption : Below V.heap.size V _) hbb)
        | (go_at_call 47
           refine (exp_moves T ps on oa es cn gm nl n3 ca X3 _ HC.out HES.out HO.out HSM.out HPS.out (below_call HB4.out (by assumption)) HNL.out HN3.out (HR6.out.keep (by assumption)) (HR3.out.keep (by assumption))).mono ?_
           rintro e Xc ⟨⟨bc, rfl⟩, hLc, hgc, hbd⟩
           have HBD := Lib.hid hbd
           clear hbd))
    all_goals
      have hbx := grown_fresh (below_call HB4.out (by assumption)) hgc HNL.out
      have HBX := Lib.hid hbx
      have HLC := Lib.hid hLc
      clear hbx hLc hgc hS0
      go_wp2_with fail
      go_meet
      exact ⟨HLC.out, HBX.out, HBD.out⟩
  case rest =>
    clear hS0 hV0
    obtain ⟨⟨vs, vl, hL⟩, hb, hbd⟩ := hcut
    have HBD := Lib.hid hbd
    clear hbd
    obtain ⟨ol, cl, rfl⟩ := own_slice hL.own
    have x0 := hL.box.c 0 _ rfl
    have lx := hL.box.lt
    have HL := Lib.hid hL
    have HB5 := Lib.hid (below_call HB3.out hb)
    clear hb hL
    go_wp2_with fail
    refine bodyPost_ret (v := .slice ol vs.length cl) (by simp [results, Try.results21, go_sem]) rfl ⟨ol, cl, by rw [← HL.out.len], HL.out.ll, HB5.out, HBD.out⟩
end Go.Proofs.Jn
end

