/-
  Texts put together: Cm Cn Cp Cq Dv Dx Dy Dz Fa Fb.
-/
import Derived.Test.YteeeogdfnpdpcaaGreatZNeighborFinds22
import Derived.Test.YteeeogdfnpdpcaaGreatZNeighborFinds23
import Derived.Test.YteeeogdfnpdpcaaGreatZNeighborFinds10
import Derived.Test.YteeeogdfnpdpcaaGreatZNeighborFinds18
import Derived.Test.YteeeogdfnpdpcaaGreatZNeighborFinds21
import Derived.Shelf.Sort.Plain
import Derived.Test.YteeeogdfnpdpcaaGreatProg
set_option linter.unusedVariables false
section
/-
  Walks: a robot, its points, a configuration.
-/
namespace Go.Proofs.Ng
open Go.RowKit

section
variable {P : Program} (w : World)
theorem step_append_at {ops : Array Oper} {o : Oper} {a : Act} {K : Act → World → Prop} {Q : Exit → Act → World → Prop} {E : Prop} (hgd : o.guard = none) (s x : Operand) (t : TypeId)
    (ho : o.op = .call { callee := .builtin .append, args := #[s, x], argTypes := #[t, t] })
    (base : Nat) (e : TypeId) (i : TypeInfo) (z : Value) (size bytes : Nat) (ht : P.underlying t = some (.slice e)) (hi : P.info? e = some i) (hz : i.zero = some z)
    (hsize : i.size = size) (hby : i.bytes = bytes) (hzs : z.cells.size = size) (hsz : 0 < size)
    (v : Value) (n : Nat) (xs : List Value) (hs : a.eval s = v) (hown : w.ownsRow base e size v n xs)
    (ad : Addr) (m c : Nat) (news : List Value) (hx : a.eval x = .slice (some ad) m c) (hl : news.length = m * size) (hnews : ∀ j u, news[j]? = some u → w.cell? (ad.add j) = some u) (h1 : ∀ u ∈ news, u.oneCell' = true)
    (h63 : n + m ≤ maxLen) (hbytes : (n + m) * bytes ≤ 140737488355328) (hbase : base ≤ w.heap.size)
    (h : ∀ v' w', w'.ownsRow base e size v' (n + m) (xs ++ news) → w.grownBy w' v.ownBlock → K (a.put o.dst v') w') :
    if Region.wanted o (yielded ops a.tmps) = true then Oper.wp P o a w K Q else E := by
  have hw : Region.wanted o (yielded ops a.tmps) = true := by simp [Region.wanted, hgd]
  rw [if_pos hw]
  obtain ⟨v', w', hr, h2, h3, _, h5⟩ := run_append_own_at (P := P) w base t o.type e i z size bytes ht hi hz hsize hby hzs hsz v n xs hown ad m c news hl hnews h1 h63 hbytes hbase
  unfold Oper.wp execOp
  simp only [ho, resolve, invoke, builtin, Sem.run_bind, Sem.run_pure, Result.andThen_ok, List.map_toArray, List.map_cons, List.map_nil, hs, hx, hr]
  exact h v' w' h2 h3
end
/-- The robot lies in new blocks. -/
def MkRobF (w : World) (e : Ending) (W' : World) : Prop := ∃ js ms oa cj om cm, e = .returned (.agg #[.slice oa (List.length js) cj, .slice om (List.length ms) cm]) ∧ (∀ W'', (∀ g, w.heap.size ≤ g → g < W'.heap.size → W''.heap[g]? = W'.heap[g]?) → RobP js ms oa om W'') ∧ Below w.heap.size w W'
theorem mkRobot_fresh (w : World) (os : Option Addr) (cap : Nat) (xs : List Int) (hI : Sl w os 1 (pvals xs)) (hl : xs.length ≤ 9223372036854775807) :
    Calls Tryz.prog 20 #[.slice os xs.length cap] w (MkRobF w) := by
  go_enter Tryz.func20, Tryz.ntmps20
  go_wp2_with fail
  have hB0 : Below w.heap.size w (w.alloc (.cells #[.slice none 0 0, .slice none 0 0] 25)) := (Below.refl _ _).alloc (Nat.le_refl _) _
  have b0 := Blk.new w [.slice none 0 0, .slice none 0 0] 25
  have hI0 := hI.keep hB0
  generalize (w.alloc (.cells #[.slice none 0 0, .slice none 0 0] 25)) = W0 at hB0 b0 hI0 ⊢
  generalize hn : w.heap.size = n2 at b0 ⊢
  have HN := Lib.hid hn
  clear hn
  refine (from_any os cap xs.length W0).mono ?_
  rintro e W1 ⟨rfl, rfl⟩
  have hS := src_new W0 os cap xs hI0 hl
  have hB1 : Below W0.heap.size W0 (W0.alloc (.cells #[.slice os xs.length cap, .int .i64 0] 107)) := (Below.refl _ _).alloc (Nat.le_refl _) _
  have b1 := b0.keep hB1
  have hne : n2 ≠ W0.heap.size := Nat.ne_of_lt b0.lt
  have hn2 : n2 < (W0.alloc (.cells #[.slice os xs.length cap, .int .i64 0] 107)).heap.size := b1.lt
  have hwS : w.heap.size ≤ W0.heap.size := hB0.size
  have HB1 := Lib.hid (below_call hB0 hB1)
  clear hB0 hB1 b0
  generalize (W0.alloc (.cells #[.slice os xs.length cap, .int .i64 0] 107)) = W1 at hS b1 HB1 hn2 ⊢
  generalize W0.heap.size = nS at hS hne hwS ⊢
  go_wp2_with fail
  refine (robot_any W1 nS os cap xs hS).mono ?_
  rintro e W2 ⟨js, ms, oa, cj, om, cm, rfl, hP, hg, hcap⟩
  have HCP := Lib.hid hcap
  clear hcap
  have b2 := b1.keepG hg hne
  have hB2 : Below w.heap.size w W2 := ⟨hg.os.trans HB1.out.os, hg.tape.trans HB1.out.tape, hg.output.trans HB1.out.output, Nat.le_trans HB1.out.size hg.size, fun k hk => (hg.block k (Nat.lt_of_lt_of_le hk HB1.out.size) (fun e => by injection e; omega)).trans (HB1.out.block k hk)⟩
  have e0 := b2.c 0 _ rfl
  have e1 := b2.c 1 _ rfl
  have f0 := b2.f 0
  have f1 := b2.f 1
  have l2 := b2.lt
  have HP := Lib.hid hP
  have HB2 := Lib.hid hB2
  clear hP hB2 b1 b2 hg HB1
  go_wp2_with fail
  have hBF : Below w.heap.size w ((W2.setCell ⟨n2, 0, none⟩ (.slice oa js.length cj)).setCell ⟨n2, 1, none⟩ (.slice om ms.length cm)) := (HB2.out.setCell (p := ⟨n2, 0, none⟩) (Nat.le_of_eq HN.out) _).setCell (p := ⟨n2, 1, none⟩) (Nat.le_of_eq HN.out) _
  refine bodyPost_ret (v := .agg #[.slice oa js.length cj, .slice om ms.length cm]) (by simp [results, Tryz.results20, go_sem, e0, e1]) rfl ⟨js, ms, oa, cj, om, cm, rfl, fun W'' hag => HP.out _ ?_, hBF⟩
  intro g h1 h2
  rw [hag g (by have := HN.out; omega) (by simpa [World.setCell] using h2)]
  exact (Below.heap_setCell _ ⟨n2, 1, none⟩ _ g (show g ≠ n2 by omega)).trans (Below.heap_setCell _ ⟨n2, 0, none⟩ _ g (show g ≠ n2 by omega))
/-- What a robot of the maker's is like. -/
theorem rob_bd {js : List JV} {ms : List MV} {oa om : Option Addr} {W : World} (h : RobP js ms oa om W) : ∀ (k : Nat) (j : JV), js[k]? = some j → -1000000000 ≤ j.lo ∧ j.lo ≤ j.hi ∧ j.hi ≤ 1000000000 := by
  intro k j hj
  have hg := h.2.2.1 k j hj
  have := hg.lim
  have := limitF_bd j.kind
  omega
theorem RobP.keep {js : List JV} {ms : List MV} {oa om : Option Addr} {W W' : World} (h : RobP js ms oa om W) (hb : Below W.heap.size W W') : RobP js ms oa om W' := ⟨h.1, h.2.1, h.2.2.1, h.2.2.2.1, h.2.2.2.2.1.keep hb, h.2.2.2.2.2.keep hb⟩
/-- Points of a robot. -/
def Good (js : List JV) (n : Nat) (pts : List (List Int)) : Prop := pts.length = n ∧ ∀ p ∈ pts, p.length = js.length ∧ inTo js p
theorem some_fin {wc Xa : World} {n6 : Nat} {js : List JV} {q : List Int} {oq op : Option Addr} {cq np cp : Nat} {a b : Value} (h6 : Blk wc n6 [.slice none 0 0, .slice none 0 0]) (hql : q.length = js.length) (hqi : inTo js q) (hqs : Sl Xa oq 1 (pvals q)) (hqf : ∀ a, oq = some a → n6 < a.block) (hb : Below wc.heap.size wc Xa) :
    Value.slice op np cp = .slice op np cp ∧ (∃ (q' : List Int) (oq' : Option Addr) (cq' : Nat), Value.slice oq js.length cq = .slice oq' q'.length cq' ∧ (q'.length = js.length ∧ inTo js q') ∧ Sl ((Xa.setCell ⟨n6, 0, none⟩ a).setCell ⟨n6, 1, none⟩ b) oq' 1 (pvals q')) ∧ Blk ((Xa.setCell ⟨n6, 0, none⟩ a).setCell ⟨n6, 1, none⟩ b) n6 [a, b] ∧ wc.grownBy ((Xa.setCell ⟨n6, 0, none⟩ a).setCell ⟨n6, 1, none⟩ b) (some n6) := by
  have hg : Xa.grownBy ((Xa.setCell ⟨n6, 0, none⟩ a).setCell ⟨n6, 1, none⟩ b) (some n6) := grown_trans (grown_set Xa n6 0 a) (grown_set _ n6 1 b)
  refine ⟨rfl, ⟨q, oq, cq, by rw [hql], ⟨hql, hqi⟩, hqs.keepO hg fun b' off s e h => ?_⟩, ((h6.keep hb).put 0 a).put 1 b, grown_trans (grown_of_below hb) hg⟩
  injection h with h
  have := hqf _ e
  simp only at this
  omega
/-- What some answers. -/
def SomeP (n : Int) (w : World) (e : Ending) (W' : World) : Prop := ∃ js ms oa cj om cm pts op cp q oq cq, e = .returned (.tuple #[.agg #[.slice oa (List.length js) cj, .slice om (List.length ms) cm], .slice op (List.length pts) cp, .slice oq (List.length q) cq]) ∧ RobP js ms oa om W' ∧ Good js (n % 13).toNat pts ∧ Pts W' op pts ∧ (q.length = js.length ∧ inTo js q) ∧ Sl W' oq 1 (pvals q) ∧ Below w.heap.size w W'
set_option maxRecDepth 100000 in
set_option maxHeartbeats 4000000 in
theorem some9 (ol om : Option Addr) (cl cm : Nat) (ls xs : List Int) (n : Int) (w : World) (hL : Sl w ol 1 (pvals ls)) (hl : ls.length ≤ 9223372036854775807) (hM : Sl w om 1 (pvals xs)) (hm : xs.length * 8 ≤ 140737488351232) (hmn : om = none → xs = [] ∧ cm = 0) :
    Calls Tryz.prog 8 #[.slice ol ls.length cl, .slice om xs.length cm, .int .i64 n] w (SomeP n w) := by
  have HL := Lib.hid hL
  have HM := Lib.hid hM
  have HMN := Lib.hid hmn
  clear hL hM hmn
  go_enter Tryz.func8, Tryz.ntmps8
  go_wp2_with fail
  have hbx_ := blks1 w [.slice none 0 0, .slice none 0 0] 25
  have HB0 := Lib.hid (hbx_.2)
  have ho0 : w.heap.size ≤ w.heap.size := by omega
  generalize w.alloc (.cells #[.slice none 0 0, .slice none 0 0] 25) = W0 at hbx_ HB0 ⊢
  obtain ⟨r6, hbel_⟩ := hbx_
  obtain ⟨n6, hn_⟩ : ∃ n, n = w.heap.size := ⟨_, rfl⟩
  rw [← hn_] at r6 ⊢
  replace ho0 := Nat.le_of_eq hn_.symm
  clear hn_ hbel_
  have H6 : Hid (w.heap.size ≤ n6) := Lib.hid (by omega)
  have HR6 := Lib.hid r6
  have hmk := mkRobot_fresh W0 ol cl ls (HL.out.keep HB0.out) hl
  have HK := Lib.hid hmk
  have H60 : Hid (n6 < W0.heap.size) := Lib.hid HR6.out.lt
  clear hmk ho0 r6
  with_reducible refine HK.out.mono ?_
  rintro e W1 ⟨js, ms, oa, cj, oms, cms, rfl, hrob, hb1⟩
  have HROB := Lib.hid hrob
  have hr1 := hrob W1 (fun _ _ _ => rfl)
  have HB1 := Lib.hid (below_call HB0.out hb1)
  have HR61 := Lib.hid (HR6.out.keep hb1)
  have HBX := Lib.hid hb1
  clear hb1 HB0 HR6 HK hrob
  go_upto_region 2 with fail
  have hbx_ := blks1 W1 [.slice oa js.length cj, .slice oms ms.length cms] 25
  replace HR61 := Lib.hid (HR61.out.keep hbx_.2)
  have HB2 := Lib.hid (hbx_.2)
  have ho9 : W1.heap.size ≤ W1.heap.size := by omega
  generalize W1.alloc (.cells #[.slice oa js.length cj, .slice oms ms.length cms] 25) = W2 at hbx_ HR61 HB2 ⊢
  obtain ⟨r9, hbel_⟩ := hbx_
  obtain ⟨n9, hn_⟩ : ∃ n, n = W1.heap.size := ⟨_, rfl⟩
  rw [← hn_] at r9 ⊢
  replace ho9 := Nat.le_of_eq hn_.symm
  clear hn_ hbel_
  have hr2 := hr1.keep HB2.out
  have HR2 := Lib.hid hr2
  have hk : ∃ k : Nat, n % 13 = (k : Nat) ∧ k < 13 := ⟨(n % 13).toNat, by omega, by omega⟩
  obtain ⟨k, hk1, hk2⟩ := hk
  have HRO := Lib.hid (fun X : World => (round_any n 13 X (by omega) (by omega)).mono (R' := fun e w' => e = .returned (.int .i64 (k : Nat)) ∧ w' = X) fun _ _ h => ⟨by rw [h.1, hk1], h.2.symm⟩)
  have HCFG := Lib.hid (fun (X : World) (hX : Below W2.heap.size W2 X) => configs22 oa oms om cj cms cm k js ms.length xs X (by omega) hr2.1.1 (by have := hr2.1.2; omega) (rob_bd hr2) (hr2.2.2.2.2.1.keep hX) ((HM.out.keep (below_call HB1.out HB2.out)).keep hX) (by omega))
  have HB3 := Lib.hid (below_call HB1.out HB2.out)
  have l9 := r9.lt
  have y0 : W2.cell? ⟨n9, 0, none⟩ = some (.slice oa js.length cj) := r9.c 0 _ rfl
  have y1 : W2.cell? ⟨n9, 1, none⟩ = some (.slice oms ms.length cms) := r9.c 1 _ rfl
  have hmk : ∀ Y, Below W2.heap.size W2 Y → Y.cell? ⟨n9, 0, none⟩ = some (.slice oa js.length cj) ∧ Y.cell? ⟨n9, 1, none⟩ = some (.slice oms ms.length cms) ∧ Below W2.heap.size W2 Y := fun Y hY => ⟨(hY.cell (p := ⟨n9, 0, none⟩) l9).trans y0, (hY.cell (p := ⟨n9, 1, none⟩) l9).trans y1, hY⟩
  have hS := hmk W2 (Below.refl _ _)
  have HMK := Lib.hid hmk
  have HR9 := Lib.hid r9
  clear hmk r9 hr2 hr1
  go_cut [10] (fun y X => ∃ (pts : List (List Int)) (op : Option Addr) (cp : Nat), y = .slice op pts.length cp ∧ Good js (n % 13).toNat pts ∧ (∀ W'', (∀ g, W2.heap.size ≤ g → g < X.heap.size → W''.heap[g]? = X.heap[g]?) → Pts W'' op pts) ∧ Below W2.heap.size W2 X)
  case first =>
    clear y0 y1
    go_region_held3 (fun Y => Y.cell? ⟨n9, 0, none⟩ = some (.slice oa js.length cj) ∧ Y.cell? ⟨n9, 1, none⟩ = some (.slice oms ms.length cms) ∧ Below W2.heap.size W2 Y)
      (first
        | assumption
        | exact HMK.out _ (by repeat (first | assumption | exact Below.refl _ _ | apply Below.drew | exact (by assumption : _ ∧ _ ∧ Below W2.heap.size W2 _).2.2)))
      (first
        | (go_at_call 11
           with_reducible refine (HRO.out _).mono ?_
           rintro e Xa ⟨rfl, rfl⟩)
        | (go_at_call 21
           with_reducible refine (HCFG.out _ (by assumption : _ ∧ _ ∧ Below W2.heap.size W2 _).2.2).mono ?_
           rintro e Xa ⟨pts, op, cp, rfl, hpl, hpg, hpp, hb⟩
           have hbs := (by assumption : _ ∧ _ ∧ Below W2.heap.size W2 _).2.2
           replace hpp := fun (W'' : World) (hag : ∀ g, W2.heap.size ≤ g → g < Xa.heap.size → W''.heap[g]? = Xa.heap[g]?) => hpp W'' (fun g h1 h2 => hag g (Nat.le_trans hbs.size h1) h2)
           replace hb := below_call hbs hb))
    all_goals
      go_wp2_with fail
      go_meet
      exact ⟨pts, op, cp, by rw [hpl], ⟨by rw [hpl, hk1]; rfl, hpg⟩, hpp, hb⟩
  case rest =>
    clear y0 y1 hS HMK HCFG HRO
    obtain ⟨pts, op, cp, rfl, hgood, hpp, hb3⟩ := hcut
    obtain ⟨W3, rfl⟩ : ∃ X, X = wc := ⟨_, rfl⟩
    have HGD := Lib.hid hgood
    have HPP := Lib.hid hpp
    have HB4 := Lib.hid hb3
    have r9 := HR9.out.keep hb3
    have r6 := HR61.out.keep hb3
    have l9 := r9.lt
    have l6 := r6.lt
    have y0 : W3.cell? ⟨n9, 0, none⟩ = some (.slice oa js.length cj) := r9.c 0 _ rfl
    have y1 : W3.cell? ⟨n9, 1, none⟩ = some (.slice oms ms.length cms) := r9.c 1 _ rfl
    have z0 : W3.cell? ⟨n6, 0, none⟩ = some (.slice none 0 0) := r6.c 0 _ rfl
    have z1 : W3.cell? ⟨n6, 1, none⟩ = some (.slice none 0 0) := r6.c 1 _ rfl
    have f0 := r6.f 0
    have f1 := r6.f 1
    have HR6 := Lib.hid r6
    clear hgood hpp hb3 r9 r6
    go_upto_region 3 with fail
    go_cut [7, 8] (fun y z X => y = .slice op pts.length cp ∧ (∃ (q : List Int) (oq : Option Addr) (cq : Nat), z = .slice oq q.length cq ∧ (q.length = js.length ∧ inTo js q) ∧ Sl X oq 1 (pvals q)) ∧ Blk X n6 [.slice oa js.length cj, .slice oms ms.length cms] ∧ W3.grownBy X (some n6))
    case first =>
      have hJx := HR2.out
      have hbd := rob_bd hJx
      have HCF := Lib.hid (fun (X : World) (hX : Below W3.heap.size W3 X) (oz : Option Addr) (cz : Nat) (hz : Sl X oz 1 (pvals (n :: (n / 8) :: (n / 32) :: xs))) => config_new oa oms oz cj cms cz js ms.length (n :: (n / 8) :: (n / 32) :: xs) X (by have := hJx.1.2; omega) hbd ((hJx.2.2.2.2.1.keep HB4.out).keep hX) hz (by simp; omega))
      have HB30 : Hid (Below W3.heap.size W3 (W3.alloc (.cells #[.int .i64 n, .int .i64 (n / 8), .int .i64 (n / 32)] 3)).drew) := Lib.hid ((Below.refl _ _).alloc (Nat.le_refl _) _).drew
      have HOW : Hid ((W3.alloc (.cells #[.int .i64 n, .int .i64 (n / 8), .int .i64 (n / 32)] 3)).drew.ownsRow W3.heap.size 3 1 (.slice (some ⟨W3.heap.size, 0, none⟩) 3 3) 3 (pflat [n, n / 8, n / 32])) := Lib.hid (own_built (heap_alloc_new W3 _) (Nat.le_refl _) rfl (by unfold maxLen; omega))
      have HY := Lib.hid (fun (X : World) (hX : Below W3.heap.size W3 X) => And.intro ((hX.cell (p := ⟨n9, 0, none⟩) l9).trans y0) (And.intro ((hX.cell (p := ⟨n9, 1, none⟩) l9).trans y1) (Nat.lt_of_lt_of_le l9 hX.size)))
      have HZ := Lib.hid (fun (X : World) (hX : Below W3.heap.size W3 X) => And.intro ((hX.cell (p := ⟨n6, 0, none⟩) l6).trans z0) (And.intro ((hX.cell (p := ⟨n6, 1, none⟩) l6).trans z1) (And.intro ((hX.frozen (p := ⟨n6, 0, none⟩) l6).trans f0) (And.intro ((hX.frozen (p := ⟨n6, 1, none⟩) l6).trans f1) (Nat.lt_of_lt_of_le l6 hX.size)))))
      obtain ⟨i0, hi, hz0, hz1, hz2⟩ := info_parts info3
      have HOZ := Lib.hid (fun (X : World) (v : Value) (h : X.ownsRow W3.heap.size 3 1 v (3 + xs.length) (pflat (n :: (n / 8) :: (n / 32) :: xs))) => show ∃ oz cz, v = .slice oz (3 + xs.length) cz ∧ Sl X oz 1 (pvals (n :: (n / 8) :: (n / 32) :: xs)) from by
        have e : (n :: (n / 8) :: (n / 32) :: xs).length = 3 + xs.length := by simp; omega
        rw [← pvals_flat] at h
        obtain ⟨oz, cz, rfl, hs⟩ := own_rows (pvals_one _) (by rw [pvals_len, e]; exact h)
        rw [pvals_len, e]
        exact ⟨oz, cz, rfl, hs⟩)
      have HLX : Hid ((n :: (n / 8) :: (n / 32) :: xs).length = 3 + xs.length) := Lib.hid (by simp; omega)
      rw [HLX.out] at HCF
      have HMC := Lib.hid (HM.out.keep (below_call HB3.out HB4.out))
      clear hJx hbd
      cases om with
      | none =>
        obtain ⟨rfl, rfl⟩ := HMN.out rfl
        have hs2 : Sl (W3.alloc (.cells #[.int .i64 n, .int .i64 (n / 8), .int .i64 (n / 32)] 3)).drew (some ⟨W3.heap.size, 0, none⟩) 1 (pvals [n, n / 8, n / 32]) := by
          obtain ⟨oz, cz, e, hs⟩ := HOZ.out _ _ HOW.out
          injection e with e1 _ _
          rw [e1]; exact hs
        have HS2 := Lib.hid hs2
        clear hs2
        go_region_law (first
          | (refine step_append_none _ rfl (.tmp 26) (.tmp 27) 29 rfl W3.heap.size 3 i0 1 under24 hi _ 3 (pflat [n, n / 8, n / 32]) rfl HOW.out (by simp [Act.eval]) ?_)
          | (go_simp
             go_at_call 22
             refine (HCF.out _ HB30.out _ _ HS2.out).mono ?_
             rintro e Xa ⟨q, oq, cq, rfl, hql, hqi, hqs, hqb, hqf⟩
             have hqg : ∀ a, oq = some a → n6 < a.block := fun a ha => Nat.lt_of_lt_of_le (HZ.out _ HB30.out).2.2.2.2 (hqf a ha)
             have hb := HB30.out.trans (hqb.mono HB30.out.size)
             obtain ⟨y0, y1, l9⟩ := HY.out _ hb
             obtain ⟨z0, z1, f0, f1, l6⟩ := HZ.out _ hb))
        all_goals
          go_wp2_with fail
          go_meet
          exact some_fin HR6.out hql hqi hqs hqg hb
      | some ad =>
        have HNW : Hid (∀ (j : Nat) (u : Value), (pflat xs)[j]? = some u → (W3.alloc (.cells #[.int .i64 n, .int .i64 (n / 8), .int .i64 (n / 32)] 3)).drew.cell? (ad.add j) = some u) := Lib.hid (by
          intro j u hu
          have hne : pvals xs ≠ [] := pvals_ne (k := j) (by have := (List.getElem?_eq_some_iff.1 hu).1; rwa [pflat_len] at this)
          obtain ⟨b, off, e, hr⟩ := HMC.out hne
          injection e with e
          subst e
          exact ints_news (hr.keep HB30.out) j u hu)
        go_region_law (first
          | (refine step_append_at _ rfl (.tmp 26) (.tmp 27) 29 rfl W3.heap.size 3 i0 (.int .i64 0) 1 8 under24 hi hz0 hz1 hz2 rfl (by decide) _ 3 (pflat [n, n / 8, n / 32]) rfl HOW.out ad xs.length cm (pflat xs) (by simp [Act.eval]) (by rw [pflat_len, Nat.mul_one]) HNW.out (pflat_cell xs) (by unfold maxLen; omega) (by omega) HB30.out.size ?_
             intro v1 W5 ho hg
             obtain ⟨oz, cz, rfl, hs⟩ := HOZ.out W5 v1 (by simpa [pflat] using ho)
             have hb5 := HB30.out.trans (grown_below HOW.out hg HB30.out.size)
             obtain ⟨y0, y1, l9⟩ := HY.out _ hb5
             clear ho hg)
          | (go_simp
             go_at_call 22
             refine (HCF.out _ hb5 _ _ hs).mono ?_
             rintro e Xa ⟨q, oq, cq, rfl, hql, hqi, hqs, hqb, hqf⟩
             have hqg : ∀ a, oq = some a → n6 < a.block := fun a ha => Nat.lt_of_lt_of_le (HZ.out _ hb5).2.2.2.2 (hqf a ha)
             have hb := hb5.trans (hqb.mono hb5.size)
             obtain ⟨y0, y1, l9⟩ := HY.out _ hb
             obtain ⟨z0, z1, f0, f1, l6⟩ := HZ.out _ hb))
        all_goals
          go_wp2_with fail
          go_meet
          exact some_fin HR6.out hql hqi hqs hqg hb
    case rest =>
      clear y0 y1 z0 z1 f0 f1 l9 l6
      obtain ⟨rfl, ⟨q, oq, cq, rfl, hq, hqs⟩, h6, hg⟩ := hcut
      have s1 : W1.heap.size ≤ W2.heap.size := HB2.out.size
      have s2 : W2.heap.size ≤ W3.heap.size := HB4.out.size
      have s0 : W0.heap.size ≤ W1.heap.size := HBX.out.size
      have n60 := H60.out
      have n61 := H6.out
      have ne : ∀ g, g ≠ n6 → g < W3.heap.size → wc.heap[g]? = W3.heap[g]? := fun g h hl => hg.block g hl (fun e => h (by injection e))
      have HR := Lib.hid (HROB.out wc (fun g h1 h2 => by
        rw [ne g (by omega) (by omega), HB4.out.block g (by omega), HB2.out.block g h2]))
      have HP := Lib.hid (HPP.out wc (fun g h1 h2 => ne g (by omega) h2))
      have HB5 : Hid (Below w.heap.size w wc) := Lib.hid (by
        have h := below_call HB3.out HB4.out
        exact ⟨hg.os.trans h.os, hg.tape.trans h.tape, hg.output.trans h.output, Nat.le_trans h.size hg.size, fun k hk => (ne k (by omega) (Nat.lt_of_lt_of_le hk h.size)).trans (h.block k hk)⟩)
      have e0 : wc.cell? ⟨n6, 0, none⟩ = some (.slice oa js.length cj) := h6.c 0 _ rfl
      have e1 : wc.cell? ⟨n6, 1, none⟩ = some (.slice oms ms.length cms) := h6.c 1 _ rfl
      have HQS := Lib.hid hqs
      have HQ := Lib.hid hq
      have l6 := h6.lt
      clear h6 hg ne hqs hq s0 s1 s2 n60 n61
      go_wp2_with fail
      refine bodyPost_ret (v := .tuple #[.agg #[.slice oa js.length cj, .slice oms ms.length cms], .slice op pts.length cp, .slice oq q.length cq]) (by simp [results, Tryz.results8, go_sem, e0, e1]) rfl ?_
      exact ⟨js, ms, oa, cj, oms, cms, pts, op, cp, q, oq, cq, rfl, HR.out, HGD.out, HP.out, HQ.out, HQS.out, HB5.out⟩
end Go.Proofs.Ng
end

section
/-
  Walks: the law NeighborBuilds.
-/
namespace Go.Proofs.Ng
open Go.RowKit

theorem buildP_len (pts : List (List Int)) : (buildP pts).length ≤ 1024 := by
  unfold buildP
  split
  · rename_i h
    obtain ⟨h1, -⟩ := vp_dim h
    rw [growP_len _ _ _ _ _ (by simp)]
    simp; omega
  · simp
theorem iff_beq {a b : Bool} {p : Prop} (h : a = true ↔ p) (k : b = true ↔ p) : (a == b) = true := by
  cases a <;> cases b <;> simp_all
theorem Pts.keepB {w W : World} {oa : Option Addr} {pts : List (List Int)} (h : Pts w oa pts) (hb : Below w.heap.size w W) : Pts W oa pts := h.keep hb
theorem few7 (oa : Option Addr) (n ca : Nat) (w : World) : Calls Tryz.prog 6 #[.slice oa n ca] w fun e w' => e = .returned (.bool (decide (n ≤ 40))) ∧ w' = w := by
  by_cases h : n ≤ 40
  · have h1 : decide ((n : Int) ≤ 40) = true := decide_eq_true (by omega)
    rw [decide_eq_true h]
    go_enter Tryz.func6, Tryz.ntmps6
    go_wp2
    go_ret
    exact ⟨rfl, rfl⟩
  · have h1 : decide ((n : Int) ≤ 40) = false := decide_eq_false (by omega)
    rw [decide_eq_false h]
    go_enter Tryz.func6, Tryz.ntmps6
    go_wp2
    go_ret
    exact ⟨rfl, rfl⟩
end Go.Proofs.Ng
end

section
/-
  The plain law of k-d trees: the tree that is built is valid.
-/
namespace Go.Proofs.Ng
open Go.RowKit

/-- The nodes from i on are a tree of the points of s, in the order of their making. -/
inductive Sub (pts : List (List Int)) (T : List Nd) : Nat → List Nat → Prop
  | nil (i : Nat) : Sub pts T i []
  | node {i a p : Nat} {x : Nd} {L R s : List Nat} (hx : T[i]? = some x) (hp : x.pt = (p : Nat)) (ha : x.ax = (a : Nat)) (had : a < dimP pts) (hs : s.Perm (L ++ p :: R)) (hL : ∀ q ∈ L, bef pts a q p = true) (hR : ∀ q ∈ R, bef pts a p q = true)
      (hlo : x.lo = if L = [] then -1 else ((i + 1 : Nat) : Int)) (hhi : x.hi = if R = [] then -1 else ((i + 1 + L.length : Nat) : Int)) (sL : Sub pts T (i + 1) L) (sR : Sub pts T (i + 1 + L.length) R) : Sub pts T i s
variable {pts : List (List Int)} {T : List Nd}
/-- What a tree's part knows. -/
structure SubP (pts : List (List Int)) (T : List Nd) (i : Nat) (s : List Nat) : Prop where
  pt : ∀ j, i ≤ j → j < i + s.length → ∃ y, T[j]? = some y ∧ ∃ p ∈ s, y.pt = (p : Nat)
  dn : s ≠ [] → ∀ j, Dn T i j ↔ i ≤ j ∧ j < i + s.length
  lk : ∀ u j, i ≤ u → u < i + s.length → Lk T u j → u < j ∧ j < i + s.length
  one : ∀ j, i < j → j < i + s.length → ∃ u, i ≤ u ∧ u < i + s.length ∧ Lk T u j
  uniq : ∀ u u' j, i ≤ u → u < i + s.length → i ≤ u' → u' < i + s.length → Lk T u j → Lk T u' j → u = u'
  inj : s.Nodup → ∀ (j j' : Nat) (y y' : Nd), i ≤ j → j < i + s.length → i ≤ j' → j' < i + s.length → T[j]? = some y → T[j']? = some y' → y.pt = y'.pt → j = j'
  fld : ∀ (u : Nat) (x : Nd), i ≤ u → u < i + s.length → T[u]? = some x → (x.lo = x.hi → x.lo = -1) ∧ (0 ≤ x.ax ∧ x.ax < dimP pts) ∧ inR u (i + s.length) x.lo ∧ inR u (i + s.length) x.hi
  side : ∀ (u : Nat) (x : Nd) (j : Nat) (y : Nd), i ≤ u → u < i + s.length → T[u]? = some x → T[j]? = some y → Side pts T u x j y
theorem sub_nil (pts : List (List Int)) (T : List Nd) (i : Nat) : SubP pts T i [] := by
  refine ⟨fun j h1 h2 => ?_, fun h => absurd rfl h, fun u j h1 h2 => ?_, fun j h1 h2 => ?_, fun u u' j h1 h2 => ?_, fun _ j j' y y' h1 h2 => ?_, fun u x h1 h2 => ?_, fun u x j y h1 h2 => ?_⟩ <;> (simp at h2; omega)
theorem sub_all {i : Nat} {s : List Nat} (h : Sub pts T i s) : SubP pts T i s := by
  induction h with
  | nil i => exact sub_nil pts T i
  | @node i a p x L R s hx hp ha had hs hL hR hlo hhi sL sR iL iR =>
    have hlen : s.length = L.length + 1 + R.length := by rw [hs.length_eq]; simp; omega
    have hi : ∀ x', T[i]? = some x' → x' = x := fun x' h => by rw [hx] at h; injection h with h; exact h.symm
    -- the links of node i
    have lki : ∀ j, Lk T i j ↔ (L ≠ [] ∧ j = i + 1) ∨ (R ≠ [] ∧ j = i + 1 + L.length) := by
      intro j
      constructor
      · rintro ⟨x', hx', hc⟩
        have := hi x' hx'
        subst this
        rcases hc with hc | hc
        · rw [hlo] at hc
          split at hc
          · omega
          · rename_i h; exact .inl ⟨h, by omega⟩
        · rw [hhi] at hc
          split at hc
          · omega
          · rename_i h; exact .inr ⟨h, by omega⟩
      · rintro (⟨h, rfl⟩ | ⟨h, rfl⟩)
        · exact ⟨x, hx, .inl (by rw [hlo, if_neg h])⟩
        · exact ⟨x, hx, .inr (by rw [hhi, if_neg h])⟩
    have hl0 : L ≠ [] → 0 < L.length := fun h => List.length_pos_iff.2 h
    have hr0 : R ≠ [] → 0 < R.length := fun h => List.length_pos_iff.2 h
    have hln : 0 < L.length → L ≠ [] := fun h e => by rw [e] at h; simp at h
    have hrn : 0 < R.length → R ≠ [] := fun h e => by rw [e] at h; simp at h
    have part : ∀ j, i ≤ j → j < i + s.length → j = i ∨ (i + 1 ≤ j ∧ j < i + 1 + L.length) ∨ (i + 1 + L.length ≤ j ∧ j < i + 1 + L.length + R.length) := fun j h1 h2 => by omega
    have lkr : ∀ u j, i ≤ u → u < i + s.length → Lk T u j → u < j ∧ j < i + s.length ∧ ((u = i ∧ ((L ≠ [] ∧ j = i + 1) ∨ (R ≠ [] ∧ j = i + 1 + L.length))) ∨ ((i + 1 ≤ u ∧ u < i + 1 + L.length) ∧ i + 1 < j ∧ j < i + 1 + L.length) ∨ ((i + 1 + L.length ≤ u ∧ u < i + 1 + L.length + R.length) ∧ i + 1 + L.length < j ∧ j < i + 1 + L.length + R.length)) := by
      intro u j h1 h2 hl
      rcases part u h1 h2 with rfl | ⟨h3, h4⟩ | ⟨h3, h4⟩
      · have hq := (lki j).1 hl
        rcases hq with ⟨hh, rfl⟩ | ⟨hh, rfl⟩
        · have := hl0 hh; exact ⟨by omega, by omega, .inl ⟨rfl, .inl ⟨hh, rfl⟩⟩⟩
        · have := hr0 hh; exact ⟨by omega, by omega, .inl ⟨rfl, .inr ⟨hh, rfl⟩⟩⟩
      · have := iL.lk u j h3 h4 hl
        exact ⟨this.1, by omega, .inr (.inl ⟨⟨h3, h4⟩, by omega, this.2⟩)⟩
      · have := iR.lk u j h3 h4 hl
        exact ⟨this.1, by omega, .inr (.inr ⟨⟨h3, h4⟩, by omega, this.2⟩)⟩
    refine ⟨?_, ?_, ?_, ?_, ?_, ?_, ?_, ?_⟩
    · intro j h1 h2
      rcases part j h1 h2 with rfl | ⟨h3, h4⟩ | ⟨h3, h4⟩
      · exact ⟨x, hx, p, hs.mem_iff.2 (by simp), hp⟩
      · obtain ⟨y, hy, q, hq, e⟩ := iL.pt j h3 h4
        exact ⟨y, hy, q, hs.mem_iff.2 (by simp [hq]), e⟩
      · obtain ⟨y, hy, q, hq, e⟩ := iR.pt j h3 h4
        exact ⟨y, hy, q, hs.mem_iff.2 (by simp [hq]), e⟩
    · intro _ j
      constructor
      · intro hd
        rcases hd.head with rfl | ⟨c, hc, hd2⟩
        · omega
        · rcases (lki c).1 hc with ⟨h, rfl⟩ | ⟨h, rfl⟩
          · have := (iL.dn h j).1 hd2; omega
          · have := (iR.dn h j).1 hd2; omega
      · rintro ⟨h1, h2⟩
        rcases part j h1 h2 with rfl | ⟨h3, h4⟩ | ⟨h3, h4⟩
        · exact .self
        · have h := hln (by omega)
          exact (Dn.self.step ((lki _).2 (.inl ⟨h, rfl⟩))).trans ((iL.dn h j).2 ⟨h3, h4⟩)
        · have h := hrn (by omega)
          exact (Dn.self.step ((lki _).2 (.inr ⟨h, rfl⟩))).trans ((iR.dn h j).2 ⟨h3, h4⟩)
    · intro u j h1 h2 hl
      have := lkr u j h1 h2 hl
      exact ⟨this.1, this.2.1⟩
    · intro j h1 h2
      rcases part j (by omega) h2 with rfl | ⟨h3, h4⟩ | ⟨h3, h4⟩
      · omega
      · by_cases e : j = i + 1
        · exact ⟨i, by omega, by omega, (lki j).2 (.inl ⟨hln (by omega), e⟩)⟩
        · obtain ⟨u, h5, h6, h7⟩ := iL.one j (by omega) h4
          exact ⟨u, by omega, by omega, h7⟩
      · by_cases e : j = i + 1 + L.length
        · exact ⟨i, by omega, by omega, (lki j).2 (.inr ⟨hrn (by omega), e⟩)⟩
        · obtain ⟨u, h5, h6, h7⟩ := iR.one j (by omega) h4
          exact ⟨u, by omega, by omega, h7⟩
    · intro u u' j h1 h2 h3 h4 hl hl'
      have k1 := (lkr u j h1 h2 hl).2.2
      have k2 := (lkr u' j h3 h4 hl').2.2
      rcases k1 with ⟨a1, a2⟩ | ⟨a1, a2⟩ | ⟨a1, a2⟩ <;> rcases k2 with ⟨b1, b2⟩ | ⟨b1, b2⟩ | ⟨b1, b2⟩
      · omega
      · rcases a2 with ⟨_, a2⟩ | ⟨_, a2⟩ <;> omega
      · rcases a2 with ⟨q, a2⟩ | ⟨_, a2⟩
        · have := hl0 q; omega
        · omega
      · rcases b2 with ⟨_, b2⟩ | ⟨_, b2⟩ <;> omega
      · exact iL.uniq u u' j a1.1 a1.2 b1.1 b1.2 hl hl'
      · omega
      · rcases b2 with ⟨q, b2⟩ | ⟨_, b2⟩
        · have := hl0 q; omega
        · omega
      · omega
      · exact iR.uniq u u' j a1.1 a1.2 b1.1 b1.2 hl hl'
    · intro hnd j j' y y' h1 h2 h3 h4 hy hy' e
      have hnd2 : (L ++ p :: R).Nodup := hs.nodup_iff.1 hnd
      rw [List.nodup_append] at hnd2
      obtain ⟨ndL, ndpR, dis⟩ := hnd2
      rw [List.nodup_cons] at ndpR
      have where_ : ∀ (j : Nat) (y : Nd), i ≤ j → j < i + s.length → T[j]? = some y → (j = i ∧ y.pt = (p : Nat)) ∨ ((i + 1 ≤ j ∧ j < i + 1 + L.length) ∧ ∃ q ∈ L, y.pt = (q : Nat)) ∨ ((i + 1 + L.length ≤ j ∧ j < i + 1 + L.length + R.length) ∧ ∃ q ∈ R, y.pt = (q : Nat)) := by
        intro j y h1 h2 hy
        rcases part j h1 h2 with rfl | ⟨h3, h4⟩ | ⟨h3, h4⟩
        · have := hi y hy; subst this; exact .inl ⟨rfl, hp⟩
        · obtain ⟨y2, hy2, q, hq, e⟩ := iL.pt j h3 h4
          rw [hy] at hy2; injection hy2 with hy2; subst hy2
          exact .inr (.inl ⟨⟨h3, h4⟩, q, hq, e⟩)
        · obtain ⟨y2, hy2, q, hq, e⟩ := iR.pt j h3 h4
          rw [hy] at hy2; injection hy2 with hy2; subst hy2
          exact .inr (.inr ⟨⟨h3, h4⟩, q, hq, e⟩)
      rcases where_ j y h1 h2 hy with ⟨a1, a2⟩ | ⟨a1, q, hq, a2⟩ | ⟨a1, q, hq, a2⟩ <;> rcases where_ j' y' h3 h4 hy' with ⟨b1, b2⟩ | ⟨b1, q', hq', b2⟩ | ⟨b1, q', hq', b2⟩
      · omega
      · exact absurd (show q' = p by omega) (dis q' hq' p (by simp))
      · exact absurd (show q' ∈ R from hq') (by have : q' = p := by omega
                                                rw [this]; exact ndpR.1)
      · exact absurd (show q = p by omega) (dis q hq p (by simp))
      · exact iL.inj ndL j j' y y' a1.1 a1.2 b1.1 b1.2 hy hy' e
      · exact absurd (show q = q' by omega) (dis q hq q' (by simp [hq']))
      · exact absurd (show q ∈ R from hq) (by have : q = p := by omega
                                              rw [this]; exact ndpR.1)
      · exact absurd (show q' = q by omega) (dis q' hq' q (by simp [hq]))
      · exact iR.inj ndpR.2 j j' y y' a1.1 a1.2 b1.1 b1.2 hy hy' e
    · intro u x' h1 h2 hx'
      rcases part u h1 h2 with rfl | ⟨h3, h4⟩ | ⟨h3, h4⟩
      · have := hi x' hx'
        subst this
        refine ⟨fun e => ?_, ⟨by omega, by omega⟩, ?_, ?_⟩
        · rw [hlo, hhi] at e
          rw [hlo]
          split at e
          · rename_i hL0; rw [if_pos hL0]
          · rename_i hL0
            have := hl0 hL0
            split at e
            · omega
            · omega
        · rw [hlo]; unfold inR
          split
          · exact .inl rfl
          · rename_i hL0; have := hl0 hL0; right; omega
        · rw [hhi]; unfold inR
          split
          · exact .inl rfl
          · rename_i hR0; have := hr0 hR0; right; omega
      · obtain ⟨k1, k2, k3, k4⟩ := iL.fld u x' h3 h4 hx'
        unfold inR at k3 k4 ⊢
        exact ⟨k1, k2, by omega, by omega⟩
      · obtain ⟨k1, k2, k3, k4⟩ := iR.fld u x' h3 h4 hx'
        unfold inR at k3 k4 ⊢
        exact ⟨k1, k2, by omega, by omega⟩
    · intro u x' j y h1 h2 hx' hy
      rcases part u h1 h2 with rfl | ⟨h3, h4⟩ | ⟨h3, h4⟩
      · have := hi x' hx'
        subst this
        have e1 : x'.ax.toNat = a := by omega
        have e2 : x'.pt.toNat = p := by omega
        refine ⟨fun c hc hd => ?_, fun c hc hd => ?_⟩
        · rcases (lki c).1 ⟨x', hx, .inl hc⟩ with ⟨h, rfl⟩ | ⟨h, rfl⟩
          · have := (iL.dn h j).1 hd
            obtain ⟨y2, hy2, q, hq, e⟩ := iL.pt j this.1 this.2
            rw [hy] at hy2; injection hy2 with hy2; subst hy2
            rw [e1, e2, show y.pt.toNat = q by omega]
            exact hL q hq
          · exfalso
            rw [hlo] at hc
            split at hc
            · omega
            · rename_i hL0; have := hl0 hL0; omega
        · rcases (lki c).1 ⟨x', hx, .inr hc⟩ with ⟨h, rfl⟩ | ⟨h, rfl⟩
          · exfalso
            rw [hhi] at hc
            have := hl0 h
            split at hc
            · omega
            · omega
          · have := (iR.dn h j).1 hd
            obtain ⟨y2, hy2, q, hq, e⟩ := iR.pt j this.1 this.2
            rw [hy] at hy2; injection hy2 with hy2; subst hy2
            rw [e1, e2, show y.pt.toNat = q by omega]
            exact hR q hq
      · exact iL.side u x' j y h3 h4 hx' hy
      · exact iR.side u x' j y h3 h4 hx' hy
/-- A whole tree is valid. -/
theorem sub_kd {n : Nat} (hv : vpB pts = true) (hn : pts.length = n) (hT : T.length = n) (h : Sub pts T 0 (List.range n)) : KdOk pts T := by
  have hp := sub_all h
  have hlt : ∀ (u : Nat) (x : Nd), T[u]? = some x → u < n := fun u x hx => by have := (List.getElem?_eq_some_iff.1 hx).1; omega
  have hlk : ∀ u j, Lk T u j → u < n := fun u j ⟨x, hx, _⟩ => hlt u x hx
  refine ⟨hv, by omega, ⟨fun i x hx => ?_, fun i j x y hx hy e => ?_, fun j h1 h2 => ?_, fun i i' j h1 h2 => ?_, fun i x hx => ?_⟩, fun u x j y hx hy => ?_⟩
  · have hi := hlt i x hx
    obtain ⟨k1, k2, k3, k4⟩ := hp.fld i x (Nat.zero_le _) (by simpa using hi) hx
    obtain ⟨y, hy, p, hpm, e⟩ := hp.pt i (Nat.zero_le _) (by simpa using hi)
    rw [hx] at hy; injection hy with hy; subst hy
    have := List.mem_range.1 hpm
    simp only [List.length_range, Nat.zero_add] at k3 k4
    exact ⟨by omega, by omega, k2.1, k2.2, by rw [hT]; exact k3, by rw [hT]; exact k4⟩
  · exact hp.inj List.nodup_range i j x y (Nat.zero_le _) (by simpa using hlt i x hx) (Nat.zero_le _) (by simpa using hlt j y hy) hx hy e
  · obtain ⟨u, _, _, hu⟩ := hp.one j (by omega) (by simp; omega)
    exact ⟨u, hu⟩
  · exact hp.uniq i i' j (Nat.zero_le _) (by simpa using hlk i j h1) (Nat.zero_le _) (by simpa using hlk i' j h2) h1 h2
  · exact (hp.fld i x (Nat.zero_le _) (by simpa using hlt i x hx) hx).1
  · exact hp.side u x j y (Nat.zero_le _) (by simpa using hlt u x hx) hx hy

theorem setLH_ne {t : List Nd} {k j : Nat} {lo hi : Int} (h : j ≠ k) : (setLH t k lo hi)[j]? = t[j]? := by
  unfold setLH; rw [List.getElem?_modify]
  have hk : ¬ k = j := fun e => h e.symm
  cases t[j]? <;> simp [hk]
theorem setLH_at {t : List Nd} {k : Nat} {lo hi : Int} {n : Nd} (h : t[k]? = some n) : (setLH t k lo hi)[k]? = some { n with lo := lo, hi := hi } := by
  unfold setLH; rw [List.getElem?_modify, h]; simp
theorem grow_sub (hd : 0 < dimP pts) : ∀ (f : Nat) (t : List Nd) (s : List Nat) (lev : Nat), s.length ≤ f → s.Nodup →
    (growP pts f t s lev).2 = (if s = [] then -1 else ((t.length : Nat) : Int)) ∧ (∀ j, j < t.length → (growP pts f t s lev).1[j]? = t[j]?) ∧ ∀ T' : List Nd, (∀ j, t.length ≤ j → j < t.length + s.length → T'[j]? = (growP pts f t s lev).1[j]?) → Sub pts T' t.length s
  | 0, t, s, lev, h, _ => by
    have : s = [] := List.length_eq_zero_iff.1 (by omega)
    subst this
    exact ⟨by simp [growP], fun j _ => by simp [growP], fun T' _ => .nil _⟩
  | f + 1, t, s, lev, h, hnd => by
    by_cases hs : s = []
    · subst hs
      rw [growP_nil]
      exact ⟨by simp, fun j _ => rfl, fun T' _ => .nil _⟩
    · have h0 : 0 < s.length := List.length_pos_iff.2 hs
      rw [growP_step hs, if_neg hs]
      have hmid := mid_at (pts := pts) (a := axP pts lev) h0
      have hsl := srt_len pts (axP pts lev) s
      have hsp := srt_perm pts (axP pts lev) s
      have hpw := srt_pw pts (axP pts lev) s
      have hll := lowP_len (pts := pts) (t := t) (lev := lev) h
      have hhl := highP_len (pts := pts) (t := t) (lev := lev) h h0
      obtain ⟨l1, l2, l3⟩ := grow_sub hd f (t ++ [⟨(midP pts (axP pts lev) s : Nat), (axP pts lev : Nat), 0, 0⟩]) ((srt pts (axP pts lev) s).take (s.length / 2)) (lev + 1) (by rw [List.length_take]; omega) (((hsp.nodup_iff).2 hnd).sublist (List.take_sublist _ _))
      change (lowP pts f t s lev).2 = _ at l1
      change ∀ j, _ → (lowP pts f t s lev).1[j]? = _ at l2
      change ∀ T', (∀ j, _ → _ → T'[j]? = (lowP pts f t s lev).1[j]?) → _ at l3
      obtain ⟨r1, r2, r3⟩ := grow_sub hd f (lowP pts f t s lev).1 ((srt pts (axP pts lev) s).drop (s.length / 2 + 1)) (lev + 1) (by rw [List.length_drop]; omega) (((hsp.nodup_iff).2 hnd).sublist (List.drop_sublist _ _))
      change (highP pts f t s lev).2 = _ at r1
      change ∀ j, _ → (highP pts f t s lev).1[j]? = _ at r2
      change ∀ T', (∀ j, _ → _ → T'[j]? = (highP pts f t s lev).1[j]?) → _ at r3
      generalize lowP pts f t s lev = LO at *
      generalize highP pts f t s lev = HI at *
      have hndl := (hsp.nodup_iff).2 hnd
      generalize srt pts (axP pts lev) s = l at *
      generalize midP pts (axP pts lev) s = mp at *
      have hk : s.length / 2 < l.length := by omega
      have hsplit : l = l.take (s.length / 2) ++ mp :: l.drop (s.length / 2 + 1) := by
        have e := (List.take_append_drop (s.length / 2) l).symm
        rw [List.drop_eq_getElem_cons hk] at e
        have e2 : l[s.length / 2] = mp := by rw [List.getElem?_eq_getElem hk] at hmid; injection hmid
        rw [e2] at e
        exact e
      have hlenL : (l.take (s.length / 2)).length = s.length / 2 := by rw [List.length_take]; omega
      have hlenR : (l.drop (s.length / 2 + 1)).length = s.length - (s.length / 2 + 1) := by rw [List.length_drop, hsl]
      generalize l.take (s.length / 2) = L at *
      generalize l.drop (s.length / 2 + 1) = R at *
      simp only [List.length_append, List.length_cons, List.length_nil] at l1 l2 l3 hll
      refine ⟨rfl, fun j hj => ?_, fun T' hag => ?_⟩
      · rw [setLH_ne (by omega), r2 j (by omega), l2 j (by omega), List.getElem?_append_left hj]
      · have hmidT : T'[t.length]? = some ⟨(mp : Nat), (axP pts lev : Nat), LO.2, HI.2⟩ := by
          rw [hag t.length (Nat.le_refl _) (by omega), setLH_at (n := ⟨(mp : Nat), (axP pts lev : Nat), 0, 0⟩) (by rw [r2 _ (by omega), l2 _ (by omega), List.getElem?_append_right (Nat.le_refl _), Nat.sub_self]; rfl)]
        rw [hsplit] at hpw hndl hsp
        rw [List.pairwise_append] at hpw
        rw [List.nodup_append] at hndl
        obtain ⟨_, hpR, hpL⟩ := hpw
        rw [List.pairwise_cons] at hpR
        have hnR := (List.nodup_cons.1 hndl.2.1).1
        refine .node hmidT rfl rfl (Nat.mod_lt _ hd) hsp.symm (fun q hq => ?_) (fun q hq => ?_) (by simp only; rw [l1]) (by simp only; rw [r1, hll, hlenL]) (l3 T' fun j h1 h2 => ?_) ?_
        · have := hpL q hq mp (by simp)
          have hne := hndl.2.2 q hq mp (by simp)
          rw [bef_flip hne]
          exact this
        · have := hpR.1 q hq
          have hne : mp ≠ q := fun e => hnR (by rw [e]; exact hq)
          rw [bef_flip hne]
          exact this
        · rw [hag j (by omega) (by omega), setLH_ne (by omega), r2 j (by omega)]
        · have := r3 T' fun j h1 h2 => by rw [hag j (by omega) (by omega), setLH_ne (by omega)]
          rw [hll] at this
          rw [hlenL]
          exact this
/-- The tree that is built is valid. -/
theorem buildP_ok (hv : vpB pts = true) : KdOk pts (buildP pts) ∧ (buildP pts).length = pts.length := by
  have hl : (buildP pts).length = pts.length := by
    unfold buildP
    rw [if_pos hv, growP_len _ _ _ _ _ (by simp)]
    simp
  refine ⟨?_, hl⟩
  by_cases h0 : pts.length = 0
  · have hb : buildP pts = [] := List.length_eq_zero_iff.1 (by omega)
    rw [hb] at hl ⊢
    exact sub_kd hv (by simpa using hl.symm) rfl (by simpa using Sub.nil 0)
  · obtain ⟨_, hdim⟩ := vp_dim hv
    obtain ⟨c, hc⟩ : ∃ c, pts[0]? = some c := ⟨_, List.getElem?_eq_getElem (by omega)⟩
    have hd := hdim c (List.mem_of_getElem? hc)
    have := (grow_sub (pts := pts) (by omega) pts.length [] (List.range pts.length) 0 (by simp) List.nodup_range).2.2
    unfold buildP at hl ⊢
    rw [if_pos hv] at hl ⊢
    exact sub_kd hv rfl hl (this _ fun j _ _ => rfl)
end Go.Proofs.Ng
end

section
/-
  Walks: the law NeighborTrees.
-/
namespace Go.Proofs.Ng
open Go.RowKit

/-- Points of a robot are valid points. -/
theorem good_vp {js : List JV} {ms : List MV} {oa om : Option Addr} {W : World} {n : Nat} {pts : List (List Int)} (hr : RobP js ms oa om W) (hg : Good js n pts) (hn : n ≤ 1024) : vpB pts = true := by
  refine vp_yes (by rw [hg.1]; exact hn) fun j c hj hc => ?_
  obtain ⟨hl, hi⟩ := hg.2 c (List.mem_of_getElem? hc)
  have hd : dimP pts = js.length := by
    obtain ⟨c0, hc0⟩ : ∃ c, pts[0]? = some c := ⟨_, List.getElem?_eq_getElem (by omega)⟩
    unfold dimP
    rw [hc0]
    exact (hg.2 c0 (List.mem_of_getElem? hc0)).1
  have hjl := hr.1
  unfold okC
  rw [hd, decide_eq_true (by omega), Bool.true_and]
  refine small_yes fun k x hk hx => ?_
  obtain ⟨jv, hjv⟩ : ∃ jv, js[k]? = some jv := ⟨_, List.getElem?_eq_getElem (by omega)⟩
  have h1 := hi k jv x hjv hx
  have h2 := (hr.2.2.1 k jv hjv).lim
  have h3 := limitF_bd jv.kind
  unfold okX
  exact decide_eq_true (by omega)
/-- The cells of rows, one behind another. -/
theorem flat_news {W : World} {n : Nat} (hn : 0 < n) : ∀ {rows : List (List Value)} {b off : Nat}, (∀ r ∈ rows, r.length = n) → RowsAt W b off n rows → ∀ (j : Nat) (u : Value), rows.flatten[j]? = some u → W.cell? ⟨b, off + j, none⟩ = some u
  | [], b, off, _, _, j, u, h => by simp at h
  | r :: rows, b, off, hl, hr, j, u, h => by
    have hrl := hl r (by simp)
    rw [List.flatten_cons] at h
    rcases Nat.lt_or_ge j r.length with h1 | h1
    · rw [List.getElem?_append_left h1] at h
      have := hr.c 0 r rfl j u h
      simpa using this
    · rw [List.getElem?_append_right h1] at h
      have := flat_news hn (rows := rows) (b := b) (off := off + n) (fun r hr => hl r (by simp [hr])) ⟨hr.lt, fun i r' hi k v hv => by
        have := hr.c (i + 1) r' (by simpa using hi) k v hv
        have e : off + ((i + 1) * n + k) = off + n + (i * n + k) := by rw [Nat.succ_mul]; omega
        rw [← e]; exact this⟩ (j - r.length) u h
      have e : off + n + (j - r.length) = off + j := by omega
      rw [← e]; exact this
theorem add_cell (b off j : Nat) : (⟨b, off, none⟩ : Addr).add j = ⟨b, off + j, none⟩ := by unfold Addr.add; split <;> simp_all
theorem nflat_one (t : List Nd) : ∀ u ∈ nflat t, u.oneCell' = true := by
  intro u hu
  unfold nflat at hu
  rw [List.mem_flatten] at hu
  obtain ⟨r, hr, hu⟩ := hu
  rw [List.mem_map] at hr
  obtain ⟨x, _, rfl⟩ := hr
  simp [Nd.vals] at hu
  rcases hu with rfl | rfl | rfl | rfl <;> rfl
theorem nflat_len (t : List Nd) : (nflat t).length = t.length * 4 := by
  unfold nflat
  induction t with
  | nil => rfl
  | cons a r ih => rw [List.map_cons, List.flatten_cons, List.length_append, ih]; simp [Nd.vals]; omega
theorem nflat_mod (f : Nat) (g : Nd → Nd) (v : Value) (hf : f < 4) (hg : ∀ n : Nd, (g n).vals = n.vals.set f v) : ∀ {t : List Nd} {k : Nat}, k < t.length → (nflat t).set (k * 4 + f) v = nflat (t.modify k g)
  | [], k, h => by simp at h
  | a :: t, 0, h => by
    have hl : a.vals.length = 4 := rfl
    have e : nflat ((a :: t).modify 0 g) = (g a).vals ++ nflat t := by simp [nflat]
    have e2 : nflat (a :: t) = a.vals ++ nflat t := by simp [nflat]
    rw [e, e2, hg, List.set_append_left _ _ (by omega), Nat.zero_mul, Nat.zero_add]
  | a :: t, k + 1, h => by
    have ih := nflat_mod f g v hf hg (t := t) (k := k) (by simpa using h)
    have hl : a.vals.length = 4 := rfl
    have e : nflat ((a :: t).modify (k + 1) g) = a.vals ++ nflat (t.modify k g) := by simp [nflat]
    have e2 : nflat (a :: t) = a.vals ++ nflat t := by simp [nflat]
    rw [e, ← ih, e2, List.set_append_right _ _ (by omega)]
    congr 2
    omega
theorem own_nodes2 {W : World} {base : Nat} {v : Value} {t : List Nd} (h : W.ownsRow base 57 4 v t.length (nflat t)) : ∃ ot ct, v = .slice ot t.length ct ∧ Sl W ot 4 (t.map Nd.vals) := by
  obtain ⟨ot, ct, rfl, hs⟩ := own_rows (rows := t.map Nd.vals) (nd_four t) (by rw [List.length_map]; exact h)
  rw [List.length_map]
  exact ⟨ot, ct, rfl, hs⟩
end Go.Proofs.Ng
end

section
/-
  What some makes, fits.
-/
namespace Go.Proofs.Ng
open Go.RowKit

theorem fits_some {js : List JV} {ms : List MV} {oa om : Option Addr} {W : World} {n : Nat} {pts : List (List Int)} {q : List Int} (hr : RobP js ms oa om W) (hg : Good js n pts) (hn : n ≤ 1024) (hl : q.length = js.length) (hq : inTo js q) : FitsP js ms pts (buildP pts) q := by
  refine ⟨okR_rob hr, hl, small_in hr hl hq, (buildP_ok (good_vp hr hg hn)).1, ?_⟩
  by_cases h : pts = []
  · exact .inl h
  · obtain ⟨x, xs, rfl⟩ := List.exists_cons_of_ne_nil h
    refine .inr ?_
    unfold dimP
    simpa using (hg.2 x (by simp)).1
end Go.Proofs.Ng
end

section
/-
  Flags of those seen.
-/
namespace Go.Proofs.Ng
open Go.RowKit

def inB (n : Nat) (l : List Nat) : List Bool := (List.range n).map fun p => decide (p ∈ l)
theorem inB_len (n : Nat) (l : List Nat) : (inB n l).length = n := by simp [inB]
theorem inB_nil (n : Nat) : inB n [] = List.replicate n false := by
  apply List.ext_getElem
  · simp [inB]
  · intro i h1 h2; simp [inB]
theorem inB_get {n : Nat} {l : List Nat} {p : Nat} (h : p < n) : (inB n l)[p]? = some (decide (p ∈ l)) := by
  simp [inB, h]
theorem inB_set {n : Nat} {l : List Nat} {p : Nat} (h : p < n) : (inB n l).set p true = inB n (l ++ [p]) := by
  apply List.ext_getElem?
  intro i
  rw [List.getElem?_set, inB_len]
  by_cases hi : i < n
  · rw [inB_get hi, inB_get hi]
    by_cases e : p = i
    · subst e; simp [h]
    · simp [e, Ne.symm e]
  · rw [if_neg (by omega), List.getElem?_eq_none (by rw [inB_len]; omega), List.getElem?_eq_none (by rw [inB_len]; omega)]
end Go.Proofs.Ng
end

section
/-
  The reference's distance of a point.
-/
namespace Go.Proofs.Ng
open Go.RowKit

theorem dist_pt {oj om ox oq : Option Addr} {cj cm cx cq : Nat} {js : List JV} {ms : List MV} {pts : List (List Int)} {t : List Nd} {x q : List Int} {p : Nat} {X : World}
    (hF : FitsP js ms pts t q) (hl : ms.length ≤ 9223372036854775807) (hJ : Sl X oj 12 (js.map JV.vals)) (hM : Sl X om 5 (ms.map MV.vals)) (hx : pts[p]? = some x) (hX : Sl X ox 1 (pvals x)) (hQ : Sl X oq 1 (pvals q)) :
    Calls Tryz.prog 15 #[.agg #[.slice oj js.length cj, .slice om ms.length cm], .slice ox x.length cx, .slice oq q.length cq] X (fun e w' => e = .returned (.int .i64 (dP js q pts p)) ∧ Below X.heap.size X w') := by
  obtain ⟨hok, hql, hsq, hkd, hd⟩ := hF
  have hmem := List.mem_of_getElem? hx
  have hdim : dimP pts = js.length := by
    rcases hd with h | h
    · subst h; simp at hx
    · exact h
  have hxl := ((vp_dim hkd.1).2 x hmem).1
  have hsx : smallB x = true := by
    have hv := hkd.1
    unfold vpB at hv
    rw [Bool.and_eq_true, decide_eq_true_eq, List.all_eq_true] at hv
    have h1 := hv.2 x hmem
    unfold okC at h1
    rw [Bool.and_eq_true] at h1
    exact h1.2
  have e : dP js q pts p = dst js q x := by unfold dP; rw [hx]; rfl
  rw [e]
  exact dist18 oj om ox oq cj cm cx cq js ms x q X (by have := hok.1.2; omega) hl hJ hM hX hQ hok hsx hsq (by omega) (by omega)
end Go.Proofs.Ng
end

section
/-
  The plain law of Nearest: another order of the points.
-/
namespace Go.Proofs.Ng
open Go.RowKit

/-- The i-th of the nearest is no farther than the i-th of another list that shows as far points. -/
theorem near_ord {k k' n n' : Nat} {dA dB : Nat → Int} {R S : List Nat} (hR : NearL k n dA R) (hS : NearL k' n' dB S) (f : Nat → Nat) (hlt : ∀ p, p < n' → f p < n) (hinj : ∀ p q, p < n' → q < n' → f p = f q → p = q) (hd : ∀ p, p < n' → dA (f p) = dB p) {i a b : Nat} (ha : R[i]? = some a) (hb : S[i]? = some b) : dA a ≤ dB b := by
  refine Int.not_lt.1 fun hc => ?_
  obtain ⟨hi, -⟩ := List.getElem?_eq_some_iff.1 ha
  obtain ⟨hj, -⟩ := List.getElem?_eq_some_iff.1 hb
  have hmS : ∀ p ∈ S.take (i + 1), p < n' := fun p hp => hS.set.lt p (List.mem_of_mem_take hp)
  have hnd : ((S.take (i + 1)).map f).Nodup := by
    have hn : (S.take (i + 1)).Nodup := hS.set.nd.sublist (List.take_sublist _ _)
    rw [List.Nodup, List.pairwise_map]
    refine (List.Pairwise.and_mem.1 hn).imp ?_
    rintro p q ⟨hp, hq, hne⟩ e
    exact hne (hinj p q (hmS p hp) (hmS q hq) e)
  have hsub : ∀ x ∈ (S.take (i + 1)).map f, x ∈ R.take i := fun x hx => by
    obtain ⟨p, hp, rfl⟩ := List.mem_map.1 hx
    have hpn := hmS p hp
    have hle : dB p ≤ dB b := by
      obtain ⟨j, hjp⟩ := List.mem_iff_getElem?.1 hp
      rw [List.getElem?_take] at hjp
      split at hjp
      · exact hS.le (by omega) hjp hb
      · cases hjp
    have hxR : f p ∈ R := Decidable.byContradiction fun hn => by
      have h1 := hR.out (hlt p hpn) hn (List.mem_of_getElem? ha)
      have h2 := hd p hpn
      omega
    obtain ⟨j, hjp⟩ := List.mem_iff_getElem?.1 hxR
    refine List.mem_iff_getElem?.2 ⟨j, ?_⟩
    rw [List.getElem?_take]
    split
    · exact hjp
    · have h1 := hR.le (show i ≤ j by omega) ha hjp
      have h2 := hd p hpn
      omega
  have hcount := nodup_sub _ _ hnd hsub
  rw [List.length_map, List.length_take, List.length_take] at hcount
  omega
/-- The points in another order: their distances. -/
theorem near_perm {k n : Nat} {dA dB : Nat → Int} {R S : List Nat} (hR : NearL k n dA R) (hS : NearL k n dB S) (f : Nat → Nat) (hlt : ∀ p, p < n → f p < n) (hinj : ∀ p q, p < n → q < n → f p = f q → p = q) (hon : ∀ p, p < n → ∃ q, q < n ∧ f q = p) (hd : ∀ p, p < n → dA (f p) = dB p) {i a b : Nat} (ha : R[i]? = some a) (hb : S[i]? = some b) : dA a = dB b := by
  refine Int.le_antisymm (near_ord hR hS f hlt hinj hd ha hb) ?_
  have hg : ∀ p : Nat, ∃ q, p < n → q < n ∧ f q = p := fun p => by
    by_cases hp : p < n
    · obtain ⟨q, h1, h2⟩ := hon p hp
      exact ⟨q, fun _ => ⟨h1, h2⟩⟩
    · exact ⟨0, fun h => absurd h hp⟩
  obtain ⟨g, hg⟩ := Classical.axiomOfChoice hg
  refine near_ord hS hR g (fun p hp => (hg p hp).1) (fun p q hp hq e => ?_) (fun p hp => ?_) hb ha
  · rw [← (hg p hp).2, e, (hg q hq).2]
  · rw [← hd _ (hg p hp).1, (hg p hp).2]
/-- A distance is not negative. -/
theorem dP_nn {js : List JV} {ms : List MV} {pts : List (List Int)} {t : List Nd} {q : List Int} (h : FitsP js ms pts t q) (p : Nat) : 0 ≤ dP js q pts p := by
  have hw := wt_nn (okR_tame h.1 h.2.2.1).w
  unfold dP dst
  generalize (pts[p]?.getD []) = x
  induction x.length with
  | zero => exact Int.le_refl _
  | succ m ih => exact Int.add_nonneg ih (Int.mul_nonneg (hw m) (gapA_nn _))
end Go.Proofs.Ng
end

section
/-
  The library's sort of whole numbers, laid at this program in plain words (the form is lay-plain.mjs's).
-/
namespace Go.Proofs
open Go.Shelf
def Tryz.sortI_ren : Go.Shelf.Ren := ⟨fun | 189 => 38 | 125 => 64 | 257 => 68 | 128 => 87 | 129 => 88 | 294 => 93 | 295 => 94 | 296 => 95 | 297 => 96 | 298 => 97 | 299 => 98 | 216 => 99 | 300 => 100 | 301 => 101 | 328 => 118 | 329 => 108 | 330 => 109 | 331 => 119 | 332 => 120 | 215 => 70 | 343 => 124 | n => n, fun | 28 => 29 | 3 => 3 | 46 => 50 | 0 => 0 | 51 => 117 | 53 => 119 | 4 => 4 | 183 => 110 | 182 => 109 | 131 => 114 | 5 => 5 | 9 => 9 | 218 => 139 | 222 => 143 | 228 => 151 | 229 => 152 | n => n, fun | n => n⟩
theorem Tryz.sortI : Go.Proofs.Lays.n189 Tryz.prog Tryz.sortI_ren := {
  mixed := by kernel_rfl
  f125 := Tryz.func64.trans (congrArg some (by kernel_rfl))
  f128 := Tryz.func87.trans (congrArg some (by kernel_rfl))
  f129 := Tryz.func88.trans (congrArg some (by kernel_rfl))
  f189 := Tryz.func38.trans (congrArg some (by kernel_rfl))
  f215 := Tryz.func70.trans (congrArg some (by kernel_rfl))
  f216 := Tryz.func99.trans (congrArg some (by kernel_rfl))
  f257 := Tryz.func68.trans (congrArg some (by kernel_rfl))
  f294 := Tryz.func93.trans (congrArg some (by kernel_rfl))
  f295 := Tryz.func94.trans (congrArg some (by kernel_rfl))
  f296 := Tryz.func95.trans (congrArg some (by kernel_rfl))
  f297 := Tryz.func96.trans (congrArg some (by kernel_rfl))
  f298 := Tryz.func97.trans (congrArg some (by kernel_rfl))
  f299 := Tryz.func98.trans (congrArg some (by kernel_rfl))
  f300 := Tryz.func100.trans (congrArg some (by kernel_rfl))
  f301 := Tryz.func101.trans (congrArg some (by kernel_rfl))
  f328 := Tryz.func118.trans (congrArg some (by kernel_rfl))
  f329 := Tryz.func108.trans (congrArg some (by kernel_rfl))
  f330 := Tryz.func109.trans (congrArg some (by kernel_rfl))
  f331 := Tryz.func119.trans (congrArg some (by kernel_rfl))
  f332 := Tryz.func120.trans (congrArg some (by kernel_rfl))
  f343 := Tryz.func124.trans (congrArg some (by kernel_rfl))
  t0 := Tryz.underlying0
  a0 := Tryz.isAgg0
  z0 := Tryz.sizeOf0
  v0 := Tryz.zeroValue0
  t3 := Tryz.underlying3
  a3 := Tryz.isAgg3
  z3 := Tryz.sizeOf3
  v3 := Tryz.zeroValue3
  t4 := Tryz.underlying4
  a4 := Tryz.isAgg4
  z4 := Tryz.sizeOf4
  v4 := Tryz.zeroValue4
  t5 := Tryz.underlying5
  a5 := Tryz.isAgg5
  z5 := Tryz.sizeOf5
  v5 := Tryz.zeroValue5
  t9 := Tryz.underlying9
  a9 := Tryz.isAgg9
  z9 := Tryz.sizeOf9
  v9 := Tryz.zeroValue9
  t28 := Tryz.underlying29
  a28 := Tryz.isAgg29
  z28 := Tryz.sizeOf29
  v28 := Tryz.zeroValue29
  t46 := Tryz.underlying50
  a46 := Tryz.isAgg50
  z46 := Tryz.sizeOf50
  v46 := Tryz.zeroValue50
  t51 := Tryz.underlying117
  a51 := Tryz.isAgg117
  z51 := Tryz.sizeOf117
  v51 := Tryz.zeroValue117
  t53 := Tryz.underlying119
  a53 := Tryz.isAgg119
  z53 := Tryz.sizeOf119
  v53 := Tryz.zeroValue119
  t131 := Tryz.underlying114
  a131 := Tryz.isAgg114
  z131 := Tryz.sizeOf114
  v131 := Tryz.zeroValue114
  t182 := Tryz.underlying109
  a182 := Tryz.isAgg109
  z182 := Tryz.sizeOf109
  v182 := Tryz.zeroValue109
  t183 := Tryz.underlying110
  a183 := Tryz.isAgg110
  z183 := Tryz.sizeOf110
  v183 := Tryz.zeroValue110
  t218 := Tryz.underlying139
  a218 := Tryz.isAgg139
  z218 := Tryz.sizeOf139
  v218 := Tryz.zeroValue139
  t222 := Tryz.underlying143
  a222 := Tryz.isAgg143
  z222 := Tryz.sizeOf143
  v222 := Tryz.zeroValue143
  t228 := Tryz.underlying151
  a228 := Tryz.isAgg151
  z228 := Tryz.sizeOf151
  v228 := Tryz.zeroValue151
  t229 := Tryz.underlying152
  a229 := Tryz.isAgg152
  z229 := Tryz.sizeOf152
  v229 := Tryz.zeroValue152 }
end Go.Proofs
end

section
/-
  Walks: the sort of an owned row of numbers.
-/
namespace Go.Proofs.Ng
open Go.RowKit Go.Shelf Go.Sort

def numsF (l : List Nat) : List Value := l.map fun x => .int .i64 (x : Nat)
def srN (l : List Nat) : List Nat := l.mergeSort fun x y => decide (x ≤ y)
theorem srN_len (l : List Nat) : (srN l).length = l.length := by unfold srN; simp
theorem srN_mem (l : List Nat) (x : Nat) : x ∈ srN l ↔ x ∈ l := by unfold srN; simp
theorem srN_int (l : List Nat) : (l.map fun (x : Nat) => (x : Int)).mergeSort (fun x y => decide (x ≤ y)) = (srN l).map fun (x : Nat) => (x : Int) := by
  unfold srN
  rw [← List.map_mergeSort]
  intro a _ b _
  simp
theorem numsF_len (l : List Nat) : (numsF l).length = l.length := by simp [numsF]
theorem nvals_numsF (l : List Nat) : (nvals l).flatten = numsF l := by
  induction l with
  | nil => rfl
  | cons a t ih => simp only [nvals, numsF, List.map_cons, List.flatten_cons] at ih ⊢; rw [ih]; rfl
theorem take_putI (cur : Array Value) (zs : List Int) (h : zs.length ≤ cur.size) : (putCells (Value.int .i64) 0 zs.toArray cur).toList.take zs.length = zs.map (Value.int .i64) := by
  apply List.ext_getElem?
  intro j
  rw [List.getElem?_take]
  split
  · rename_i hj
    have hc : j < cur.size := by omega
    simp [putCells, hj, hc]
  · rename_i hj
    rw [List.getElem?_eq_none (by simp; omega)]
theorem sort_own (base : Nat) (v : Value) (l : List Nat) (w : World) (h : w.ownsRow base 3 1 v l.length (numsF l)) (h0 : 0 < l.length) (hl : l.length ≤ 3000) :
    Calls Tryz.prog 38 #[v] w fun e w' => e = .returned (.tuple #[]) ∧ w'.ownsRow base 3 1 v l.length (numsF (srN l)) ∧ w.grownBy w' v.ownBlock := by
  obtain ⟨hn, h⟩ := h
  rcases h with ⟨_, h1⟩ | ⟨g, cap, cur, rfl, hbg, hg, hc, hm, hs, ht⟩
  · omega
  have hlt : g < w.heap.size := by
    rcases Nat.lt_or_ge g w.heap.size with h | h
    · exact h
    · rw [Array.getElem?_eq_none h] at hg; cases hg
  simp only [Nat.mul_one] at hs ht
  have hH : Holds (Value.int .i64) w g 0 (l.map fun (x : Nat) => (x : Int)).toArray := by
    intro j hj
    have hj : j < l.length := by simpa using hj
    refine ⟨?_, by simp [World.frozen?, hg]⟩
    have : (numsF l)[j]? = some (.int .i64 ((l[j] : Nat) : Int)) := by simp only [numsF, List.getElem?_map, List.getElem?_eq_getElem hj, Option.map_some]
    rw [← ht, List.getElem?_take, if_pos hj] at this
    simp [World.cell?, hg, hj]
    simpa using this
  have hS := Any.slices_Sort_int Tryz.sortI g 0 cap (l.map fun (x : Nat) => (x : Int)) w hH hlt (by simp; omega)
  change Calls Tryz.prog 38 _ _ _ at hS
  rw [srN_int, List.length_map] at hS
  refine hS.mono ?_
  rintro e w' ⟨rfl, n, os, rfl⟩
  refine ⟨rfl, ⟨by rw [numsF_len, srN_len]; omega, .inr ⟨g, cap, putCells (Value.int .i64) 0 ((srN l).map fun (x : Nat) => (x : Int)).toArray cur, rfl, hbg, ?_, hc, hm, by simp [putCells, hs], ?_⟩⟩, ⟨rfl, rfl, rfl, by simp [Sort.ahead], fun k hk hne => ?_⟩⟩
  · rw [heap_grow_old _ _ (by simp [Sort.ahead]; exact hlt)]
    simp [putRow, mapBlock, Sort.ahead, Array.getElem?_modify, hg, onCells]
  · have := take_putI cur ((srN l).map fun (x : Nat) => (x : Int)) (by rw [List.length_map, srN_len]; omega)
    rw [List.length_map, srN_len] at this
    rw [Nat.mul_one, this]
    simp [numsF]
  · rw [heap_grow_old _ _ (by simp [Sort.ahead]; exact hk)]
    simp only [putRow, mapBlock, Sort.ahead, Array.getElem?_modify]
    rw [if_neg (fun e => hne (by simp [Value.ownBlock, e]))]

end Go.Proofs.Ng
end

