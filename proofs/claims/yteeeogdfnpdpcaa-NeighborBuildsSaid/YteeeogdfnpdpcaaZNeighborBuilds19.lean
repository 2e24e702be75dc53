/-
  Texts put together: Cm Cn Co.
-/
import Derived.Test.YteeeogdfnpdpcaaZNeighborBuilds15
import Derived.Test.YteeeogdfnpdpcaaZNeighborBuilds18
import Derived.Test.YteeeogdfnpdpcaaZNeighborBuilds10
import Derived.Test.YteeeogdfnpdpcaaZNeighborBuilds11
import Derived.Test.YteeeogdfnpdpcaaZNeighborBuilds14
import Derived.Deep.Slices
import Derived.OpenShut
import Derived.ChangeArms
import Derived.ProofKit
import Derived.ChangeSame
import Derived.Carry
import Derived.Below
import Derived.Lib.SmallJoins
set_option linter.unusedVariables false
section
/-
  Walks: a robot, its points, a configuration.
-/
namespace Go.Proofs.Ng
open Go.RowKit

section
variable {P : Program} (w : World)
theorem step_append_at {ops : Array Oper} {o : Oper} {a : Act} {K : Act → World → Prop} {Q : Exit → Act → World → Prop} {E : Prop} (hgd : o.guard = none) (s x : Operand) (t : TypeId)
    (ho : o.op = .call { callee := .builtin .append, args := #[s, x], argTypes := #[t, t] })
    (base : Nat) (e : TypeId) (i : TypeInfo) (z : Value) (size bytes : Nat) (ht : P.underlying t = some (.slice e)) (hi : P.info? e = some i) (hz : i.zero = some z)
    (hsize : i.size = size) (hby : i.bytes = bytes) (hzs : z.cells.size = size) (hsz : 0 < size)
    (v : Value) (n : Nat) (xs : List Value) (hs : a.eval s = v) (hown : w.ownsRow base e size v n xs)
    (ad : Addr) (m c : Nat) (news : List Value) (hx : a.eval x = .slice (some ad) m c) (hl : news.length = m * size) (hnews : ∀ j u, news[j]? = some u → w.cell? (ad.add j) = some u) (h1 : ∀ u ∈ news, u.oneCell' = true)
    (h63 : n + m ≤ maxLen) (hbytes : (n + m) * bytes ≤ 140737488355328) (hbase : base ≤ w.heap.size)
    (h : ∀ v' w', w'.ownsRow base e size v' (n + m) (xs ++ news) → w.grownBy w' v.ownBlock → K (a.put o.dst v') w') :
    if Region.wanted o (yielded ops a.tmps) = true then Oper.wp P o a w K Q else E := by
  have hw : Region.wanted o (yielded ops a.tmps) = true := by simp [Region.wanted, hgd]
  rw [if_pos hw]
  obtain ⟨v', w', hr, h2, h3, _, h5⟩ := run_append_own_at (P := P) w base t o.type e i z size bytes ht hi hz hsize hby hzs hsz v n xs hown ad m c news hl hnews h1 h63 hbytes hbase
  unfold Oper.wp execOp
  simp only [ho, resolve, invoke, builtin, Sem.run_bind, Sem.run_pure, Result.andThen_ok, List.map_toArray, List.map_cons, List.map_nil, hs, hx, hr]
  exact h v' w' h2 h3
end
/-- The robot lies in new blocks. -/
def MkRobF (w : World) (e : Ending) (W' : World) : Prop := ∃ js ms oa cj om cm, e = .returned (.agg #[.slice oa (List.length js) cj, .slice om (List.length ms) cm]) ∧ (∀ W'', (∀ g, w.heap.size ≤ g → g < W'.heap.size → W''.heap[g]? = W'.heap[g]?) → RobP js ms oa om W'') ∧ Below w.heap.size w W'
theorem mkRobot_fresh (w : World) (os : Option Addr) (cap : Nat) (xs : List Int) (hI : Sl w os 1 (pvals xs)) (hl : xs.length ≤ 9223372036854775807) :
    Calls Try.prog 21 #[.slice os xs.length cap] w (MkRobF w) := by
  go_enter Try.func21, Try.ntmps21
  go_wp2_with fail
  have hB0 : Below w.heap.size w (w.alloc (.cells #[.slice none 0 0, .slice none 0 0] 30)) := (Below.refl _ _).alloc (Nat.le_refl _) _
  have b0 := Blk.new w [.slice none 0 0, .slice none 0 0] 30
  have hI0 := hI.keep hB0
  generalize (w.alloc (.cells #[.slice none 0 0, .slice none 0 0] 30)) = W0 at hB0 b0 hI0 ⊢
  generalize hn : w.heap.size = n2 at b0 ⊢
  have HN := Lib.hid hn
  clear hn
  refine (from_any os cap xs.length W0).mono ?_
  rintro e W1 ⟨rfl, rfl⟩
  have hS := src_new W0 os cap xs hI0 hl
  have hB1 : Below W0.heap.size W0 (W0.alloc (.cells #[.slice os xs.length cap, .int .i64 0] 105)) := (Below.refl _ _).alloc (Nat.le_refl _) _
  have b1 := b0.keep hB1
  have hne : n2 ≠ W0.heap.size := Nat.ne_of_lt b0.lt
  have hn2 : n2 < (W0.alloc (.cells #[.slice os xs.length cap, .int .i64 0] 105)).heap.size := b1.lt
  have hwS : w.heap.size ≤ W0.heap.size := hB0.size
  have HB1 := Lib.hid (below_call hB0 hB1)
  clear hB0 hB1 b0
  generalize (W0.alloc (.cells #[.slice os xs.length cap, .int .i64 0] 105)) = W1 at hS b1 HB1 hn2 ⊢
  generalize W0.heap.size = nS at hS hne hwS ⊢
  go_wp2_with fail
  refine (robot_any W1 nS os cap xs hS).mono ?_
  rintro e W2 ⟨js, ms, oa, cj, om, cm, rfl, hP, hg, hcap⟩
  have HCP := Lib.hid hcap
  clear hcap
  have b2 := b1.keepG hg hne
  have hB2 : Below w.heap.size w W2 := ⟨hg.os.trans HB1.out.os, hg.tape.trans HB1.out.tape, hg.output.trans HB1.out.output, Nat.le_trans HB1.out.size hg.size, fun k hk => (hg.block k (Nat.lt_of_lt_of_le hk HB1.out.size) (fun e => by injection e; omega)).trans (HB1.out.block k hk)⟩
  have e0 := b2.c 0 _ rfl
  have e1 := b2.c 1 _ rfl
  have f0 := b2.f 0
  have f1 := b2.f 1
  have l2 := b2.lt
  have HP := Lib.hid hP
  have HB2 := Lib.hid hB2
  clear hP hB2 b1 b2 hg HB1
  go_wp2_with fail
  have hBF : Below w.heap.size w ((W2.setCell ⟨n2, 0, none⟩ (.slice oa js.length cj)).setCell ⟨n2, 1, none⟩ (.slice om ms.length cm)) := (HB2.out.setCell (p := ⟨n2, 0, none⟩) (Nat.le_of_eq HN.out) _).setCell (p := ⟨n2, 1, none⟩) (Nat.le_of_eq HN.out) _
  refine bodyPost_ret (v := .agg #[.slice oa js.length cj, .slice om ms.length cm]) (by simp [results, Try.results21, go_sem, e0, e1]) rfl ⟨js, ms, oa, cj, om, cm, rfl, fun W'' hag => HP.out _ ?_, hBF⟩
  intro g h1 h2
  rw [hag g (by have := HN.out; omega) (by simpa [World.setCell] using h2)]
  exact (Below.heap_setCell _ ⟨n2, 1, none⟩ _ g (show g ≠ n2 by omega)).trans (Below.heap_setCell _ ⟨n2, 0, none⟩ _ g (show g ≠ n2 by omega))
/-- What a robot of the maker's is like. -/
theorem rob_bd {js : List JV} {ms : List MV} {oa om : Option Addr} {W : World} (h : RobP js ms oa om W) : ∀ (k : Nat) (j : JV), js[k]? = some j → -1000000000 ≤ j.lo ∧ j.lo ≤ j.hi ∧ j.hi ≤ 1000000000 := by
  intro k j hj
  have hg := h.2.2.1 k j hj
  have := hg.lim
  have := limitF_bd j.kind
  omega
theorem RobP.keep {js : List JV} {ms : List MV} {oa om : Option Addr} {W W' : World} (h : RobP js ms oa om W) (hb : Below W.heap.size W W') : RobP js ms oa om W' := ⟨h.1, h.2.1, h.2.2.1, h.2.2.2.1, h.2.2.2.2.1.keep hb, h.2.2.2.2.2.keep hb⟩
/-- Points of a robot. -/
def Good (js : List JV) (n : Nat) (pts : List (List Int)) : Prop := pts.length = n ∧ ∀ p ∈ pts, p.length = js.length ∧ inTo js p
theorem some_fin {wc Xa : World} {n6 : Nat} {js : List JV} {q : List Int} {oq op : Option Addr} {cq np cp : Nat} {a b : Value} (h6 : Blk wc n6 [.slice none 0 0, .slice none 0 0]) (hql : q.length = js.length) (hqi : inTo js q) (hqs : Sl Xa oq 1 (pvals q)) (hqf : ∀ a, oq = some a → n6 < a.block) (hb : Below wc.heap.size wc Xa) :
    Value.slice op np cp = .slice op np cp ∧ (∃ (q' : List Int) (oq' : Option Addr) (cq' : Nat), Value.slice oq js.length cq = .slice oq' q'.length cq' ∧ (q'.length = js.length ∧ inTo js q') ∧ Sl ((Xa.setCell ⟨n6, 0, none⟩ a).setCell ⟨n6, 1, none⟩ b) oq' 1 (pvals q')) ∧ Blk ((Xa.setCell ⟨n6, 0, none⟩ a).setCell ⟨n6, 1, none⟩ b) n6 [a, b] ∧ wc.grownBy ((Xa.setCell ⟨n6, 0, none⟩ a).setCell ⟨n6, 1, none⟩ b) (some n6) := by
  have hg : Xa.grownBy ((Xa.setCell ⟨n6, 0, none⟩ a).setCell ⟨n6, 1, none⟩ b) (some n6) := grown_trans (grown_set Xa n6 0 a) (grown_set _ n6 1 b)
  refine ⟨rfl, ⟨q, oq, cq, by rw [hql], ⟨hql, hqi⟩, hqs.keepO hg fun b' off s e h => ?_⟩, ((h6.keep hb).put 0 a).put 1 b, grown_trans (grown_of_below hb) hg⟩
  injection h with h
  have := hqf _ e
  simp only at this
  omega
/-- What some answers. -/
def SomeP (n : Int) (w : World) (e : Ending) (W' : World) : Prop := ∃ js ms oa cj om cm pts op cp q oq cq, e = .returned (.tuple #[.agg #[.slice oa (List.length js) cj, .slice om (List.length ms) cm], .slice op (List.length pts) cp, .slice oq (List.length q) cq]) ∧ RobP js ms oa om W' ∧ Good js (n % 13).toNat pts ∧ Pts W' op pts ∧ (q.length = js.length ∧ inTo js q) ∧ Sl W' oq 1 (pvals q) ∧ Below w.heap.size w W'
set_option maxRecDepth 100000 in
set_option maxHeartbeats 4000000 in
theorem some9 (ol om : Option Addr) (cl cm : Nat) (ls xs : List Int) (n : Int) (w : World) (hL : Sl w ol 1 (pvals ls)) (hl : ls.length ≤ 9223372036854775807) (hM : Sl w om 1 (pvals xs)) (hm : xs.length * 8 ≤ 140737488351232) (hmn : om = none → xs = [] ∧ cm = 0) :
    Calls Try.prog 9 #[.slice ol ls.length cl, .slice om xs.length cm, .int .i64 n] w (SomeP n w) := by
  have HL := Lib.hid hL
  have HM := Lib.hid hM
  have HMN := Lib.hid hmn
  clear hL hM hmn
  go_enter Try.func9, Try.ntmps9
  go_wp2_with fail
  have hbx_ := blks1 w [.slice none 0 0, .slice none 0 0] 30
  have HB0 := Lib.hid (hbx_.2)
  have ho0 : w.heap.size ≤ w.heap.size := by omega
  generalize w.alloc (.cells #[.slice none 0 0, .slice none 0 0] 30) = W0 at hbx_ HB0 ⊢
  obtain ⟨r6, hbel_⟩ := hbx_
  obtain ⟨n6, hn_⟩ : ∃ n, n = w.heap.size := ⟨_, rfl⟩
  rw [← hn_] at r6 ⊢
  replace ho0 := Nat.le_of_eq hn_.symm
  clear hn_ hbel_
  have H6 : Hid (w.heap.size ≤ n6) := Lib.hid (by omega)
  have HR6 := Lib.hid r6
  have hmk := mkRobot_fresh W0 ol cl ls (HL.out.keep HB0.out) hl
  have HK := Lib.hid hmk
  have H60 : Hid (n6 < W0.heap.size) := Lib.hid HR6.out.lt
  clear hmk ho0 r6
  with_reducible refine HK.out.mono ?_
  rintro e W1 ⟨js, ms, oa, cj, oms, cms, rfl, hrob, hb1⟩
  have HROB := Lib.hid hrob
  have hr1 := hrob W1 (fun _ _ _ => rfl)
  have HB1 := Lib.hid (below_call HB0.out hb1)
  have HR61 := Lib.hid (HR6.out.keep hb1)
  have HBX := Lib.hid hb1
  clear hb1 HB0 HR6 HK hrob
  go_upto_region 2 with fail
  have hbx_ := blks1 W1 [.slice oa js.length cj, .slice oms ms.length cms] 30
  replace HR61 := Lib.hid (HR61.out.keep hbx_.2)
  have HB2 := Lib.hid (hbx_.2)
  have ho9 : W1.heap.size ≤ W1.heap.size := by omega
  generalize W1.alloc (.cells #[.slice oa js.length cj, .slice oms ms.length cms] 30) = W2 at hbx_ HR61 HB2 ⊢
  obtain ⟨r9, hbel_⟩ := hbx_
  obtain ⟨n9, hn_⟩ : ∃ n, n = W1.heap.size := ⟨_, rfl⟩
  rw [← hn_] at r9 ⊢
  replace ho9 := Nat.le_of_eq hn_.symm
  clear hn_ hbel_
  have hr2 := hr1.keep HB2.out
  have HR2 := Lib.hid hr2
  have hk : ∃ k : Nat, n % 13 = (k : Nat) ∧ k < 13 := ⟨(n % 13).toNat, by omega, by omega⟩
  obtain ⟨k, hk1, hk2⟩ := hk
  have HRO := Lib.hid (fun X : World => (round_any n 13 X (by omega) (by omega)).mono (R' := fun e w' => e = .returned (.int .i64 (k : Nat)) ∧ w' = X) fun _ _ h => ⟨by rw [h.1, hk1], h.2.symm⟩)
  have HCFG := Lib.hid (fun (X : World) (hX : Below W2.heap.size W2 X) => configs22 oa oms om cj cms cm k js ms.length xs X (by omega) hr2.1.1 (by have := hr2.1.2; omega) (rob_bd hr2) (hr2.2.2.2.2.1.keep hX) ((HM.out.keep (below_call HB1.out HB2.out)).keep hX) (by omega))
  have HB3 := Lib.hid (below_call HB1.out HB2.out)
  have l9 := r9.lt
  have y0 : W2.cell? ⟨n9, 0, none⟩ = some (.slice oa js.length cj) := r9.c 0 _ rfl
  have y1 : W2.cell? ⟨n9, 1, none⟩ = some (.slice oms ms.length cms) := r9.c 1 _ rfl
  have hmk : ∀ Y, Below W2.heap.size W2 Y → Y.cell? ⟨n9, 0, none⟩ = some (.slice oa js.length cj) ∧ Y.cell? ⟨n9, 1, none⟩ = some (.slice oms ms.length cms) ∧ Below W2.heap.size W2 Y := fun Y hY => ⟨(hY.cell (p := ⟨n9, 0, none⟩) l9).trans y0, (hY.cell (p := ⟨n9, 1, none⟩) l9).trans y1, hY⟩
  have hS := hmk W2 (Below.refl _ _)
  have HMK := Lib.hid hmk
  have HR9 := Lib.hid r9
  clear hmk r9 hr2 hr1
  go_cut [10] (fun y X => ∃ (pts : List (List Int)) (op : Option Addr) (cp : Nat), y = .slice op pts.length cp ∧ Good js (n % 13).toNat pts ∧ (∀ W'', (∀ g, W2.heap.size ≤ g → g < X.heap.size → W''.heap[g]? = X.heap[g]?) → Pts W'' op pts) ∧ Below W2.heap.size W2 X)
  case first =>
    clear y0 y1
    go_region_held3 (fun Y => Y.cell? ⟨n9, 0, none⟩ = some (.slice oa js.length cj) ∧ Y.cell? ⟨n9, 1, none⟩ = some (.slice oms ms.length cms) ∧ Below W2.heap.size W2 Y)
      (first
        | assumption
        | exact HMK.out _ (by repeat (first | assumption | exact Below.refl _ _ | apply Below.drew | exact (by assumption : _ ∧ _ ∧ Below W2.heap.size W2 _).2.2)))
      (first
        | (go_at_call 15
           with_reducible refine (HRO.out _).mono ?_
           rintro e Xa ⟨rfl, rfl⟩)
        | (go_at_call 22
           with_reducible refine (HCFG.out _ (by assumption : _ ∧ _ ∧ Below W2.heap.size W2 _).2.2).mono ?_
           rintro e Xa ⟨pts, op, cp, rfl, hpl, hpg, hpp, hb⟩
           have hbs := (by assumption : _ ∧ _ ∧ Below W2.heap.size W2 _).2.2
           replace hpp := fun (W'' : World) (hag : ∀ g, W2.heap.size ≤ g → g < Xa.heap.size → W''.heap[g]? = Xa.heap[g]?) => hpp W'' (fun g h1 h2 => hag g (Nat.le_trans hbs.size h1) h2)
           replace hb := below_call hbs hb))
    all_goals
      go_wp2_with fail
      go_meet
      exact ⟨pts, op, cp, by rw [hpl], ⟨by rw [hpl, hk1]; rfl, hpg⟩, hpp, hb⟩
  case rest =>
    clear y0 y1 hS HMK HCFG HRO
    obtain ⟨pts, op, cp, rfl, hgood, hpp, hb3⟩ := hcut
    obtain ⟨W3, rfl⟩ : ∃ X, X = wc := ⟨_, rfl⟩
    have HGD := Lib.hid hgood
    have HPP := Lib.hid hpp
    have HB4 := Lib.hid hb3
    have r9 := HR9.out.keep hb3
    have r6 := HR61.out.keep hb3
    have l9 := r9.lt
    have l6 := r6.lt
    have y0 : W3.cell? ⟨n9, 0, none⟩ = some (.slice oa js.length cj) := r9.c 0 _ rfl
    have y1 : W3.cell? ⟨n9, 1, none⟩ = some (.slice oms ms.length cms) := r9.c 1 _ rfl
    have z0 : W3.cell? ⟨n6, 0, none⟩ = some (.slice none 0 0) := r6.c 0 _ rfl
    have z1 : W3.cell? ⟨n6, 1, none⟩ = some (.slice none 0 0) := r6.c 1 _ rfl
    have f0 := r6.f 0
    have f1 := r6.f 1
    have HR6 := Lib.hid r6
    clear hgood hpp hb3 r9 r6
    go_upto_region 3 with fail
    go_cut [7, 8] (fun y z X => y = .slice op pts.length cp ∧ (∃ (q : List Int) (oq : Option Addr) (cq : Nat), z = .slice oq q.length cq ∧ (q.length = js.length ∧ inTo js q) ∧ Sl X oq 1 (pvals q)) ∧ Blk X n6 [.slice oa js.length cj, .slice oms ms.length cms] ∧ W3.grownBy X (some n6))
    case first =>
      have hJx := HR2.out
      have hbd := rob_bd hJx
      have HCF := Lib.hid (fun (X : World) (hX : Below W3.heap.size W3 X) (oz : Option Addr) (cz : Nat) (hz : Sl X oz 1 (pvals (n :: (n / 8) :: (n / 32) :: xs))) => config_new oa oms oz cj cms cz js ms.length (n :: (n / 8) :: (n / 32) :: xs) X (by have := hJx.1.2; omega) hbd ((hJx.2.2.2.2.1.keep HB4.out).keep hX) hz (by simp; omega))
      have HB30 : Hid (Below W3.heap.size W3 (W3.alloc (.cells #[.int .i64 n, .int .i64 (n / 8), .int .i64 (n / 32)] 3)).drew) := Lib.hid ((Below.refl _ _).alloc (Nat.le_refl _) _).drew
      have HOW : Hid ((W3.alloc (.cells #[.int .i64 n, .int .i64 (n / 8), .int .i64 (n / 32)] 3)).drew.ownsRow W3.heap.size 3 1 (.slice (some ⟨W3.heap.size, 0, none⟩) 3 3) 3 (pflat [n, n / 8, n / 32])) := Lib.hid (own_built (heap_alloc_new W3 _) (Nat.le_refl _) rfl (by unfold maxLen; omega))
      have HY := Lib.hid (fun (X : World) (hX : Below W3.heap.size W3 X) => And.intro ((hX.cell (p := ⟨n9, 0, none⟩) l9).trans y0) (And.intro ((hX.cell (p := ⟨n9, 1, none⟩) l9).trans y1) (Nat.lt_of_lt_of_le l9 hX.size)))
      have HZ := Lib.hid (fun (X : World) (hX : Below W3.heap.size W3 X) => And.intro ((hX.cell (p := ⟨n6, 0, none⟩) l6).trans z0) (And.intro ((hX.cell (p := ⟨n6, 1, none⟩) l6).trans z1) (And.intro ((hX.frozen (p := ⟨n6, 0, none⟩) l6).trans f0) (And.intro ((hX.frozen (p := ⟨n6, 1, none⟩) l6).trans f1) (Nat.lt_of_lt_of_le l6 hX.size)))))
      obtain ⟨i0, hi, hz0, hz1, hz2⟩ := info_parts info3
      have HOZ := Lib.hid (fun (X : World) (v : Value) (h : X.ownsRow W3.heap.size 3 1 v (3 + xs.length) (pflat (n :: (n / 8) :: (n / 32) :: xs))) => show ∃ oz cz, v = .slice oz (3 + xs.length) cz ∧ Sl X oz 1 (pvals (n :: (n / 8) :: (n / 32) :: xs)) from by
        have e : (n :: (n / 8) :: (n / 32) :: xs).length = 3 + xs.length := by simp; omega
        rw [← pvals_flat] at h
        obtain ⟨oz, cz, rfl, hs⟩ := own_rows (pvals_one _) (by rw [pvals_len, e]; exact h)
        rw [pvals_len, e]
        exact ⟨oz, cz, rfl, hs⟩)
      have HLX : Hid ((n :: (n / 8) :: (n / 32) :: xs).length = 3 + xs.length) := Lib.hid (by simp; omega)
      rw [HLX.out] at HCF
      have HMC := Lib.hid (HM.out.keep (below_call HB3.out HB4.out))
      clear hJx hbd
      cases om with
      | none =>
        obtain ⟨rfl, rfl⟩ := HMN.out rfl
        have hs2 : Sl (W3.alloc (.cells #[.int .i64 n, .int .i64 (n / 8), .int .i64 (n / 32)] 3)).drew (some ⟨W3.heap.size, 0, none⟩) 1 (pvals [n, n / 8, n / 32]) := by
          obtain ⟨oz, cz, e, hs⟩ := HOZ.out _ _ HOW.out
          injection e with e1 _ _
          rw [e1]; exact hs
        have HS2 := Lib.hid hs2
        clear hs2
        go_region_law (first
          | (refine step_append_none _ rfl (.tmp 26) (.tmp 27) 24 rfl W3.heap.size 3 i0 1 under24 hi _ 3 (pflat [n, n / 8, n / 32]) rfl HOW.out (by simp [Act.eval]) ?_)
          | (go_simp
             go_at_call 23
             refine (HCF.out _ HB30.out _ _ HS2.out).mono ?_
             rintro e Xa ⟨q, oq, cq, rfl, hql, hqi, hqs, hqb, hqf⟩
             have hqg : ∀ a, oq = some a → n6 < a.block := fun a ha => Nat.lt_of_lt_of_le (HZ.out _ HB30.out).2.2.2.2 (hqf a ha)
             have hb := HB30.out.trans (hqb.mono HB30.out.size)
             obtain ⟨y0, y1, l9⟩ := HY.out _ hb
             obtain ⟨z0, z1, f0, f1, l6⟩ := HZ.out _ hb))
        all_goals
          go_wp2_with fail
          go_meet
          exact some_fin HR6.out hql hqi hqs hqg hb
      | some ad =>
        have HNW : Hid (∀ (j : Nat) (u : Value), (pflat xs)[j]? = some u → (W3.alloc (.cells #[.int .i64 n, .int .i64 (n / 8), .int .i64 (n / 32)] 3)).drew.cell? (ad.add j) = some u) := Lib.hid (by
          intro j u hu
          have hne : pvals xs ≠ [] := pvals_ne (k := j) (by have := (List.getElem?_eq_some_iff.1 hu).1; rwa [pflat_len] at this)
          obtain ⟨b, off, e, hr⟩ := HMC.out hne
          injection e with e
          subst e
          exact ints_news (hr.keep HB30.out) j u hu)
        go_region_law (first
          | (refine step_append_at _ rfl (.tmp 26) (.tmp 27) 24 rfl W3.heap.size 3 i0 (.int .i64 0) 1 8 under24 hi hz0 hz1 hz2 rfl (by decide) _ 3 (pflat [n, n / 8, n / 32]) rfl HOW.out ad xs.length cm (pflat xs) (by simp [Act.eval]) (by rw [pflat_len, Nat.mul_one]) HNW.out (pflat_cell xs) (by unfold maxLen; omega) (by omega) HB30.out.size ?_
             intro v1 W5 ho hg
             obtain ⟨oz, cz, rfl, hs⟩ := HOZ.out W5 v1 (by simpa [pflat] using ho)
             have hb5 := HB30.out.trans (grown_below HOW.out hg HB30.out.size)
             obtain ⟨y0, y1, l9⟩ := HY.out _ hb5
             clear ho hg)
          | (go_simp
             go_at_call 23
             refine (HCF.out _ hb5 _ _ hs).mono ?_
             rintro e Xa ⟨q, oq, cq, rfl, hql, hqi, hqs, hqb, hqf⟩
             have hqg : ∀ a, oq = some a → n6 < a.block := fun a ha => Nat.lt_of_lt_of_le (HZ.out _ hb5).2.2.2.2 (hqf a ha)
             have hb := hb5.trans (hqb.mono hb5.size)
             obtain ⟨y0, y1, l9⟩ := HY.out _ hb
             obtain ⟨z0, z1, f0, f1, l6⟩ := HZ.out _ hb))
        all_goals
          go_wp2_with fail
          go_meet
          exact some_fin HR6.out hql hqi hqs hqg hb
    case rest =>
      clear y0 y1 z0 z1 f0 f1 l9 l6
      obtain ⟨rfl, ⟨q, oq, cq, rfl, hq, hqs⟩, h6, hg⟩ := hcut
      have s1 : W1.heap.size ≤ W2.heap.size := HB2.out.size
      have s2 : W2.heap.size ≤ W3.heap.size := HB4.out.size
      have s0 : W0.heap.size ≤ W1.heap.size := HBX.out.size
      have n60 := H60.out
      have n61 := H6.out
      have ne : ∀ g, g ≠ n6 → g < W3.heap.size → wc.heap[g]? = W3.heap[g]? := fun g h hl => hg.block g hl (fun e => h (by injection e))
      have HR := Lib.hid (HROB.out wc (fun g h1 h2 => by
        rw [ne g (by omega) (by omega), HB4.out.block g (by omega), HB2.out.block g h2]))
      have HP := Lib.hid (HPP.out wc (fun g h1 h2 => ne g (by omega) h2))
      have HB5 : Hid (Below w.heap.size w wc) := Lib.hid (by
        have h := below_call HB3.out HB4.out
        exact ⟨hg.os.trans h.os, hg.tape.trans h.tape, hg.output.trans h.output, Nat.le_trans h.size hg.size, fun k hk => (ne k (by omega) (Nat.lt_of_lt_of_le hk h.size)).trans (h.block k hk)⟩)
      have e0 : wc.cell? ⟨n6, 0, none⟩ = some (.slice oa js.length cj) := h6.c 0 _ rfl
      have e1 : wc.cell? ⟨n6, 1, none⟩ = some (.slice oms ms.length cms) := h6.c 1 _ rfl
      have HQS := Lib.hid hqs
      have HQ := Lib.hid hq
      have l6 := h6.lt
      clear h6 hg ne hqs hq s0 s1 s2 n60 n61
      go_wp2_with fail
      refine bodyPost_ret (v := .tuple #[.agg #[.slice oa js.length cj, .slice oms ms.length cms], .slice op pts.length cp, .slice oq q.length cq]) (by simp [results, Try.results9, go_sem, e0, e1]) rfl ?_
      exact ⟨js, ms, oa, cj, oms, cms, pts, op, cp, q, oq, cq, rfl, HR.out, HGD.out, HP.out, HQ.out, HQS.out, HB5.out⟩
end Go.Proofs.Ng
end

section
/-
  Walks: the law NeighborBuilds.
-/
namespace Go.Proofs.Ng
open Go.RowKit

theorem buildP_len (pts : List (List Int)) : (buildP pts).length ≤ 1024 := by
  unfold buildP
  split
  · rename_i h
    obtain ⟨h1, -⟩ := vp_dim h
    rw [growP_len _ _ _ _ _ (by simp)]
    simp; omega
  · simp
theorem iff_beq {a b : Bool} {p : Prop} (h : a = true ↔ p) (k : b = true ↔ p) : (a == b) = true := by
  cases a <;> cases b <;> simp_all
theorem Pts.keepB {w W : World} {oa : Option Addr} {pts : List (List Int)} (h : Pts w oa pts) (hb : Below w.heap.size w W) : Pts W oa pts := h.keep hb
theorem few7 (oa : Option Addr) (n ca : Nat) (w : World) : Calls Try.prog 7 #[.slice oa n ca] w fun e w' => e = .returned (.bool (decide (n ≤ 40))) ∧ w' = w := by
  by_cases h : n ≤ 40
  · have h1 : decide ((n : Int) ≤ 40) = true := decide_eq_true (by omega)
    rw [decide_eq_true h]
    go_enter Try.func7, Try.ntmps7
    go_wp2
    go_ret
    exact ⟨rfl, rfl⟩
  · have h1 : decide ((n : Int) ≤ 40) = false := decide_eq_false (by omega)
    rw [decide_eq_false h]
    go_enter Try.func7, Try.ntmps7
    go_wp2
    go_ret
    exact ⟨rfl, rfl⟩
set_option maxRecDepth 100000 in
set_option maxHeartbeats 8000000 in
theorem builds3 (or ot ol om : Option Addr) (cr ct cl cm : Nat) (raw : List (List Int)) (t : List Nd) (ls xs : List Int) (n : Int) (w : World) (hR : Pts w or raw) (hT : Sl w ot 4 (t.map Nd.vals)) (hL : Sl w ol 1 (pvals ls)) (hl : ls.length ≤ 9223372036854775807) (hM : Sl w om 1 (pvals xs)) (hm : xs.length * 8 ≤ 140737488351232) (hmn : om = none → xs = [] ∧ cm = 0) :
    Calls Try.prog 3 #[.slice or raw.length cr, .slice ot t.length ct, .slice ol ls.length cl, .slice om xs.length cm, .int .i64 n] w (BoolP true w) := by
  have HR := Lib.hid hR
  have HT := Lib.hid hT
  have HSO := Lib.hid (some9 ol om cl cm ls xs n w hL hl hM hm hmn)
  have HFE := Lib.hid (few7 or raw.length cr w)
  clear hR hT hL hM hmn hl hm
  by_cases h1 : raw.length ≤ 40
  · rw [decide_eq_true h1] at HFE
    by_cases h2 : 40 < t.length
    · have d1 : decide ((40 : Int) < (t.length : Int)) = true := decide_eq_true (by omega)
      have d2 : decide (40 < t.length) = true := decide_eq_true h2
      clear h1 h2
      go_enter Try.func3, Try.ntmps3
      go_wp2_with fail
      with_reducible refine HFE.out.mono ?_
      rintro e W1 ⟨rfl, rfl⟩
      go_wp2_with fail
      refine (Try.awake _).mono ?_
      rintro e W1 ⟨rfl, hb⟩
      go_wp2_with fail
      go_ret
      exact ⟨rfl, hb⟩
    · have d1 : decide ((40 : Int) < (t.length : Int)) = false := decide_eq_false (by omega)
      have d2 : decide (40 < t.length) = false := decide_eq_false h2
      have htl : t.length ≤ 100000 := by omega
      have hrl : raw.length ≤ 100000 := by omega
      clear h1 h2
      go_enter Try.func3, Try.ntmps3
      go_wp2_with fail
      with_reducible refine HFE.out.mono ?_
      rintro e W1 ⟨rfl, rfl⟩
      go_wp2_with fail
      with_reducible refine HSO.out.mono ?_
      rintro e W2 ⟨js, ms, oa, cj, oms, cms, pts, op, cp, q, oq, cq, rfl, hrob, hgood, hpp, -, -, hb2⟩
      have hpl : pts.length ≤ 100000 := by have := hgood.1; omega
      have HP := Lib.hid hpp
      have HB2 := Lib.hid hb2
      clear hrob hgood hpp hb2 HSO HFE
      go_upto_region 4 with fail
      have hbx_ := blks1 W2 [.slice oa js.length cj, .slice oms ms.length cms] 30
      replace HP := Lib.hid (HP.out.keep hbx_.2)
      have HB3 := Lib.hid (below_call HB2.out hbx_.2)
      generalize W2.alloc (.cells #[.slice oa js.length cj, .slice oms ms.length cms] 30) = W3 at hbx_ HP HB3 ⊢
      obtain ⟨r11, hbel_⟩ := hbx_
      obtain ⟨n11, hn_⟩ : ∃ n, n = W2.heap.size := ⟨_, rfl⟩
      rw [← hn_] at r11 ⊢
      clear hn_ hbel_
      clear r11
      go_wp2_with fail
      refine (Try.awake _).mono ?_
      rintro e W4 ⟨rfl, hb⟩
      have HB4 := Lib.hid (below_call HB3.out hb)
      have HP4 := Lib.hid (HP.out.keep hb)
      have HR4 := Lib.hid (HR.out.keep HB4.out)
      have HT4 := Lib.hid (HT.out.keep HB4.out)
      have Q4 := Lib.hid (Below.refl W4.heap.size W4)
      have hbl := buildP_len raw
      have hbp := buildP_len pts
      clear hb HP HR HT HB3 HB2
      go_wp2_with fail
      with_reducible refine (build11 or cr raw W4 HR4.out).mono ?_
      rintro e W5 ⟨oA, cA, rfl, -, hsA, hb, -⟩
      have Q5 := Lib.hid (below_call Q4.out hb)
      skip
      clear hb
      go_wp2_with fail
      with_reducible refine (refBuild12 or cr raw W5 (HR4.out.keep Q5.out)).mono ?_
      rintro e W6 ⟨oB, cB, rfl, -, hsB, hb, -⟩
      have Q6 := Lib.hid (below_call Q5.out hb)
      replace hsA := hsA.keep hb
      clear hb
      go_wp2_with fail
      refine (same10 _ _ _ _ (buildP raw) _ hsA hsB (by omega)).mono ?_
      rintro e W7 ⟨rfl, hb⟩
      have Q7 := Lib.hid (below_call Q6.out hb)
      clear hb hsA hsB
      go_wp2_with fail
      with_reducible refine (build11 op cp pts W7 (HP4.out.keep Q7.out)).mono ?_
      rintro e W8 ⟨oC, cC, rfl, -, hsC, hb, -⟩
      have Q8 := Lib.hid (below_call Q7.out hb)
      skip
      clear hb
      go_wp2_with fail
      with_reducible refine (refBuild12 op cp pts W8 (HP4.out.keep Q8.out)).mono ?_
      rintro e W9 ⟨oD, cD, rfl, -, hsD, hb, -⟩
      have Q9 := Lib.hid (below_call Q8.out hb)
      replace hsC := hsC.keep hb
      clear hb
      go_wp2_with fail
      refine (same10 _ _ _ _ (buildP pts) _ hsC hsD (by omega)).mono ?_
      rintro e W10 ⟨rfl, hb⟩
      have Q10 := Lib.hid (below_call Q9.out hb)
      clear hb hsC hsD
      go_wp2_with fail
      with_reducible refine (valid13 or ot cr ct raw t W10 (HR4.out.keep Q10.out) (HT4.out.keep Q10.out) htl hrl).mono ?_
      rintro e W11 ⟨b1, rfl, i1, hb⟩
      have Q11 := Lib.hid (below_call Q10.out hb)
      clear hb
      go_wp2_with fail
      with_reducible refine (validTree14 or ot cr ct raw t W11 (HR4.out.keep Q11.out) (HT4.out.keep Q11.out) htl hrl).mono ?_
      rintro e W12 ⟨b2, rfl, i2, hb⟩
      have Q12 := Lib.hid (below_call Q11.out hb)
      clear hb
      have e1 := iff_beq i1 i2
      clear i1 i2
      go_wp2_with fail
      with_reducible refine (valid13 op ot cp ct pts t W12 (HP4.out.keep Q12.out) (HT4.out.keep Q12.out) htl hpl).mono ?_
      rintro e W13 ⟨b3, rfl, i3, hb⟩
      have Q13 := Lib.hid (below_call Q12.out hb)
      clear hb
      go_wp2_with fail
      with_reducible refine (validTree14 op ot cp ct pts t W13 (HP4.out.keep Q13.out) (HT4.out.keep Q13.out) htl hpl).mono ?_
      rintro e W14 ⟨b4, rfl, i4, hb⟩
      have Q14 := Lib.hid (below_call Q13.out hb)
      clear hb
      have e2 := iff_beq i3 i4
      clear i3 i4
      go_wp2_with fail
      with_reducible refine (refBuild12 or cr raw W14 (HR4.out.keep Q14.out)).mono ?_
      rintro e W15 ⟨oE, cE, rfl, -, hsE, hb, -⟩
      have Q15 := Lib.hid (below_call Q14.out hb)
      skip
      clear hb
      go_wp2_with fail
      with_reducible refine (valid13 or oE cr cE raw (buildP raw) W15 (HR4.out.keep Q15.out) hsE (by omega) hrl).mono ?_
      rintro e W16 ⟨b5, rfl, i5, hb⟩
      have Q16 := Lib.hid (below_call Q15.out hb)
      clear hb
      clear hsE
      go_wp2_with fail
      with_reducible refine (refBuild12 or cr raw W16 (HR4.out.keep Q16.out)).mono ?_
      rintro e W17 ⟨oF, cF, rfl, -, hsF, hb, -⟩
      have Q17 := Lib.hid (below_call Q16.out hb)
      skip
      clear hb
      go_wp2_with fail
      with_reducible refine (validTree14 or oF cr cF raw (buildP raw) W17 (HR4.out.keep Q17.out) hsF (by omega) hrl).mono ?_
      rintro e W18 ⟨b6, rfl, i6, hb⟩
      have Q18 := Lib.hid (below_call Q17.out hb)
      clear hb
      have e3 := iff_beq i5 i6
      clear i5 i6 hsF
      go_wp2_with fail
      go_ret
      exact ⟨rfl, below_call HB4.out Q18.out⟩
  · rw [decide_eq_false h1] at HFE
    clear h1
    go_enter Try.func3, Try.ntmps3
    go_wp2_with fail
    with_reducible refine HFE.out.mono ?_
    rintro e W1 ⟨rfl, rfl⟩
    go_wp2_with fail
    refine (Try.awake _).mono ?_
    rintro e W1 ⟨rfl, hb⟩
    go_wp2_with fail
    go_ret
    exact ⟨rfl, hb⟩
end Go.Proofs.Ng
end

section
/-
  What the readings of the arguments say of memory.
-/
namespace Go.Proofs.Ng
open Go.RowKit
theorem list_of {A : Type} (P : Nat → A → Prop) : ∀ n : Nat, (∀ i, i < n → ∃ r, P i r) → ∃ rs : List A, rs.length = n ∧ ∀ (i : Nat) (r : A), rs[i]? = some r → P i r
  | 0, _ => ⟨[], rfl, fun i r h => by simp at h⟩
  | n + 1, h => by
    obtain ⟨rs, hl, hr⟩ := list_of P n fun i hi => h i (by omega)
    obtain ⟨r, hp⟩ := h n (by omega)
    refine ⟨rs ++ [r], by simp [hl], fun i r' hi => ?_⟩
    rcases Nat.lt_or_ge i rs.length with hlt | hge
    · rw [List.getElem?_append_left hlt] at hi
      exact hr i r' hi
    · rw [List.getElem?_append_right hge] at hi
      have : i = n := by
        rcases Nat.eq_or_lt_of_le hge with h | h
        · omega
        · rw [List.getElem?_eq_none (by simp; omega)] at hi; cases hi
      subst this
      have e : i - rs.length = 0 := by omega
      rw [e] at hi
      simp at hi
      subst hi
      exact hp

/-- A slice that is read lies in memory, row for row. -/
theorem open_rows {H : Type} {enc : TypeId × Value → H} {P : Program} {w : World} {base : Nat} {spare : Nat → Bool} {held : Bool} {A : Type} (f : A → List Value) {t e : TypeId} {n fuel : Nat} {v : Value} {x : DataW H × List MemPlace} (ht : P.underlying t = some (.slice e)) (hc : P.cellsOf e = n) (hn : 0 < n)
    (hrow : ∀ (m : Nat) (cs : List Value) (y : DataW H × List MemPlace), cs.length = n → DataW.trod enc P w base spare held m e cs = some y → ∃ r : A, cs = f r)
    (h : DataW.trod enc P w base spare held fuel t [v] = some x) : ∃ (oa : Option Addr) (cap : Nat) (rs : List A), v = .slice oa rs.length cap ∧ rs.length ≤ 9223372036854775807 ∧ Sl w oa n (rs.map f) ∧ (oa = none → rs = [] ∧ cap = 0) ∧ (x.1 = .nil ∧ rs = [] ∨ ∃ elems spare, x.1 = .slice elems spare ∧ elems.length = rs.length) := by
  rcases Go.Deep.open_slice ht h with ⟨h0, hx0⟩ | ⟨a, len, cap, m, k, D, Pl, h1, hb, hl, hm, hmm, hx0, hx⟩
  · injection h0 with h0 _
    subst h0
    exact ⟨none, 0, [], rfl, by simp, fun h => absurd rfl h, fun _ => ⟨rfl, rfl⟩, .inl ⟨by rw [hx0], rfl⟩⟩
  · injection h1 with h1 _
    subst h1
    have hlm : len ≤ m := by rw [hmm]; split <;> omega
    obtain ⟨rs, hrl, hr⟩ := list_of (fun i r => w.cells? base (a.add (i * n)) n = some (f r)) len (fun i hi => by
      obtain ⟨cs, c1, c2⟩ := hx i (by omega)
      rw [hc] at c1
      obtain ⟨r, rfl⟩ := hrow _ _ _ (World.cells?_some c1).2.1 c2
      exact ⟨r, c1⟩)
    subst hrl
    refine ⟨some a, cap, rs, rfl, by unfold maxLen at hm; omega, fun hne => ?_, fun h => by (cases h), .inr ⟨_, _, by rw [hx0], by simp⟩⟩
    have hne' : rs ≠ [] := fun h => hne (by simp [h])
    have cell : ∀ (i : Nat) (r : A), rs[i]? = some r → ∀ q u, (f r)[q]? = some u → w.cell? ((a.add (i * n)).add q) = some u := by
      intro i r hi q u hq
      obtain ⟨_, c2, c3⟩ := World.cells?_some (hr i r hi)
      have hqn : q < n := by
        rcases Nat.lt_or_ge q (f r).length with h' | h'
        · omega
        · rw [List.getElem?_eq_none h'] at hq; cases hq
      rw [c3 q hqn, hq]
    -- the slice's address has no spot
    have sp : a.spot = none := by
      cases rs with
      | nil => exact absurd rfl hne'
      | cons r0 rt =>
        obtain ⟨_, c2, c3⟩ := World.cells?_some (hr 0 r0 rfl)
        have c4 := c3 0 hn
        have : (f r0)[0]? = some ((f r0)[0]'(by omega)) := List.getElem?_eq_getElem _
        rw [this] at c4
        cases hs : a.spot with
        | none => rfl
        | some s =>
          exfalso
          have e0 : ((a.add (0 * n)).add 0) = a := by simp [Addr.add]
          rw [e0] at c4
          unfold World.cell? at c4
          rw [hs] at c4
          revert c4
          cases w.heap[a.block]? with
          | none => simp
          | some o => cases o <;> simp
    obtain ⟨b, off, sp'⟩ := a
    simp at sp
    subst sp
    refine ⟨b, off, rfl, ?_, fun i r hi q u hq => ?_⟩
    · cases rs with
      | nil => exact absurd rfl hne'
      | cons r0 rt =>
        obtain ⟨_, c2, c3⟩ := World.cells?_some (hr 0 r0 rfl)
        have c4 := c3 0 hn
        have : (f r0)[0]? = some ((f r0)[0]'(by omega)) := List.getElem?_eq_getElem _
        rw [this] at c4
        rcases Nat.lt_or_ge b w.heap.size with h' | h'
        · exact h'
        · exfalso
          have e0 : (((⟨b, off, none⟩ : Addr).add (0 * n)).add 0) = ⟨b, off, none⟩ := by simp [Addr.add]
          rw [e0] at c4
          simp [World.cell?, Array.getElem?_eq_none h'] at c4
    · rw [List.getElem?_map] at hi
      cases hri : rs[i]? with
      | none => rw [hri] at hi; cases hi
      | some r' =>
        rw [hri] at hi
        simp at hi
        subst hi
        rw [← cell i r' hri q u hq]
        congr 1
        simp only [Addr.add]
        split <;> split <;> simp_all <;> omega

theorem row_int {H : Type} {enc : TypeId × Value → H} {w : World} {base : Nat} {spare : Nat → Bool} {held : Bool} (e : TypeId) (hu : Try.prog.underlying e = some (.int .i64)) (m : Nat) (cs : List Value) (y : DataW H × List MemPlace) (_ : cs.length = 1) (h : DataW.trod enc Try.prog w base spare held m e cs = some y) : ∃ r : Int, cs = [.int .i64 r] := by
  obtain ⟨n, rfl, _⟩ := DataW.trod_int hu h
  exact ⟨n, rfl⟩
theorem clo3 : Try.prog.cellsOf 3 = 1 := by kernel_rfl
theorem open_nums {H : Type} {enc : TypeId × Value → H} {w : World} {base : Nat} {spare : Nat → Bool} {held : Bool} {t e : TypeId} {fuel : Nat} {v : Value} {x : DataW H × List MemPlace} (ht : Try.prog.underlying t = some (.slice e)) (hu : Try.prog.underlying e = some (.int .i64)) (hc : Try.prog.cellsOf e = 1)
    (h : DataW.trod enc Try.prog w base spare held fuel t [v] = some x) : ∃ (oa : Option Addr) (cap : Nat) (rs : List Int), v = .slice oa rs.length cap ∧ rs.length ≤ 9223372036854775807 ∧ Sl w oa 1 (pvals rs) ∧ (oa = none → rs = [] ∧ cap = 0) ∧ (x.1 = .nil ∧ rs = [] ∨ ∃ elems spare, x.1 = .slice elems spare ∧ elems.length = rs.length) :=
  open_rows (fun p : Int => [.int .i64 p]) ht hc (by omega) (row_int e hu) h
theorem laidOut : laidOutB Try.prog = true := by kernel_rfl
open Go.ChangeShapes Go.WideShapes Go.ChangeAt
set_option linter.unusedVariables false
/-- The post, of a world of which it is known that nothing that stood before has changed. -/
theorem post_below {H : Type} {enc : TypeId × Value → H} {P : Program} {f : Func} {s : ChangeSpec} {apart fresh handsOn again : Bool} {W W' : World} {args : Array Value} {v : Value} {ds gs : List (DataW H)} {before pa pv : List MemPlace}
    (hW : DataW.Whole enc P f.params.toList s.vars apart W args.toList ds gs before)
    (hres : ∀ (b : Nat) (sp : Nat → Bool) (hd : Bool), DataW.TrodAll enc P W' b sp hd f.resultTypes.toList (v.resultList f.resultTypes.size) (s.fn H (ds ++ gs)).results [])
    (hargs : ∀ sp : Nat → Bool, (∀ p ∈ before, sp p.block = true) → DataW.TrodAll enc P W' 0 sp true f.params.toList args.toList (s.fn H (ds ++ gs)).args pa)
    (hvars : ∀ sp : Nat → Bool, (∀ p ∈ before, sp p.block = true) → DataW.TrodVars enc P W' sp s.vars (s.fn H (ds ++ gs)).vars pv)
    (hps : before = pa ++ pv) (hb : Below W.heap.size W W')
    (hok : ∀ (j : Nat) (t : TypeId) (r : Value), f.resultTypes[j]? = some t → (v.resultList f.resultTypes.size)[j]? = some r → Value.okWide P W' .any 0 t r) :
    s.post enc P f apart fresh handsOn again W args v W' := by
  have hlt : ∀ p ∈ before, p.block < W.heap.size := fun p hp => hW.lt p hp
  have hold : ∀ p ∈ before, (fun b => decide (b < W.heap.size)) p.block = true := fun p hp => by simpa using hlt p hp
  refine ⟨ds, gs, before, [], pa, pv, hW, hres _ _ _, hargs _ hold, hvars _ hold, World.keptBut_mono (fun p hp => ⟨hp, ?_⟩) (hb.frame (· ∈ before)), fun _ => ?_⟩
  · rw [hps, List.mem_append] at hp
    exact Or.inr hp
  · obtain ⟨_, _, _, _, _, hz, hn⟩ := hW
    refine ⟨hok, _, _, ([] ++ pa) ++ pv, ⟨[] ++ pa, pv, trodAll_append (hargs _ (fun _ _ => rfl)) (hres _ _ _), hvars _ (fun _ _ => rfl), rfl, ?_, ?_⟩, ?_⟩
    · intro b off hp
      have hin : MemPlace.cell b off ∈ before := by rw [hps]; simpa using hp
      rw [hb.frozen (hlt _ hin)]
      exact hz b off hin
    · intro ha
      have := hn ha
      rw [hps] at this
      simpa using this
    · intro p hp _
      rw [hps]
      simpa using hp


/-- What was read reads as it did. -/
theorem stays {H : Type} {enc : TypeId × Value → H} {P : Program} (hl : laidOutB P = true) {W W' : World} {sp' : Nat → Bool} : ∀ (ts : List TypeId) (vs : List Value) (ds : List (DataW H)) (ps : List MemPlace), (∀ t ∈ ts, P.readableRec t = true ∧ t < P.types.size) →
    DataW.TrodAll enc P W 0 (fun _ => true) true ts vs ds ps → (∀ p ∈ ps, W.sameAt W' p) → (∀ p ∈ ps, sp' p.block = true) → DataW.TrodAll enc P W' 0 sp' true ts vs ds ps
  | [], [], [], ps, _, h, _, _ => h
  | t :: ts, v :: vs, d :: ds, ps, ht, h, h1, h2 => by
    obtain ⟨p, q, a, b, rfl⟩ := h
    exact ⟨p, q, WideElems.Trod_stays hl (ht t (by simp)).1 (ht t (by simp)).2 a (fun x hx => h1 x (by simp [hx])) (fun x hx => h2 x (by simp [hx])), stays hl ts vs ds q (fun t h => ht t (by simp [h])) b (fun x hx => h1 x (by simp [hx])) (fun x hx => h2 x (by simp [hx])), rfl⟩
  | [], _ :: _, _, _, _, h, _, _ => by simp [DataW.TrodAll] at h
  | [], [], _ :: _, _, _, h, _, _ => by simp [DataW.TrodAll] at h
  | _ :: _, [], _, _, _, h, _, _ => by simp [DataW.TrodAll] at h
  | _ :: _, _ :: _, [], _, _, h, _, _ => by simp [DataW.TrodAll] at h

theorem own24 : ownKnob Try.prog.godebug = none := by kernel_rfl
theorem clo2 : Try.prog.cellsOf 2 = 1 := by kernel_rfl
theorem clo31 : Try.prog.cellsOf 31 = 1 := by kernel_rfl
theorem clo36 : Try.prog.cellsOf 36 = 4 := by kernel_rfl
theorem read3 : Try.prog.readableRec 3 = true ∧ 3 < Try.prog.types.size := ⟨by kernel_rfl, of_decide_eq_true (by kernel_rfl)⟩
theorem read22 : Try.prog.readableRec 22 = true ∧ 22 < Try.prog.types.size := ⟨by kernel_rfl, of_decide_eq_true (by kernel_rfl)⟩
theorem read23 : Try.prog.readableRec 23 = true ∧ 23 < Try.prog.types.size := ⟨by kernel_rfl, of_decide_eq_true (by kernel_rfl)⟩
theorem read24 : Try.prog.readableRec 24 = true ∧ 24 < Try.prog.types.size := ⟨by kernel_rfl, of_decide_eq_true (by kernel_rfl)⟩
/-- A slice of points, as it is read. -/
theorem open_pts {H : Type} {enc : TypeId × Value → H} {w : World} {base : Nat} {spare : Nat → Bool} {held : Bool} {fuel : Nat} {v : Value} {x : DataW H × List MemPlace}
    (h : DataW.trod enc Try.prog w base spare held fuel 22 [v] = some x) : ∃ (oa : Option Addr) (cap : Nat) (pts : List (List Int)), v = .slice oa pts.length cap ∧ Pts w oa pts := by
  obtain ⟨oa, cap, rs, rfl, _, hs, _⟩ := open_rows (A := { p : Value × List Int // PtAt w p.1 p.2 }) (fun r => [r.1.1]) Try.underlying22 clo31 (by omega) (fun m cs y hc hy => by
    match cs, hc with
    | [u], _ =>
      obtain ⟨ox, cx, xs, rfl, _, hX, _⟩ := open_nums Try.underlying31 Try.underlying2 clo2 hy
      exact ⟨⟨(.slice ox xs.length cx, xs), ox, cx, rfl, hX⟩, rfl⟩) h
  refine ⟨oa, cap, rs.map fun r => r.1.2, by simp, ⟨rs.map fun r => r.1.1, by simp, by rw [List.map_map]; exact hs, fun k u xs hu hx => ?_⟩⟩
  rw [List.getElem?_map, Option.map_eq_some_iff] at hu hx
  obtain ⟨r, hr, rfl⟩ := hu
  obtain ⟨r', hr', rfl⟩ := hx
  rw [hr] at hr'
  injection hr' with hr'
  subst hr'
  exact r.2
theorem get_some' {A : Type} {xs : List A} {n i : Nat} (h : xs.length = n) (hi : i < n) : ∃ y, xs[i]? = some y := ⟨_, List.getElem?_eq_getElem (by omega)⟩
set_option maxRecDepth 100000 in
theorem row_node {H : Type} {enc : TypeId × Value → H} {w : World} {base : Nat} {spare : Nat → Bool} {held : Bool} (m : Nat) (cs : List Value) (y : DataW H × List MemPlace) (_ : cs.length = 4) (h : DataW.trod enc Try.prog w base spare held m 36 cs = some y) : ∃ r : Nd, cs = r.vals := by
  obtain ⟨xs, n, _, _, hc, hl, hf⟩ := DataW.trod_struct Try.underlying36 h
  rw [clo36] at hc
  match cs, hc with
  | [a, b, c, d], _ =>
    have hl' : xs.length = 4 := hl
    obtain ⟨y0, g0⟩ := get_some' hl' (i := 0) (by omega)
    have h0 : DataW.trod enc Try.prog w base spare held n 3 (List.take (Try.prog.cellsOf 3) (List.drop 0 ([a, b, c, d] : List Value))) = xs[0]? := hf 0 _ rfl
    simp only [g0] at h0
    obtain ⟨y1, g1⟩ := get_some' hl' (i := 1) (by omega)
    have h1 : DataW.trod enc Try.prog w base spare held n 3 (List.take (Try.prog.cellsOf 3) (List.drop 1 ([a, b, c, d] : List Value))) = xs[1]? := hf 1 _ rfl
    simp only [g1] at h1
    obtain ⟨y2, g2⟩ := get_some' hl' (i := 2) (by omega)
    have h2 : DataW.trod enc Try.prog w base spare held n 3 (List.take (Try.prog.cellsOf 3) (List.drop 2 ([a, b, c, d] : List Value))) = xs[2]? := hf 2 _ rfl
    simp only [g2] at h2
    obtain ⟨y3, g3⟩ := get_some' hl' (i := 3) (by omega)
    have h3 : DataW.trod enc Try.prog w base spare held n 3 (List.take (Try.prog.cellsOf 3) (List.drop 3 ([a, b, c, d] : List Value))) = xs[3]? := hf 3 _ rfl
    simp only [g3] at h3
    rw [clo3] at h0 h1 h2 h3
    obtain ⟨x0, e0⟩ := row_int 3 Try.underlying3 _ _ _ rfl h0
    obtain ⟨x1, e1⟩ := row_int 3 Try.underlying3 _ _ _ rfl h1
    obtain ⟨x2, e2⟩ := row_int 3 Try.underlying3 _ _ _ rfl h2
    obtain ⟨x3, e3⟩ := row_int 3 Try.underlying3 _ _ _ rfl h3
    simp at e0 e1 e2 e3
    subst e0 e1 e2 e3
    exact ⟨⟨x0, x1, x2, x3⟩, rfl⟩
theorem open_nodes {H : Type} {enc : TypeId × Value → H} {w : World} {base : Nat} {spare : Nat → Bool} {held : Bool} {fuel : Nat} {v : Value} {x : DataW H × List MemPlace}
    (h : DataW.trod enc Try.prog w base spare held fuel 23 [v] = some x) : ∃ (oa : Option Addr) (cap : Nat) (t : List Nd), v = .slice oa t.length cap ∧ Sl w oa 4 (t.map Nd.vals) := by
  obtain ⟨oa, cap, rs, rfl, _, hs, _⟩ := open_rows Nd.vals Try.underlying23 clo36 (by omega) row_node h
  exact ⟨oa, cap, rs, rfl, hs⟩
end Go.Proofs.Ng
end

