/-
  Texts put together: Ce Kk.
-/
import Derived.Test.YtemchlakoalhcaaZJointMoves13
import Derived.Test.YtemchlakoalhcaaZJointMoves26
set_option linter.unusedVariables false
section
/-
  Walks: the maker's Team.
-/
namespace Go.Proofs.Jn
open Go.RowKit

/-- What Team answers. -/
def TeamE (w : World) (e : Ending) (W : World) : Prop := ∃ (T : Tm) (om oc : Option Addr) (cm cc base : Nat), e = .returned (T.val om oc cm cc) ∧ TeamOk T ∧ (∀ m ∈ T.ms, MadeM m) ∧ TeamAt W om oc T ∧ DoneM W base T.ms (.slice om T.ms.length cm) (.slice oc T.cs.length cc) ∧ w.heap.size ≤ base ∧ Below w.heap.size w W

theorem appE {w W W1 : World} {nS n3 : Nat} {os : Option Addr} {cap : Nat} {xs : List Int} {e1 s1 e2 s2 : Nat} {r1 : List (List Value)} {es : List Ed} {d : Ed} {v u : Value} (h : Bx2 w nS n3 os cap xs e1 s1 e2 s2 r1 (es.map Ed.vals) v u W) (g c : Nat)
    (ho : W1.ownsRow (n3 + 1) e2 s2 (.slice (some ⟨g, 0, none⟩) (es.length + 1) c) (es.length + 1) ((es.map Ed.vals).flatten ++ d.vals)) (hg : W.grownBy W1 u.ownBlock) (ha : u.ownBlock = some g ∨ g = W.heap.size) :
    Bx2 w nS n3 os cap xs e1 s1 e2 s2 r1 ((es ++ [d]).map Ed.vals) v (.slice (some ⟨g, 0, none⟩) (es.length + 1) c) (W1.setCell ⟨n3, 1, none⟩ (.slice (some ⟨g, 0, none⟩) (es.length + 1) c)) := by
  have := h.app2 d.vals g c (by rw [List.length_map]; exact ho) hg ha
  rw [List.length_map] at this
  rw [List.map_append]
  exact this
theorem appC {w W W1 : World} {nS n3 : Nat} {os : Option Addr} {cap : Nat} {xs : List Int} {e1 s1 e2 s2 : Nat} {r1 : List (List Value)} {es : List Cf} {d : Cf} {v u : Value} (h : Bx2 w nS n3 os cap xs e1 s1 e2 s2 r1 (es.map Cf.vals) v u W) (g c : Nat)
    (ho : W1.ownsRow (n3 + 1) e2 s2 (.slice (some ⟨g, 0, none⟩) (es.length + 1) c) (es.length + 1) ((es.map Cf.vals).flatten ++ d.vals)) (hg : W.grownBy W1 u.ownBlock) (ha : u.ownBlock = some g ∨ g = W.heap.size) :
    Bx2 w nS n3 os cap xs e1 s1 e2 s2 r1 ((es ++ [d]).map Cf.vals) v (.slice (some ⟨g, 0, none⟩) (es.length + 1) c) (W1.setCell ⟨n3, 1, none⟩ (.slice (some ⟨g, 0, none⟩) (es.length + 1) c)) := by
  have := h.app2 d.vals g c (by rw [List.length_map]; exact ho) hg ha
  rw [List.length_map] at this
  rw [List.map_append]
  exact this
theorem other_arm (a q L : Nat) (ha : a < L) (hq : q + 1 < L) : ((a : Int) + 1 + q).tmod L = (((a + 1 + q) % L : Nat) : Int) ∧ (a + 1 + q) % L < L ∧ a ≠ (a + 1 + q) % L := by
  refine ⟨?_, Nat.mod_lt _ (by omega), ?_⟩
  · rw [Int.tmod_eq_emod_of_nonneg (by omega), Int.natCast_emod]; congr 1
  · rcases Nat.lt_or_ge (a + 1 + q) L with h | h
    · rw [Nat.mod_eq_of_lt h]; omega
    · rw [Nat.mod_eq_sub_mod h, Nat.mod_eq_of_lt (by omega)]; omega
theorem own_ne {W : World} {base size n cap nS m : Nat} {e : TypeId} {oa : Option Addr} {xs : List Value} (h : W.ownsRow base e size (.slice oa n cap) m xs) (hn : nS < base) : ∀ b o s, oa = some ⟨b, o, s⟩ → b ≠ nS := fun b o s he => by
  have := own_fresh h _ he
  simp at this; omega
theorem own_sl {W : World} {base : Nat} {e : TypeId} {n cap : Nat} {oa : Option Addr} {rows : List (List Value)} (hn : ∀ r ∈ rows, r.length = n) (h : W.ownsRow base e n (.slice oa rows.length cap) rows.length rows.flatten) : Sl W oa n rows := by
  obtain ⟨oa', cap', hv, hs⟩ := own_rows hn h
  injection hv with h1
  rw [h1]; exact hs
theorem mp_len (ms : List Mp) : ∀ r ∈ ms.map Mp.vals, r.length = 2 := by
  intro r hr; simp at hr; obtain ⟨a, _, rfl⟩ := hr; rfl
theorem cf_len (cs : List Cf) : ∀ r ∈ cs.map Cf.vals, r.length = 6 := by
  intro r hr; simp at hr; obtain ⟨a, _, rfl⟩ := hr; rfl
theorem ed_len (es : List Ed) : ∀ r ∈ es.map Ed.vals, r.length = 12 := by
  intro r hr; simp at hr; obtain ⟨a, _, rfl⟩ := hr; rfl
theorem team_own {W : World} {b1 b2 b : Nat} {om oc : Option Addr} {cm cc : Nat} {ms : List Mp} {cs : List Cf} {v u : Value} (h1 : W.ownsRow b1 43 2 (.slice om ms.length cm) (ms.map Mp.vals).length (ms.map Mp.vals).flatten) (h2 : W.ownsRow b2 74 6 (.slice oc cs.length cc) (cs.map Cf.vals).length (cs.map Cf.vals).flatten) (hD : DoneM W b ms v u) : TeamAt W om oc ⟨ms, cs⟩ :=
  ⟨own_sl (mp_len ms) (by rw [List.length_map] at h1 ⊢; exact h1), own_sl (cf_len cs) (by rw [List.length_map] at h2 ⊢; exact h2), fun m hm => own_sl (ed_len m.es) (by have := hD.own m hm; rw [List.length_map]; exact this)⟩
theorem bx_team {w W : World} {nS n4 b : Nat} {os om oc : Option Addr} {cap cm cc : Nat} {xs : List Int} {ms : List Mp} {cs : List Cf} {v u : Value} (h : Bx2 w nS n4 os cap xs 43 2 74 6 (ms.map Mp.vals) (cs.map Cf.vals) (.slice om ms.length cm) (.slice oc cs.length cc) W) (hD : DoneM W b ms v u) : TeamAt W om oc ⟨ms, cs⟩ :=
  team_own h.o1 h.o2 hD
theorem move_x (om oc : Option Addr) (cm cc : Nat) (ms : List Mp) (cs : List Cf) (k : Nat) (m : Mp) (W : World) (nS : Nat) (os : Option Addr) (cap : Nat) (xs : List Int) (hl : ms.length ≤ 100) (hm : ms[k]? = some m) (ho : MadeM m) (hS : Src W nS os cap xs) (hT : TeamAt W om oc ⟨ms, cs⟩) (hne : ∀ b o s, m.oe = some ⟨b, o, s⟩ → b ≠ nS) :
    Calls Try.prog 28 #[.pointer (some ⟨nS, 0, none⟩), .agg #[.slice om ms.length cm, .slice oc cs.length cc], .int .i64 (k : Nat)] W (MoveE ⟨ms, cs⟩ k W nS os cap xs) :=
  move_any om oc cm cc ⟨ms, cs⟩ k m W nS os cap xs hl hm ho.ok ho.st hS hT hS.ints hne
theorem set2_heap (W : World) (n : Nat) (x y : Value) (q : Nat) (h : q ≠ n) : ((W.setCell ⟨n, 0, none⟩ x).setCell ⟨n, 1, none⟩ y).heap[q]? = W.heap[q]? :=
  (Below.heap_setCell _ ⟨n, 1, none⟩ _ q h).trans (Below.heap_setCell W ⟨n, 0, none⟩ _ q h)
set_option maxRecDepth 100000 in
set_option maxHeartbeats 4000000 in
theorem team_any (os : Option Addr) (cap : Nat) (xs : List Int) (w : World) (hX : Sl w os 1 (pvals xs)) (hxl : xs.length ≤ 9223372036854775807) :
    Calls Try.prog 9 #[.slice os xs.length cap] w (TeamE w) := by
  go_enter Try.func9, Try.ntmps9
  go_upto_region 1 with fail
  have hbx_ := blks1 w [.slice none 0 0, .slice none 0 0] 26
  replace hX := hX.keep hbx_.2
  have HB := Lib.hid (hbx_.2)
  have hod : w.heap.size ≤ w.heap.size := by omega
  generalize w.alloc (.cells #[.slice none 0 0, .slice none 0 0] 26) = W0 at hbx_ hX HB ⊢
  obtain ⟨r2, hbel_⟩ := hbx_
  obtain ⟨n2', hn_⟩ : ∃ n, n = w.heap.size := ⟨_, rfl⟩
  rw [← hn_] at r2 ⊢
  replace hod := Nat.le_of_eq hn_.symm
  clear hn_ hbel_
  go_wp2_with (refine (from_any os cap xs.length W0).mono ?_)
  rintro e W1 ⟨rfl, rfl⟩
  have hbA : Below W0.heap.size W0 (W0.alloc (.cells #[.slice os xs.length cap, .int .i64 0] 116)) := (Below.refl _ _).alloc (Nat.le_refl _) _
  have hC2 := Cells2.new W0 (.slice os xs.length cap) (.int .i64 0) 116
  have hl2 := r2.lt
  replace r2 := r2.keep hbA
  have hX1 := hX.keep hbA
  have hoff : pvals xs ≠ [] → ∀ b o s, os = some ⟨b, o, s⟩ → b ≠ W0.heap.size := fun h b o s he => by
    obtain ⟨b', off', e1, hr⟩ := hX h
    rw [he] at e1; injection e1 with e1; injection e1 with e1 _ _
    have := hr.lt; omega
  have hS : Src (W0.alloc (.cells #[.slice os xs.length cap, .int .i64 0] 116)) W0.heap.size os cap xs := ⟨⟨0, by omega, hC2⟩, hX1, fun h => hoff (fun h0 => h (by simpa [pvals] using h0)), hxl⟩
  have HB1 := Lib.hid (below_call HB.out hbA)
  have hnS : w.heap.size ≤ W0.heap.size := HB.out.size
  clear hbA hC2 hX HB hoff
  have hsz : (W0.alloc (.cells #[.slice os xs.length cap, .int .i64 0] 116)).heap.size = W0.heap.size + 1 := by simp
  generalize W0.alloc (.cells #[.slice os xs.length cap, .int .i64 0] 116) = W1 at *
  generalize W0.heap.size = nS at *
  have hr2 : n2' ≠ nS := by omega
  have HSZ := Lib.hid hsz
  have HR21 := Lib.hid r2
  clear hX1 hsz
  go_upto_region 3 with fail
  have hR := Bx2.new W1 nS os cap xs 43 2 74 6 26 hS
  have hbA : Below W1.heap.size W1 (W1.alloc (.cells #[.slice none 0 0, .slice none 0 0] 26)) := (Below.refl _ _).alloc (Nat.le_refl _) _
  replace r2 := r2.keep hbA
  clear hS hbA
  generalize W1.alloc (.cells #[.slice none 0 0, .slice none 0 0] 26) = W2 at hR r2 ⊢
  generalize hn4 : W1.heap.size = n4 at hR ⊢
  have HN4 := Lib.hid hn4
  go_wp2_with fail
  refine (next_any _ nS os cap xs 3 hR.src (by omega) (by omega)).mono ?_
  rintro e W3 ⟨r, r0, r1, rfl, hg, hS, -⟩
  obtain ⟨r, rfl, hr3⟩ := nat_int (n := 3) r0 r1
  replace hR := hR.call hg hS
  replace r2 := r2.keepG hg hr2
  clear hg hS r0 r1 hn4
  have HR2 := Lib.hid r2
  go_wp2_with fail
  go_loopw [5] (fun i W => ∃ (ms : List Mp) (j : Nat) (v : Value), i = .int .i64 (j : Nat) ∧ ms.length + j = 1 + r ∧ (∀ m ∈ ms, MadeM m) ∧ Bx2 W1 nS n4 os cap xs 43 2 74 6 (ms.map Mp.vals) [] v (.slice none 0 0) W ∧ DoneM W (n4 + 1) ms v (.slice none 0 0)) (fun i _ => (intOf i).toNat)
  case atStart => exact ⟨[], 1 + r, .slice none 0 0, by simp, by simp, by simp, hR, ⟨by simp, by simp, by simp⟩⟩
  case round =>
    clear hR
    obtain ⟨ms, j, v, rfl, hj, hmk, hR, hD⟩ := hrel
    have HMK := Lib.hid hmk
    clear hmk
    by_cases hj0 : 0 < j
    · obtain ⟨Wb, rfl⟩ : ∃ X, X = wr := ⟨_, rfl⟩
      go_wp2_with fail
      have hM := Bx2.new Wb nS os cap xs 48 1 54 12 43 hR.src
      have HR := Lib.hid hR
      have HD := Lib.hid hD
      clear hR hD
      generalize Wb.alloc (.cells #[.slice none 0 0, .slice none 0 0] 43) = V1 at hM ⊢
      generalize hn6 : Wb.heap.size = n6 at hM ⊢
      have HN6 := Lib.hid hn6
      refine (next_any _ nS os cap xs 3 hM.src (by omega) (by omega)).mono ?_
      rintro e V2 ⟨q, q0, q1, rfl, hg, hS, -⟩
      obtain ⟨q, rfl, hq3⟩ := nat_int (n := 3) q0 q1
      replace hM := hM.call hg hS
      clear hg hS q0 q1 hn6
      go_wp2_with fail
      obtain ⟨kk, hkk⟩ : ∃ kk : Nat, kk = 2 + q := ⟨_, rfl⟩
      have hkk' : (2 : Int) + (q : Int) = (kk : Int) := by omega
      have hk2 : 2 ≤ kk ∧ kk ≤ 4 := by omega
      rw [hkk']
      clear hkk hkk' hq3
      go_loopw [8] (fun i W => ∃ (r1 : List (List Value)) (vP : Value), i = .int .i64 (r1.length : Nat) ∧ r1.length ≤ kk ∧ Bx2 Wb nS n6 os cap xs 48 1 54 12 r1 [] vP (.slice none 0 0) W) (fun i _ => kk - (intOf i).toNat)
      case atStart => exact ⟨[], _, rfl, by simp, hM⟩
      case round =>
        clear hM
        obtain ⟨r1, vP, rfl, hkl, hM⟩ := hrel
        by_cases hlt : r1.length < kk
        · have c0 := hM.b3.c 0 _ rfl
          have f0 := hM.b3.f 0
          have l6 := hM.b3.lt
          obtain ⟨i0, hi, hz0, hz1, hz2⟩ := info_parts info48
          have hB := ((Below.refl wr.heap.size wr).alloc (Nat.le_refl _) (.cells #[.int .i64 (r1.length : Nat)] 2)).alloc (by simp) (.cells #[.slice (some ⟨wr.heap.size, 0, none⟩) 1 1] 48)
          have HC := Lib.hid (hM.bel hB)
          have hcc := new_cells (wr.alloc (.cells #[.int .i64 (r1.length : Nat)] 2)) [.slice (some ⟨wr.heap.size, 0, none⟩) 1 1] 48
          have HCC := Lib.hid hcc
          clear hcc hB
          go_wp2_with (at_builtin; go_loud (refine wpList_append_lies _ rfl _ _ 40 rfl (n6 + 1) 48 i0 (.slice none 0 0) 1 24 under40 hi hz0 hz1 hz2 rfl (by decide) _ _ _ rfl HC.out.o1 ⟨wr.heap.size + 1, 0, none⟩ 1 1 [.slice (some ⟨wr.heap.size, 0, none⟩) 1 1] rfl rfl ?c1 ?c2 (by decide) ?c3 ?c4 ?c5 _ rfl ?_))
          case c1 => simpa using HCC.out
          case c2 => intro u hu; simp at hu; subst hu; rfl
          case c3 => unfold maxLen; omega
          case c4 => omega
          case c5 => exact HC.out.hb
          intro g c W1' hown hgrow hat hlt3
          have HA := Lib.hid (HC.out.app1 _ g c hown hgrow (by simpa using hat))
          have hB3 := HC.out.b3.low (Nat.lt_succ_self _) (grown_below HC.out.o1 hgrow HC.out.hb)
          have c04 := hB3.c 0 _ rfl
          have f04 := hB3.f 0
          clear hown hgrow hat HC hM hi hz0 hz1 hz2 c0 f0 hB3
          go_wp2
          go_roundw
          case rel => exact ⟨_, _, by simp, by simp; omega, HA.out⟩
          case measure => simp [intOf]; omega
        · have hke : kk = r1.length := by omega
          have HKE := Lib.hid hke
          clear hke
          go_wp2_with fail
          go_loopw [9, 10] (fun i _ W => ∃ (u : Nat) (es : List Ed) (vE : Value), i = .int .i64 (u : Nat) ∧ u ≤ kk ∧ EdsTo kk es u 0 ∧ Bx2 Wb nS n6 os cap xs 48 1 54 12 r1 (es.map Ed.vals) vP vE W) (fun i _ _ => kk - (intOf i).toNat)
          case atStart => exact ⟨0, [], _, rfl, by omega, EdsTo.nil _ _ _, hM⟩
          case round =>
            clear hM
            obtain ⟨u, es, vE, rfl, hu, hE, hM⟩ := hrel
            by_cases hlt : u < kk
            · go_wp2_with fail
              go_loopw [10] (fun i W => ∃ (v : Nat) (es : List Ed) (vE : Value), i = .int .i64 (v : Nat) ∧ u + 1 ≤ v ∧ v ≤ kk ∧ EdsTo kk es u v ∧ Bx2 Wb nS n6 os cap xs 48 1 54 12 r1 (es.map Ed.vals) vP vE W) (fun i _ => kk - (intOf i).toNat)
              case atStart => exact ⟨u + 1, es, vE, by simp, by omega, by omega, hE.mono (by omega) (by omega), hM⟩
              case round =>
                clear hM hE
                obtain ⟨y, es, vE, rfl, hy1, hy2, hE, hM⟩ := hrel
                have HE := Lib.hid hE
                clear hE
                by_cases hlt2 : y < kk
                · go_upto_block 7 with fail
                  go_cut [] (fun W => ∃ (es' : List Ed) (vE' : Value), EdsTo kk es' u (y + 1) ∧ Bx2 Wb nS n6 os cap xs 48 1 54 12 r1 (es'.map Ed.vals) vP vE' W)
                  case first =>
                    go_wp2_with fail
                    refine (next_any _ nS os cap xs 3 hM.src (by omega) (by omega)).mono ?_
                    rintro e V3 ⟨q, q0, q1, rfl, hg, hS, -⟩
                    obtain ⟨q, rfl, hq3⟩ := nat_int (n := 3) q0 q1
                    replace hM := hM.call hg hS
                    clear hg hS q0 q1
                    by_cases hq0 : 0 < q
                    · go_upto_region 19 with fail
                      obtain ⟨i0, hi, hz0, hz1, hz2⟩ := info_parts info54
                      have c1 : V3.cell? ⟨n6, 1, none⟩ = some vE := hM.b3.c 1 _ rfl
                      have f1 := hM.b3.f 1
                      have l6 := hM.b3.lt
                      have HEL := Lib.hid HE.out.len
                      have HM := Lib.hid (hM.bel (Below.refl _ _).drew)
                      clear hM
                      go_region_law (first
                        | (go_simp
                           go_at_call 27
                           refine (claim_any _).mono ?_
                           rintro e V5 ⟨b, rfl, hb⟩
                           have HM := Lib.hid (HM.out.bel hb)
                           have c1 := HM.out.b3.c 1 _ rfl
                           have f1 := HM.out.b3.f 1
                           have l6 := HM.out.b3.lt
                           clear hb
                           try (
                             have hcc := HC.out.1
                             have HA := Lib.hid (HM.out.bel (W' := V5.alloc (.cells #[.int .i64 u, .int .i64 y, .int .i64 (IntKind.i64.wrap (1 + c)), .int .i64 1, .int .i64 1, .slice (some ⟨b, 0, none⟩) 1 1, .int .i64 0, .int .i64 0, .slice none 0 0, .int .i64 0, .slice none 0 0, .slice none 0 0] 54)) ((Below.refl _ _).alloc (Nat.le_refl _) _))
                             have HO2 : Hid (World.ownsRow _ _ _ _ _ es.length _) := Lib.hid (by have := HA.out.o2; rwa [List.length_map] at this)))
                        | (go_simp
                           go_at_call 26
                           refine (next_any _ nS os cap xs 4 HM.out.src (by omega) (by omega)).mono ?_
                           rintro e V5 ⟨c, c0, c4, rfl, hg, hS, -⟩
                           have HM := Lib.hid (HM.out.call hg hS)
                           have c1 := HM.out.b3.c 1 _ rfl
                           have f1 := HM.out.b3.f 1
                           have l6 := HM.out.b3.lt
                           have HC : Hid (0 ≤ IntKind.i64.wrap (1 + c) ∧ IntKind.i64.wrap (1 + c) ≤ 1099511627776) := Lib.hid (by rw [IntWalk.i64_in _ (by omega)]; omega)
                           clear hg hS
                           try (
                             have hbb := b
                             have HA := Lib.hid (HM.out.bel (W' := V5.alloc (.cells #[.int .i64 u, .int .i64 y, .int .i64 (IntKind.i64.wrap (1 + c)), .int .i64 1, .int .i64 1, .slice (some ⟨b, 0, none⟩) 1 1, .int .i64 0, .int .i64 0, .slice none 0 0, .int .i64 0, .slice none 0 0, .slice none 0 0] 54)) ((Below.refl _ _).alloc (Nat.le_refl _) _))
                             have HO2 : Hid (World.ownsRow _ _ _ _ _ es.length _) := Lib.hid (by have := HA.out.o2; rwa [List.length_map] at this)))
                        | (have hxx := HA; clear hxx
                           refine step_append_lies _ rfl (.tmp 54) (.tmp 62) 41 rfl (n6 + 1) 54 i0 _ 12 160 under41 hi hz0 hz1 hz2 rfl (by decide) vE es.length _ (by simp [Act.eval]) HO2.out ⟨V5.heap.size, 0, none⟩ 1 1 (Ed.vals ⟨u, y, IntKind.i64.wrap (1 + c), 1, 1, ⟨some ⟨b, 0, none⟩, 1, 1⟩, 0, 0, ⟨none, 0, 0⟩, 0, ⟨none, 0, 0⟩, ⟨none, 0, 0⟩⟩) (by simp [Act.eval]) rfl (new_cells _ _ _) (Ed.one _) (by decide) (by unfold maxLen; have := HEL.out; omega) (by have := HEL.out; omega) HA.out.hb _ rfl ?_
                           intro g c' W9 hown hgrow hat hlt9
                           have hB3 := HA.out.b3.low (Nat.lt_succ_self _) (grown_below HA.out.o2 hgrow HA.out.hb)
                           have c19 := hB3.c 1 _ rfl
                           have f19 := hB3.f 1
                           have HO := Lib.hid hown
                           clear hown))
                      all_goals
                        go_wp2_with fail
                        go_meet
                        exact ⟨_, _, HE.out.snoc _ rfl rfl (by omega) (by omega) HC.out rfl, appE HA.out g c' HO.out hgrow hat⟩
                    · go_wp2_with fail
                      go_meet
                      exact ⟨es, vE, HE.out.mono (by omega) (by omega), hM⟩
                  case rest =>
                    clear hM
                    obtain ⟨es', vE', hE', hM⟩ := hcut
                    have HE' := Lib.hid hE'
                    clear hE'
                    go_wp2
                    go_roundw
                    case rel => exact ⟨y + 1, es', vE', by simp, by omega, by omega, HE'.out, hM⟩
                    case measure => simp [intOf]; omega
                · have hye : y = kk := by omega
                  have HYE := Lib.hid hye
                  clear hye
                  go_wp2
                  go_roundw
                  case rel => exact ⟨u + 1, es, vE, by simp, by omega, HE.out.mono (by omega) (by omega), hM⟩
                  case measure => simp [intOf]; omega
            · have hue : u = kk := by omega
              have HUE := Lib.hid hue
              clear hue
              obtain ⟨op, cp, rfl⟩ := own_slice hM.o1
              obtain ⟨oe, ce, rfl⟩ := own_slice hM.o2
              have hn6 := HN6.out
              have hR := HR.out.call hM.gr hM.src
              have hb4 := HR.out.hb
              have hs1 := HR.out.hs
              have hD := HD.out.keepG hM.gr (by have := hR.h3; omega)
              have hmade : MadeM ⟨kk, op, cp, oe, ce, es⟩ := hE.made (by rw [HUE.out]; omega) hk2.1 hk2.2 op oe cp ce
              have hown : wr.ownsRow (n4 + 1) 54 12 (Mp.ev ⟨kk, op, cp, oe, ce, es⟩) es.length (es.map Ed.vals).flatten := by
                have := own_base hM.o2 (base' := n4 + 1) (by omega)
                rw [List.length_map] at this
                exact this
              have hD1 : DoneM wr (n4 + 1) (ms ++ [⟨kk, op, cp, oe, ce, es⟩]) v (.slice none 0 0) := hD.snoc _ hown fun g hg => by
                have hg' : (Value.slice oe (es.map Ed.vals).length ce).ownBlock = some g := by rw [List.length_map]; exact hg
                have h1 := own_lt hM.o2 g hg'
                refine ⟨fun a ha hc => ?_, fun hc => ?_, fun hc => by cases hc⟩
                · have := own_lt (HD.out.own a ha) g hc; omega
                · have := own_lt HR.out.o1 g hc; omega
              have c0 := hM.b3.c 0 _ rfl
              have c1 := hM.b3.c 1 _ rfl
              have l6 := hM.b3.lt
              have d0 := hR.b3.c 0 _ rfl
              have g0 := hR.b3.f 0
              have l4 := hR.b3.lt
              rw [HKE.out.symm] at c0 ⊢
              rw [List.length_map] at c1
              obtain ⟨i0, hi, hz0, hz1, hz2⟩ := info_parts info43
              have hB := (Below.refl wr.heap.size wr).alloc (Nat.le_refl _) (.cells #[.slice op kk cp, .slice oe es.length ce] 43)
              have HC := Lib.hid (hR.bel hB)
              have HD1 := Lib.hid (hD1.keep hB)
              have HMM := Lib.hid hmade
              have HO1 : Hid (World.ownsRow _ _ _ _ v ms.length _) := Lib.hid (by have := HC.out.o1; rwa [List.length_map] at this)
              have HML := Lib.hid (show ms.length ≤ 3 by omega)
              clear hR hD hmade hown hD1 hB hM hE hb4 hs1 hn6
              go_wp2_with (at_builtin; go_loud (refine wpList_append_lies _ rfl _ _ 23 rfl (n4 + 1) 43 i0 (.agg #[.slice none 0 0, .slice none 0 0]) 2 48 under23 hi hz0 hz1 hz2 rfl (by decide) _ _ _ rfl HO1.out ⟨wr.heap.size, 0, none⟩ 1 1 [.slice op kk cp, .slice oe es.length ce] rfl rfl ?c1 ?c2 (by decide) ?c3 ?c4 ?c5 _ rfl ?_))
              case c1 => exact new_cells _ _ _
              case c2 => intro u hu; simp at hu; rcases hu with rfl | rfl <;> rfl
              case c3 => unfold maxLen; have := HML.out; omega
              case c4 => have := HML.out; omega
              case c5 => exact HC.out.hb
              intro g c W1' hown hgrow hat hlt3
              have HA := Lib.hid (HC.out.app1 (Mp.vals ⟨kk, op, cp, oe, ce, es⟩) g c (by rw [List.length_map]; exact hown) hgrow (by simpa using hat))
              have HDA := Lib.hid (HD1.out.keepQ (v' := .slice (some ⟨g, 0, none⟩) (ms.length + 1) c) (u' := .slice none 0 0) (fun q hq hl h1 _ => HC.out.far1 hgrow (.slice (some ⟨g, 0, none⟩) (ms.length + 1) c) q hl h1 (by omega)) (fun q hq => by
                simp [Value.ownBlock] at hq
                subst hq
                rcases hat with h | h
                · exact .inl h
                · exact .inr (by simp; omega)) (fun q hq => by cases hq))
              have hB3 := HC.out.b3.low (Nat.lt_succ_self _) (grown_below HC.out.o1 hgrow HC.out.hb)
              have c04 := hB3.c 0 _ rfl
              have f04 := hB3.f 0
              clear hown hgrow hat HC HD1 hi hz0 hz1 hz2 c0 c1 d0 g0 hB3 hlt3
              go_wp2
              go_roundw
              case rel =>
                refine ⟨ms ++ [⟨kk, op, cp, oe, ce, es⟩], j - 1, .slice (some ⟨g, 0, none⟩) (ms.length + 1) c, by simp; omega, by simp; omega, fun m hm => ?_, ?_, HDA.out⟩
                · rcases List.mem_append.1 hm with hm | hm
                  · exact HMK.out m hm
                  · simp at hm; subst hm; exact HMM.out
                · have := HA.out
                  rw [List.length_map] at this
                  rw [List.map_append]
                  exact this
              case measure => simp [intOf]; omega
    · have hj00 : j = 0 := by omega
      have HML := Lib.hid (show 1 ≤ ms.length ∧ ms.length ≤ 3 by omega)
      obtain ⟨om, cm, rfl⟩ := own_slice hR.o1
      rw [List.length_map] at hR hD
      clear hj hr3
      go_wp2_with fail
      refine (next_any _ nS os cap xs 12 hR.src (by omega) (by omega)).mono ?_
      rintro e V1 ⟨nc, q0, q1, rfl, hg, hS, -⟩
      obtain ⟨nc, rfl, hnc⟩ := nat_int (n := 12) q0 q1
      have hR1 := hR.call hg hS
      have hD1 := hD.keepG hg (by have := hR.hs; have := hR.h3; omega)
      clear hg hS q0 q1 hR hD
      go_wp2_with fail
      go_loopw [11] (fun i W => ∃ (cs : List Cf) (k : Nat) (u : Value), i = .int .i64 (k : Nat) ∧ cs.length + k ≤ 11 ∧ (∀ c ∈ cs, c.a.arm ≠ c.b.arm ∧ legB ⟨ms, cs⟩ c.a = true ∧ legB ⟨ms, cs⟩ c.b = true) ∧ Bx2 W1 nS n4 os cap xs 43 2 74 6 (ms.map Mp.vals) (cs.map Cf.vals) (.slice om ms.length cm) u W ∧ DoneM W (n4 + 1) ms (.slice om ms.length cm) u) (fun i _ => (intOf i).toNat)
      case atStart => exact ⟨[], nc, _, rfl, by simp; omega, by simp, hR1, hD1⟩
      case round =>
        clear hR1 hD1
        obtain ⟨cs, k, u, rfl, hk, hcf, hR, hD⟩ := hrel
        have HCF := Lib.hid hcf
        clear hcf
        have d0 := hR.b3.c 0 _ rfl
        have d1 := hR.b3.c 1 _ rfl
        have l4 := hR.b3.lt
        by_cases hk0 : 0 < k
        · by_cases hm1 : 1 < ms.length
          · have hml := HML.out
            have HK := Lib.hid hk
            go_upto_block 9 with fail
            go_cut [] (fun W => ∃ (c : Cf) (u' : Value), (c.a.arm ≠ c.b.arm ∧ legB ⟨ms, cs⟩ c.a = true ∧ legB ⟨ms, cs⟩ c.b = true) ∧ Bx2 W1 nS n4 os cap xs 43 2 74 6 (ms.map Mp.vals) ((cs ++ [c]).map Cf.vals) (.slice om ms.length cm) u' W ∧ DoneM W (n4 + 1) ms (.slice om ms.length cm) u')
            case first =>
              go_wp2_with fail
              refine (next_any _ nS os cap xs ms.length hR.src (by omega) (by omega)).mono ?_
              rintro e V2 ⟨a, a0, a1, rfl, hg, hS, -⟩
              obtain ⟨a, rfl, ha⟩ := nat_int a0 a1
              replace hR := hR.call hg hS
              replace hD := hD.keepG hg (by have := hR.hs; have := hR.h3; omega)
              clear hg hS a0 a1 d0 d1 l4
              go_upto_region 25 with fail
              have d0 := hR.b3.c 0 _ rfl
              have l4 := hR.b3.lt
              have hw1 : IntKind.i64.wrap ((a : Int) + 1) = (a : Int) + 1 := IntWalk.i64_in _ (by omega)
              have hw2 : IntKind.i64.wrap ((ms.length : Int) - 1) = (ms.length : Int) - 1 := IntWalk.i64_in _ (by omega)
              have hz0 : ((ms.length : Int) == 0) = false := nat_bne (b := 0) (by omega)
              have hz1 : ¬ ms = [] := fun h => by rw [h] at hm1; simp at hm1
              have hz2 : ¬ ms.length = 0 := by omega
              go_cut [13] (fun s W => ∃ b : Nat, s = .int .i64 (b : Nat) ∧ b < ms.length ∧ a ≠ b ∧ Bx2 W1 nS n4 os cap xs 43 2 74 6 (ms.map Mp.vals) (cs.map Cf.vals) (.slice om ms.length cm) u W ∧ DoneM W (n4 + 1) ms (.slice om ms.length cm) u)
              case first =>
                go_region_held3 (fun X => X.cell? ⟨n4, 0, none⟩ = some (.slice om ms.length cm))
                  (first | exact d0 | exact HR2.out.b3.c 0 _ rfl | fail)
                  (first
                    | (go_at_call 26
                       refine (next_any _ nS os cap xs ((ms.length : Int) - 1) (hR.src.keep (Below.refl _ _).drew) (by omega) (by omega)).mono ?_
                       rintro e V4 ⟨q, q0, q1, rfl, hg, hS, -⟩
                       have HR2 := Lib.hid ((hR.bel (Below.refl _ _).drew).call hg hS)
                       have HD2 := Lib.hid ((hD.keep (Below.refl _ _).drew).keepG hg (by have := hR.hs; have := hR.h3; omega))
                       have hw3 : IntKind.i64.wrap ((a : Int) + 1 + q) = (a : Int) + 1 + q := IntWalk.i64_in _ (by omega)
                       clear hg hS))
                go_wp2_with fail
                go_meet
                obtain ⟨qn, rfl, hqn⟩ : ∃ k : Nat, q = k ∧ k + 1 < ms.length := ⟨q.toNat, by omega, by omega⟩
                obtain ⟨h1, h2, h3⟩ := other_arm a qn ms.length ha hqn
                exact ⟨_, by rw [h1], h2, h3, HR2.out, HD2.out⟩
              case rest =>
                clear hR hD d0 l4 hw1 hw2 hz0 hz1 hz2
                obtain ⟨b, rfl, hb, hab, hR, hD⟩ := hcut
                obtain ⟨oc, cc, rfl⟩ := own_slice hR.o2
                rw [List.length_map] at hR hD
                obtain ⟨ma, hma⟩ : ∃ m, ms[a]? = some m := ⟨_, List.getElem?_eq_getElem ha⟩
                obtain ⟨mb, hmb⟩ : ∃ m, ms[b]? = some m := ⟨_, List.getElem?_eq_getElem hb⟩
                have HMA := Lib.hid (HMK.out ma (List.mem_of_getElem? hma))
                have HMB := Lib.hid (HMK.out mb (List.mem_of_getElem? hmb))
                have hns : nS < n4 + 1 := by have := hR.hs; have := hR.h3; omega
                have HNA := Lib.hid (own_ne (hD.own ma (List.mem_of_getElem? hma)) hns)
                have HNB := Lib.hid (own_ne (hD.own mb (List.mem_of_getElem? hmb)) hns)
                have HHA := Lib.hid hma
                have HHB := Lib.hid hmb
                have HAB := Lib.hid hab
                clear hma hmb hab
                obtain ⟨i0, hi, hz0, hz1, hz2⟩ := info_parts info74
                go_upto_region 26 with fail
                have d0 : wc.cell? ⟨n4, 0, none⟩ = some (.slice om ms.length cm) := hR.b3.c 0 _ rfl
                have d1 : wc.cell? ⟨n4, 1, none⟩ = some (.slice oc cs.length cc) := hR.b3.c 1 _ rfl
                have f1 := hR.b3.f 1
                have l4 := hR.b3.lt
                have HR := Lib.hid (hR.bel (Below.refl _ _).drew)
                have HD := Lib.hid (hD.keep (Below.refl _ _).drew)
                clear hR hD
                go_region_law (first
                  | (go_simp
                     go_at_call 28
                     with_reducible refine (move_x om oc cm cc ms cs a ma _ nS os cap xs (by omega) HHA.out HMA.out HR.out.src (bx_team HR.out HD.out) HNA.out).mono ?_
                     rintro e V5 ⟨A, hA, hlA, rfl, hg, hS⟩
                     have HA1 := Lib.hid hA
                     have HA2 := Lib.hid hlA
                     have HR := Lib.hid (HR.out.call hg hS)
                     have HD := Lib.hid (HD.out.keepG hg hns)
                     have d0 : V5.cell? ⟨n4, 0, none⟩ = some (.slice om ms.length cm) := HR.out.b3.c 0 _ rfl
                     have d1 : V5.cell? ⟨n4, 1, none⟩ = some (.slice oc cs.length cc) := HR.out.b3.c 1 _ rfl
                     have f1 := HR.out.b3.f 1
                     have l4 := HR.out.b3.lt
                     clear hg hS hA hlA
                     try (
                       have hbb := HB1.out
                       have hqq := (Below.refl V5.heap.size V5).alloc (Nat.le_refl _) (.cells #[.int .i64 (A.arm : Nat), .int .i64 (A.x : Nat), .int .i64 (A.y : Nat), .int .i64 (B.arm : Nat), .int .i64 (B.x : Nat), .int .i64 (B.y : Nat)] 74)
                       have HQ := Lib.hid (HR.out.bel hqq)
                       have HDQ := Lib.hid (HD.out.keep hqq)
                       have HO2 : Hid (World.ownsRow _ _ _ _ _ cs.length _) := Lib.hid (by have := HQ.out.o2; rwa [List.length_map] at this)
                       clear hqq hbb
                      ))
                  | (go_simp
                     go_at_call 28
                     with_reducible refine (move_x om oc cm cc ms cs b mb _ nS os cap xs (by omega) HHB.out HMB.out HR.out.src (bx_team HR.out HD.out) HNB.out).mono ?_
                     rintro e V5 ⟨B, hB, hlB, rfl, hg, hS⟩
                     have HB1 := Lib.hid hB
                     have HB2 := Lib.hid hlB
                     have HR := Lib.hid (HR.out.call hg hS)
                     have HD := Lib.hid (HD.out.keepG hg hns)
                     have d0 : V5.cell? ⟨n4, 0, none⟩ = some (.slice om ms.length cm) := HR.out.b3.c 0 _ rfl
                     have d1 : V5.cell? ⟨n4, 1, none⟩ = some (.slice oc cs.length cc) := HR.out.b3.c 1 _ rfl
                     have f1 := HR.out.b3.f 1
                     have l4 := HR.out.b3.lt
                     clear hg hS hB hlB
                     try (
                       have hbb := HA1.out
                       have hqq := (Below.refl V5.heap.size V5).alloc (Nat.le_refl _) (.cells #[.int .i64 (A.arm : Nat), .int .i64 (A.x : Nat), .int .i64 (A.y : Nat), .int .i64 (B.arm : Nat), .int .i64 (B.x : Nat), .int .i64 (B.y : Nat)] 74)
                       have HQ := Lib.hid (HR.out.bel hqq)
                       have HDQ := Lib.hid (HD.out.keep hqq)
                       have HO2 : Hid (World.ownsRow _ _ _ _ _ cs.length _) := Lib.hid (by have := HQ.out.o2; rwa [List.length_map] at this)
                       clear hqq hbb
                      ))
                  | (have hxx := HQ; clear hxx
                     refine step_append_lies _ rfl (.tmp 102) (.tmp 112) 24 rfl (n4 + 1) 74 i0 _ 6 48 under24 hi hz0 hz1 hz2 rfl (by decide) (.slice oc cs.length cc) cs.length _ (by simp [Act.eval]) HO2.out ⟨V5.heap.size, 0, none⟩ 1 1 (Cf.vals ⟨A, B⟩) (by simp [Act.eval]) rfl (new_cells _ _ _) (Cf.one _) (by decide) (by unfold maxLen; have := HK.out; omega) (by have := HK.out; omega) HQ.out.hb _ rfl ?_
                     intro g c' W9 hown hgrow hat hlt9
                     have hB3 := HQ.out.b3.low (Nat.lt_succ_self _) (grown_below HQ.out.o2 hgrow HQ.out.hb)
                     have d19 := hB3.c 1 _ rfl
                     have f19 := hB3.f 1
                     have HO := Lib.hid hown
                     clear hown))
                all_goals
                  go_wp2_with fail
                  go_meet
                  exact ⟨⟨A, B⟩, _, ⟨by rw [HA1.out, HB1.out]; exact HAB.out, HA2.out, HB2.out⟩, appC HQ.out g c' HO.out hgrow (by simpa using hat), HDQ.out.keepQ (fun q hq hl _ h1 => HQ.out.far2 hgrow _ q hl h1 (by omega)) (fun q hq => .inl hq) (fun q hq => by
                    simp [Value.ownBlock] at hq
                    subst hq
                    rcases hat with h | h
                    · exact .inl h
                    · exact .inr (by simp at h ⊢; omega))⟩

            case rest =>
              clear hR hD
              obtain ⟨c, u', hc, hR, hD⟩ := hcut
              have HC := Lib.hid hc
              clear hc
              go_wp2
              go_roundw
              case rel =>
                refine ⟨cs ++ [c], k - 1, u', by simp; omega, by simp; have := HK.out; omega, fun d hd => ?_, hR, hD⟩
                rcases List.mem_append.1 hd with hd | hd
                · exact HCF.out d hd
                · simp at hd; subst hd; exact HC.out
              case measure => simp [intOf]; omega
          · have hm2 : decide ((1 : Int) < (ms.length : Int)) = false := decide_eq_false (by omega)
            clear hm1
            obtain ⟨oc, cc, rfl⟩ := own_slice hR.o2
            rw [List.length_map] at d1 hR hD
            have R2 := HR21.out.keepG hR.gr hr2
            have e0 := R2.c 0 _ rfl
            have e1 := R2.c 1 _ rfl
            have g0 := R2.f 0
            have g1 := R2.f 1
            have l2 := R2.lt
            have HRR := Lib.hid hR
            have HDD := Lib.hid hD
            clear hR hD
            have HTOK : Hid (TeamOk ⟨ms, cs⟩) := Lib.hid ⟨HML.out.1, by have := HML.out.2; show ms.length ≤ 4; omega, fun m hm => (HMK.out m hm).ok, by show cs.length ≤ 100; omega, HCF.out⟩
            go_wp2_with fail
            have hbl := grown_fresh HB1.out HRR.out.gr hnS
            have hn4 := HN4.out
            have hhs := HRR.out.hs
            have hh3 := HRR.out.h3
            have hq : ∀ q, n4 + 1 ≤ q → ((wr.setCell ⟨n2', 0, none⟩ (.slice om ms.length cm)).setCell ⟨n2', 1, none⟩ (.slice oc cs.length cc)).heap[q]? = wr.heap[q]? := fun q hq => set2_heap wr n2' _ _ q (by omega)
            have hDD : DoneM ((wr.setCell ⟨n2', 0, none⟩ (.slice om ms.length cm)).setCell ⟨n2', 1, none⟩ (.slice oc cs.length cc)) (n4 + 1) ms (.slice om ms.length cm) (.slice oc cs.length cc) := HDD.out.keepQ (fun q h1 _ _ _ => hq q h1) (fun _ h => .inl h) (fun _ h => .inl h)
            refine bodyPost_ret (v := .agg #[.slice om ms.length cm, .slice oc cs.length cc]) (by simp [results, Try.results9, go_sem, e0, e1]) rfl ⟨⟨ms, cs⟩, om, oc, cm, cc, n4 + 1, rfl, HTOK.out, HMK.out, team_own (own_blk HRR.out.o1 fun q _ _ h => hq q h) (own_blk HRR.out.o2 fun q _ _ h => hq q h) hDD, hDD, by omega, (hbl.setCell (p := ⟨n2', 0, none⟩) hod _).setCell (p := ⟨n2', 1, none⟩) hod _⟩
        · skip
          obtain ⟨oc, cc, rfl⟩ := own_slice hR.o2
          rw [List.length_map] at d1 hR hD
          have R2 := HR21.out.keepG hR.gr hr2
          have e0 := R2.c 0 _ rfl
          have e1 := R2.c 1 _ rfl
          have g0 := R2.f 0
          have g1 := R2.f 1
          have l2 := R2.lt
          have HRR := Lib.hid hR
          have HDD := Lib.hid hD
          clear hR hD
          have HTOK : Hid (TeamOk ⟨ms, cs⟩) := Lib.hid ⟨HML.out.1, by have := HML.out.2; show ms.length ≤ 4; omega, fun m hm => (HMK.out m hm).ok, by show cs.length ≤ 100; omega, HCF.out⟩
          go_wp2_with fail
          have hbl := grown_fresh HB1.out HRR.out.gr hnS
          have hn4 := HN4.out
          have hhs := HRR.out.hs
          have hh3 := HRR.out.h3
          have hq : ∀ q, n4 + 1 ≤ q → ((wr.setCell ⟨n2', 0, none⟩ (.slice om ms.length cm)).setCell ⟨n2', 1, none⟩ (.slice oc cs.length cc)).heap[q]? = wr.heap[q]? := fun q hq => set2_heap wr n2' _ _ q (by omega)
          have hDD : DoneM ((wr.setCell ⟨n2', 0, none⟩ (.slice om ms.length cm)).setCell ⟨n2', 1, none⟩ (.slice oc cs.length cc)) (n4 + 1) ms (.slice om ms.length cm) (.slice oc cs.length cc) := HDD.out.keepQ (fun q h1 _ _ _ => hq q h1) (fun _ h => .inl h) (fun _ h => .inl h)
          refine bodyPost_ret (v := .agg #[.slice om ms.length cm, .slice oc cs.length cc]) (by simp [results, Try.results9, go_sem, e0, e1]) rfl ⟨⟨ms, cs⟩, om, oc, cm, cc, n4 + 1, rfl, HTOK.out, HMK.out, team_own (own_blk HRR.out.o1 fun q _ _ h => hq q h) (own_blk HRR.out.o2 fun q _ _ h => hq q h) hDD, hDD, by omega, (hbl.setCell (p := ⟨n2', 0, none⟩) hod _).setCell (p := ⟨n2', 1, none⟩) hod _⟩
end Go.Proofs.Jn
end

section
/-
  Walks: JointMoves.
-/
namespace Go.Proofs.Jn
open Go.RowKit Go.Shelf

def ofE (e : Ed) : Er := ⟨e.u, e.v, e.c, e.st, e.k0, e.s1, e.k2, e.k3, e.s4, e.k5, e.s6, e.s7⟩
def ofM (m : Mp) : Rm := ⟨m.n, m.op, m.cp, m.oe, m.ce, m.es.map ofE⟩
def ofV (m : Mv) : Rv := ⟨m.arm, m.x, m.y⟩
def ofC (c : Cf) : Rc := ⟨ofV c.a, ofV c.b⟩
theorem ofM_all {ms : List Mp} {P : Rm → Prop} (h : ∀ m ∈ ms, P (ofM m)) : ∀ m ∈ ms.map ofM, P m := fun m hm => by
  obtain ⟨m0, h0, rfl⟩ := List.mem_map.1 hm
  exact h m0 h0
theorem raw_of {W : World} {om oc : Option Addr} {T : Tm} (h : TeamAt W om oc T) : RawAt W om oc (T.ms.map ofM) (T.cs.map ofC) := by
  have e1 : (T.ms.map ofM).map Rm.vals = T.ms.map Mp.vals := by
    rw [List.map_map]
    exact List.map_congr_left fun m _ => by simp [ofM, Mp.vals, Rm.vals]
  have e2 : (T.cs.map ofC).map Rc.vals = T.cs.map Cf.vals := by
    rw [List.map_map]
    exact List.map_congr_left fun c _ => rfl
  refine ⟨by rw [e1]; exact h.ms, by rw [e2]; exact h.cs, ofM_all fun m hm => ?_⟩
  have e3 : (ofM m).es.map Er.vals = m.es.map Ed.vals := by
    unfold ofM
    rw [List.map_map]
    exact List.map_congr_left fun e _ => rfl
  rw [e3]
  exact h.es m hm
theorem small_of {T : Tm} (hO : TeamOk T) : SmallR (T.ms.map ofM) (T.cs.map ofC) :=
  ⟨by simpa using hO.n2, by simpa using hO.cn, ofM_all fun m hm => (hO.mo m hm).n2, ofM_all fun m hm => by simpa [ofM] using (hO.mo m hm).len⟩
/-- Both lists of moves, for a team that was made. -/
theorem both_made {T : Tm} (hO : TeamOk T) (hmk : ∀ m ∈ T.ms, MadeM m) (xs : List Int) (hxl : xs.length ≤ 100) :
    ∃ L : List (List Nat), (L.length ≤ 1000000000000 ∧ ∀ l ∈ L, l.length ≤ 100) ∧ ∀ (om oc oa : Option Addr) (cm cc ca : Nat) (X : World), TeamAt X om oc T → Sl X oa 1 (pvals xs) →
      Calls Try.prog 21 #[.agg #[.slice om T.ms.length cm, .slice oc T.cs.length cc], .slice oa xs.length ca] X (MovP L X) ∧ Calls Try.prog 15 #[.agg #[.slice om T.ms.length cm, .slice oc T.cs.length cc], .slice oa xs.length ca] X (MovP L X) := by
  obtain ⟨L, h1, h2⟩ := both_raw (T.ms.map ofM) (T.cs.map ofC) xs (small_of hO) (ofM_all fun m hm => by have := (hmk m hm).n6; simp [ofM]; omega) hxl
  rw [List.length_map, List.length_map] at h2
  exact ⟨L, h1, fun om oc oa cm cc ca X hT hA => h2 om oc oa cm cc ca X (raw_of hT) hA⟩
theorem nvals_p (vs : List Nat) : nvals vs = pvals (vs.map fun (v : Nat) => (v : Int)) := by
  unfold nvals pvals
  rw [List.map_map]
  rfl
set_option maxRecDepth 100000 in
set_option maxHeartbeats 4000000 in
theorem jmoves_any (om oc oa o3 o4 : Option Addr) (cm cc ca c3 c4 : Nat) (ms : List Rm) (cs : List Rc) (xs ys zs : List Int) (w : World) (hT : RawAt w om oc ms cs) (hA : Sl w oa 1 (pvals xs)) (h3 : Sl w o3 1 (pvals ys)) (h4 : Sl w o4 1 (pvals zs))
    (lm : ms.length ≤ 9223372036854775807) (lc : cs.length ≤ 9223372036854775807) (lx : xs.length ≤ 9223372036854775807) (ly : ys.length ≤ 9223372036854775807) (lz : zs.length ≤ 9223372036854775807) :
    Calls Try.prog 7 #[.agg #[.slice om ms.length cm, .slice oc cs.length cc], .slice oa xs.length ca, .slice o3 ys.length c3, .slice o4 zs.length c4] w fun e w' => e = .returned (.bool true) ∧ Below w.heap.size w w' := by
  go_enter Try.func7, Try.ntmps7
  go_upto_region 1 with fail
  have hbx_ := boxes1 w [.slice om ms.length cm, .slice oc cs.length cc] 26
  replace hT := hT.keep hbx_.2
  replace hA := hA.keep hbx_.2
  replace h3 := h3.keep hbx_.2
  replace h4 := h4.keep hbx_.2
  have HB := Lib.hid (hbx_.2)
  generalize w.alloc (.cells #[.slice om ms.length cm, .slice oc cs.length cc] 26) = W0 at hbx_ hT hA h3 h4 HB ⊢
  obtain ⟨r4, hbel_⟩ := hbx_
  obtain ⟨n4, hn_⟩ : ∃ n, n = w.heap.size := ⟨_, rfl⟩
  rw [← hn_] at r4 ⊢
  clear hn_ hbel_
  have HT := Lib.hid hT
  have HA := Lib.hid hA
  have H3 := Lib.hid h3
  have H4 := Lib.hid h4
  have HR4 := Lib.hid r4
  have a0 : W0.cell? ⟨n4, 0, none⟩ = some (.slice om ms.length cm) := r4.c 0 _ rfl
  have a1 : W0.cell? ⟨n4, 1, none⟩ = some (.slice oc cs.length cc) := r4.c 1 _ rfl
  have l4 := r4.lt
  have HSM := Lib.hid (small_any om oc cm cc ms cs W0 lm lc hT.rm)
  clear hT hA h3 h4 r4
  go_wp2_with fail
  with_reducible refine HSM.out.mono ?_
  rintro e X ⟨b, rfl, hbi, hb⟩
  have HX := Lib.hid hb
  clear a0 a1 l4 hb HSM
  cases b with
  | false =>
    clear hbi
    go_wp2_with fail
    with_reducible refine (Try.awake _).mono ?_
    rintro e Y ⟨rfl, hb⟩
    have HY := Lib.hid (below_call HX.out hb)
    clear hb
    go_wp2_with fail
    go_ret
    exact ⟨rfl, below_call HB.out HY.out⟩
  | true =>
    have HTY := Lib.hid (hbi.1 rfl)
    clear hbi
    by_cases hx : xs.length > 10
    · have d1 : decide ((xs.length : Int) > 10) = true := decide_eq_true (by omega)
      clear hx
      go_wp2_with fail
      with_reducible refine (Try.awake _).mono ?_
      rintro e Y ⟨rfl, hb⟩
      have HY := Lib.hid (below_call HX.out hb)
      clear hb
      go_wp2_with fail
      go_ret
      exact ⟨rfl, below_call HB.out HY.out⟩
    · have d1 : decide ((xs.length : Int) > 10) = false := decide_eq_false (by omega)
      have hx10 : xs.length ≤ 10 := by omega
      have HTM := Lib.hid (team_any o3 c3 ys X (H3.out.keep HX.out) ly)
      clear hx
      go_wp2_with fail
      with_reducible refine HTM.out.mono ?_
      rintro e W1 ⟨T, om', oc', cm', cc', base, rfl, hO, hmk, hT', -, -, hb⟩
      unfold Tm.val
      have HB1 := Lib.hid (below_call HX.out hb)
      have HO := Lib.hid hO
      have HMK := Lib.hid hmk
      clear hb hO hmk HTM d1
      go_upto_region 4 with fail
      have hbx_ := boxes1 W1 [.slice om' T.ms.length cm', .slice oc' T.cs.length cc'] 26
      replace hT' := hT'.keep hbx_.2
      have HB4 := Lib.hid (below_call HB1.out (hbx_.2))
      generalize W1.alloc (.cells #[.slice om' T.ms.length cm', .slice oc' T.cs.length cc'] 26) = W4 at hbx_ hT' HB4 ⊢
      obtain ⟨r9, hbel_⟩ := hbx_
      obtain ⟨n9, hn_⟩ : ∃ n, n = W1.heap.size := ⟨_, rfl⟩
      rw [← hn_] at r9 ⊢
      clear hn_ hbel_
      have r4 := HR4.out.keep HB4.out
      have l4 := r4.lt
      have l9 := r9.lt
      obtain ⟨L1, hL1, hB1⟩ := both_raw ms cs xs HTY.out.small (fun m hm => by
        obtain ⟨j, hj⟩ := List.mem_iff_getElem?.1 hm
        have := (HTY.out.all j m hj).2; omega) (by omega)
      obtain ⟨L2, hL2, hB2⟩ := both_made HO.out HMK.out ((vertsTo T zs T.ms.length).map fun (v : Nat) => (v : Int)) (by have := HO.out.n2; simp [vertsTo]; omega)
      obtain ⟨L3, hL3, hB3⟩ := both_made HO.out HMK.out xs (by omega)
      rw [← nvals_p, List.length_map] at hB2
      have hTr : ∀ Y, Below W4.heap.size W4 Y → RawAt Y om oc ms cs := fun Y hY => HT.out.keep (below_call HB4.out hY)
      have hAr : ∀ Y, Below W4.heap.size W4 Y → Sl Y oa 1 (pvals xs) := fun Y hY => HA.out.keep (below_call HB4.out hY)
      have HH1 := Lib.hid fun (Y : World) (hY : Below W4.heap.size W4 Y) => (hB1 om oc oa cm cc ca Y (hTr Y hY) (hAr Y hY)).1
      have HG1 := Lib.hid fun (Y : World) (hY : Below W4.heap.size W4 Y) => (hB1 om oc oa cm cc ca Y (hTr Y hY) (hAr Y hY)).2
      have HH2 := Lib.hid fun (Y : World) (ov : Option Addr) (cv : Nat) (hY : Below W4.heap.size W4 Y) (hv : Sl Y ov 1 (nvals (vertsTo T zs T.ms.length))) => (hB2 om' oc' ov cm' cc' cv Y (hT'.keep hY) hv).1
      have HG2 := Lib.hid fun (Y : World) (ov : Option Addr) (cv : Nat) (hY : Below W4.heap.size W4 Y) (hv : Sl Y ov 1 (nvals (vertsTo T zs T.ms.length))) => (hB2 om' oc' ov cm' cc' cv Y (hT'.keep hY) hv).2
      have HH3 := Lib.hid fun (Y : World) (hY : Below W4.heap.size W4 Y) => (hB3 om' oc' oa cm' cc' ca Y (hT'.keep hY) (hAr Y hY)).1
      have HG3 := Lib.hid fun (Y : World) (hY : Below W4.heap.size W4 Y) => (hB3 om' oc' oa cm' cc' ca Y (hT'.keep hY) (hAr Y hY)).2
      have HV : Hid (∀ (Y : World), Below W4.heap.size W4 Y → Calls Try.prog 10 #[.agg #[.slice om' T.ms.length cm', .slice oc' T.cs.length cc'], .slice o4 zs.length c4] Y fun e W => ∃ (ov : Option Addr) (cv : Nat), e = .returned (.slice ov (vertsTo T zs T.ms.length).length cv) ∧ Sl W ov 1 (nvals (vertsTo T zs T.ms.length)) ∧ Below Y.heap.size Y W ∧ ∀ a, ov = some a → Y.heap.size ≤ a.block) := Lib.hid fun (Y : World) (hY : Below W4.heap.size W4 Y) => verts_fun om' oc' o4 cm' cc' c4 T zs Y HO.out (hT'.keep hY) (H4.out.keep (below_call HB4.out hY)) lz
      have HS1 := Lib.hid hL1
      have HS2 := Lib.hid hL2
      have HS3 := Lib.hid hL3
      have hmk : ∀ Y, Below W4.heap.size W4 Y → Y.cell? ⟨n4, 0, none⟩ = some (.slice om ms.length cm) ∧ Y.cell? ⟨n4, 1, none⟩ = some (.slice oc cs.length cc) ∧ Y.cell? ⟨n9, 0, none⟩ = some (.slice om' T.ms.length cm') ∧ Y.cell? ⟨n9, 1, none⟩ = some (.slice oc' T.cs.length cc') ∧ Below W4.heap.size W4 Y := fun Y hY => ⟨(r4.keep hY).c 0 _ rfl, (r4.keep hY).c 1 _ rfl, (r9.keep hY).c 0 _ rfl, (r9.keep hY).c 1 _ rfl, hY⟩
      have hS := hmk W4 (Below.refl _ _)
      have HMK2 := Lib.hid hmk
      clear hL1 hL2 hL3 hB1 hB2 hB3 hTr hAr hT' hmk r4 r9
      generalize vertsTo T zs T.ms.length = vs at HH2 HG2 HV
      go_region_held3 (fun X => X.cell? ⟨n4, 0, none⟩ = some (.slice om ms.length cm) ∧ X.cell? ⟨n4, 1, none⟩ = some (.slice oc cs.length cc) ∧ X.cell? ⟨n9, 0, none⟩ = some (.slice om' T.ms.length cm') ∧ X.cell? ⟨n9, 1, none⟩ = some (.slice oc' T.cs.length cc') ∧ Below W4.heap.size W4 X)
        (first
          | assumption
          | exact hS
          | exact HMK2.out _ (by assumption : _ ∧ _ ∧ _ ∧ _ ∧ Below W4.heap.size W4 _).2.2.2.2.drew)
        (first
          | (go_at_call 13
             with_reducible refine (Try.awake _).mono ?_
             rintro e X0 ⟨rfl, hb0⟩
             have hS0 := HMK2.out _ (below_call (by assumption : _ ∧ _ ∧ _ ∧ _ ∧ Below W4.heap.size W4 _).2.2.2.2 hb0)
             clear hb0)
          | (have hxx := HL11; clear hxx
             go_at_call 20
             with_reducible refine (sameLists_any ol11 ol12 cl11 cl12 L3 X12 HS3.out.1 HS3.out.2 HL11b.out HL12.out).mono ?_
             rintro e X13 ⟨rfl, hb13⟩
             have hS13 := HMK2.out _ (below_call (by assumption : _ ∧ _ ∧ _ ∧ _ ∧ Below W4.heap.size W4 _).2.2.2.2 hb13)
             clear hb13)
          | (have hxx := HL11; clear hxx
             go_at_call 15
             with_reducible refine (HG3.out X11 hS11.2.2.2.2).mono ?_
             rintro e X12 ⟨ol12, cl12, rfl, hl12, hb12⟩
             have hS12 := HMK2.out _ (below_call (by assumption : _ ∧ _ ∧ _ ∧ _ ∧ Below W4.heap.size W4 _).2.2.2.2 hb12)
             have HL11b := Lib.hid (HL11.out.keep hb12)
             have HL12 := Lib.hid hl12
             clear hl12 hb12)
          | (have hxx := HL7; clear hxx
             go_at_call 20
             with_reducible refine (sameLists_any ol5 ol7 cl5 cl7 L2 X7 HS2.out.1 HS2.out.2 HL5c.out HL7.out).mono ?_
             rintro e X8 ⟨rfl, hb8⟩
             have hS8 := HMK2.out _ (below_call (by assumption : _ ∧ _ ∧ _ ∧ _ ∧ Below W4.heap.size W4 _).2.2.2.2 hb8)
             have hEN8 : True := trivial
             clear hb8)
          | (have hxx := hEN8; clear hxx
             go_at_call 21
             with_reducible refine (HH3.out _ (by assumption : _ ∧ _ ∧ _ ∧ _ ∧ Below W4.heap.size W4 _).2.2.2.2).mono ?_
             rintro e X11 ⟨ol11, cl11, rfl, hl11, hb11⟩
             have hS11 := HMK2.out _ (below_call (by assumption : _ ∧ _ ∧ _ ∧ _ ∧ Below W4.heap.size W4 _).2.2.2.2 hb11)
             have HL11 := Lib.hid hl11
             clear hl11 hb11)
          | (have hxx := HSV6; clear hxx
             go_at_call 15
             with_reducible refine (HG2.out X6 ov6 cv6 hS6.2.2.2.2 HSV6.out).mono ?_
             rintro e X7 ⟨ol7, cl7, rfl, hl7, hb7⟩
             have hS7 := HMK2.out _ (below_call (by assumption : _ ∧ _ ∧ _ ∧ _ ∧ Below W4.heap.size W4 _).2.2.2.2 hb7)
             have HL5c := Lib.hid (HL5b.out.keep hb7)
             have HL7 := Lib.hid hl7
             clear hl7 hb7)
          | (have hxx := HL5; clear hxx
             go_at_call 10
             with_reducible refine (HV.out _ (by assumption : _ ∧ _ ∧ _ ∧ _ ∧ Below W4.heap.size W4 _).2.2.2.2).mono ?_
             rintro e X6 ⟨ov6, cv6, rfl, hsv6, hb6, -⟩
             have hS6 := HMK2.out _ (below_call (by assumption : _ ∧ _ ∧ _ ∧ _ ∧ Below W4.heap.size W4 _).2.2.2.2 hb6)
             have HL5b := Lib.hid (HL5.out.keep hb6)
             have HSV6 := Lib.hid hsv6
             clear hsv6 hb6)
          | (have hxx := HSV4; clear hxx
             go_at_call 21
             with_reducible refine (HH2.out X4 ov4 cv4 hS4.2.2.2.2 HSV4.out).mono ?_
             rintro e X5 ⟨ol5, cl5, rfl, hl5, hb5⟩
             have hS5 := HMK2.out _ (below_call (by assumption : _ ∧ _ ∧ _ ∧ _ ∧ Below W4.heap.size W4 _).2.2.2.2 hb5)
             have HL5 := Lib.hid hl5
             clear hl5 hb5)
          | (have hxx := hEN3; clear hxx
             go_at_call 10
             with_reducible refine (HV.out _ (by assumption : _ ∧ _ ∧ _ ∧ _ ∧ Below W4.heap.size W4 _).2.2.2.2).mono ?_
             rintro e X4 ⟨ov4, cv4, rfl, hsv4, hb4, -⟩
             have hS4 := HMK2.out _ (below_call (by assumption : _ ∧ _ ∧ _ ∧ _ ∧ Below W4.heap.size W4 _).2.2.2.2 hb4)
             have HSV4 := Lib.hid hsv4
             clear hsv4 hb4)
          | (have hxx := HL2; clear hxx
             go_at_call 20
             with_reducible refine (sameLists_any ol1 ol2 cl1 cl2 L1 X2 HS1.out.1 HS1.out.2 HL1b.out HL2.out).mono ?_
             rintro e X3 ⟨rfl, hb3⟩
             have hS3 := HMK2.out _ (below_call (by assumption : _ ∧ _ ∧ _ ∧ _ ∧ Below W4.heap.size W4 _).2.2.2.2 hb3)
             have hEN3 : True := trivial
             clear hb3)
          | (have hxx := HL1; clear hxx
             go_at_call 15
             with_reducible refine (HG1.out _ (by assumption : _ ∧ _ ∧ _ ∧ _ ∧ Below W4.heap.size W4 _).2.2.2.2).mono ?_
             rintro e X2 ⟨ol2, cl2, rfl, hl2, hb2⟩
             have hS2 := HMK2.out _ (below_call (by assumption : _ ∧ _ ∧ _ ∧ _ ∧ Below W4.heap.size W4 _).2.2.2.2 hb2)
             have HL1b := Lib.hid (HL1.out.keep hb2)
             have HL2 := Lib.hid hl2
             clear hl2 hb2)
          | (go_at_call 21
             with_reducible refine (HH1.out _ (by assumption : _ ∧ _ ∧ _ ∧ _ ∧ Below W4.heap.size W4 _).2.2.2.2).mono ?_
             rintro e X1 ⟨ol1, cl1, rfl, hl1, hb1⟩
             have hS1 := HMK2.out _ (below_call (by assumption : _ ∧ _ ∧ _ ∧ _ ∧ Below W4.heap.size W4 _).2.2.2.2 hb1)
             have HL1 := Lib.hid hl1
             clear hl1 hb1))
      all_goals
        have HEND := Lib.hid (below_call HB.out (below_call HB4.out hS13.2.2.2.2))
        clear hS hS0 hS1 hS2 hS3 hS4 hS5 hS6 hS7 hS8 hS11 hS12 hS13
        go_wp2_with fail
        go_ret
        exact ⟨rfl, HEND.out⟩
end Go.Proofs.Jn
end

