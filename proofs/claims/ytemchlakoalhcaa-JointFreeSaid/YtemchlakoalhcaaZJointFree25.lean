/-
  Texts put together: Ce Gd.
-/
import Derived.Test.YtemchlakoalhcaaZJointFree13
import Derived.Test.YtemchlakoalhcaaZJointFree23
set_option linter.unusedVariables false
section
/-
  Walks: the maker's Team.
-/
namespace Go.Proofs.Jn
open Go.RowKit

/-- What Team answers. -/
def TeamE (w : World) (e : Ending) (W : World) : Prop := ∃ (T : Tm) (om oc : Option Addr) (cm cc base : Nat), e = .returned (T.val om oc cm cc) ∧ TeamOk T ∧ (∀ m ∈ T.ms, MadeM m) ∧ TeamAt W om oc T ∧ DoneM W base T.ms (.slice om T.ms.length cm) (.slice oc T.cs.length cc) ∧ w.heap.size ≤ base ∧ Below w.heap.size w W

theorem appE {w W W1 : World} {nS n3 : Nat} {os : Option Addr} {cap : Nat} {xs : List Int} {e1 s1 e2 s2 : Nat} {r1 : List (List Value)} {es : List Ed} {d : Ed} {v u : Value} (h : Bx2 w nS n3 os cap xs e1 s1 e2 s2 r1 (es.map Ed.vals) v u W) (g c : Nat)
    (ho : W1.ownsRow (n3 + 1) e2 s2 (.slice (some ⟨g, 0, none⟩) (es.length + 1) c) (es.length + 1) ((es.map Ed.vals).flatten ++ d.vals)) (hg : W.grownBy W1 u.ownBlock) (ha : u.ownBlock = some g ∨ g = W.heap.size) :
    Bx2 w nS n3 os cap xs e1 s1 e2 s2 r1 ((es ++ [d]).map Ed.vals) v (.slice (some ⟨g, 0, none⟩) (es.length + 1) c) (W1.setCell ⟨n3, 1, none⟩ (.slice (some ⟨g, 0, none⟩) (es.length + 1) c)) := by
  have := h.app2 d.vals g c (by rw [List.length_map]; exact ho) hg ha
  rw [List.length_map] at this
  rw [List.map_append]
  exact this
theorem appC {w W W1 : World} {nS n3 : Nat} {os : Option Addr} {cap : Nat} {xs : List Int} {e1 s1 e2 s2 : Nat} {r1 : List (List Value)} {es : List Cf} {d : Cf} {v u : Value} (h : Bx2 w nS n3 os cap xs e1 s1 e2 s2 r1 (es.map Cf.vals) v u W) (g c : Nat)
    (ho : W1.ownsRow (n3 + 1) e2 s2 (.slice (some ⟨g, 0, none⟩) (es.length + 1) c) (es.length + 1) ((es.map Cf.vals).flatten ++ d.vals)) (hg : W.grownBy W1 u.ownBlock) (ha : u.ownBlock = some g ∨ g = W.heap.size) :
    Bx2 w nS n3 os cap xs e1 s1 e2 s2 r1 ((es ++ [d]).map Cf.vals) v (.slice (some ⟨g, 0, none⟩) (es.length + 1) c) (W1.setCell ⟨n3, 1, none⟩ (.slice (some ⟨g, 0, none⟩) (es.length + 1) c)) := by
  have := h.app2 d.vals g c (by rw [List.length_map]; exact ho) hg ha
  rw [List.length_map] at this
  rw [List.map_append]
  exact this
theorem other_arm (a q L : Nat) (ha : a < L) (hq : q + 1 < L) : ((a : Int) + 1 + q).tmod L = (((a + 1 + q) % L : Nat) : Int) ∧ (a + 1 + q) % L < L ∧ a ≠ (a + 1 + q) % L := by
  refine ⟨?_, Nat.mod_lt _ (by omega), ?_⟩
  · rw [Int.tmod_eq_emod_of_nonneg (by omega), Int.natCast_emod]; congr 1
  · rcases Nat.lt_or_ge (a + 1 + q) L with h | h
    · rw [Nat.mod_eq_of_lt h]; omega
    · rw [Nat.mod_eq_sub_mod h, Nat.mod_eq_of_lt (by omega)]; omega
theorem own_ne {W : World} {base size n cap nS m : Nat} {e : TypeId} {oa : Option Addr} {xs : List Value} (h : W.ownsRow base e size (.slice oa n cap) m xs) (hn : nS < base) : ∀ b o s, oa = some ⟨b, o, s⟩ → b ≠ nS := fun b o s he => by
  have := own_fresh h _ he
  simp at this; omega
theorem own_sl {W : World} {base : Nat} {e : TypeId} {n cap : Nat} {oa : Option Addr} {rows : List (List Value)} (hn : ∀ r ∈ rows, r.length = n) (h : W.ownsRow base e n (.slice oa rows.length cap) rows.length rows.flatten) : Sl W oa n rows := by
  obtain ⟨oa', cap', hv, hs⟩ := own_rows hn h
  injection hv with h1
  rw [h1]; exact hs
theorem mp_len (ms : List Mp) : ∀ r ∈ ms.map Mp.vals, r.length = 2 := by
  intro r hr; simp at hr; obtain ⟨a, _, rfl⟩ := hr; rfl
theorem cf_len (cs : List Cf) : ∀ r ∈ cs.map Cf.vals, r.length = 6 := by
  intro r hr; simp at hr; obtain ⟨a, _, rfl⟩ := hr; rfl
theorem ed_len (es : List Ed) : ∀ r ∈ es.map Ed.vals, r.length = 12 := by
  intro r hr; simp at hr; obtain ⟨a, _, rfl⟩ := hr; rfl
theorem team_own {W : World} {b1 b2 b : Nat} {om oc : Option Addr} {cm cc : Nat} {ms : List Mp} {cs : List Cf} {v u : Value} (h1 : W.ownsRow b1 43 2 (.slice om ms.length cm) (ms.map Mp.vals).length (ms.map Mp.vals).flatten) (h2 : W.ownsRow b2 74 6 (.slice oc cs.length cc) (cs.map Cf.vals).length (cs.map Cf.vals).flatten) (hD : DoneM W b ms v u) : TeamAt W om oc ⟨ms, cs⟩ :=
  ⟨own_sl (mp_len ms) (by rw [List.length_map] at h1 ⊢; exact h1), own_sl (cf_len cs) (by rw [List.length_map] at h2 ⊢; exact h2), fun m hm => own_sl (ed_len m.es) (by have := hD.own m hm; rw [List.length_map]; exact this)⟩
theorem bx_team {w W : World} {nS n4 b : Nat} {os om oc : Option Addr} {cap cm cc : Nat} {xs : List Int} {ms : List Mp} {cs : List Cf} {v u : Value} (h : Bx2 w nS n4 os cap xs 43 2 74 6 (ms.map Mp.vals) (cs.map Cf.vals) (.slice om ms.length cm) (.slice oc cs.length cc) W) (hD : DoneM W b ms v u) : TeamAt W om oc ⟨ms, cs⟩ :=
  team_own h.o1 h.o2 hD
theorem move_x (om oc : Option Addr) (cm cc : Nat) (ms : List Mp) (cs : List Cf) (k : Nat) (m : Mp) (W : World) (nS : Nat) (os : Option Addr) (cap : Nat) (xs : List Int) (hl : ms.length ≤ 100) (hm : ms[k]? = some m) (ho : MadeM m) (hS : Src W nS os cap xs) (hT : TeamAt W om oc ⟨ms, cs⟩) (hne : ∀ b o s, m.oe = some ⟨b, o, s⟩ → b ≠ nS) :
    Calls Try.prog 28 #[.pointer (some ⟨nS, 0, none⟩), .agg #[.slice om ms.length cm, .slice oc cs.length cc], .int .i64 (k : Nat)] W (MoveE ⟨ms, cs⟩ k W nS os cap xs) :=
  move_any om oc cm cc ⟨ms, cs⟩ k m W nS os cap xs hl hm ho.ok ho.st hS hT hS.ints hne
theorem set2_heap (W : World) (n : Nat) (x y : Value) (q : Nat) (h : q ≠ n) : ((W.setCell ⟨n, 0, none⟩ x).setCell ⟨n, 1, none⟩ y).heap[q]? = W.heap[q]? :=
  (Below.heap_setCell _ ⟨n, 1, none⟩ _ q h).trans (Below.heap_setCell W ⟨n, 0, none⟩ _ q h)
set_option maxRecDepth 100000 in
set_option maxHeartbeats 4000000 in
theorem team_any (os : Option Addr) (cap : Nat) (xs : List Int) (w : World) (hX : Sl w os 1 (pvals xs)) (hxl : xs.length ≤ 9223372036854775807) :
    Calls Try.prog 9 #[.slice os xs.length cap] w (TeamE w) := by
  go_enter Try.func9, Try.ntmps9
  go_upto_region 1 with fail
  have hbx_ := blks1 w [.slice none 0 0, .slice none 0 0] 26
  replace hX := hX.keep hbx_.2
  have HB := Lib.hid (hbx_.2)
  have hod : w.heap.size ≤ w.heap.size := by omega
  generalize w.alloc (.cells #[.slice none 0 0, .slice none 0 0] 26) = W0 at hbx_ hX HB ⊢
  obtain ⟨r2, hbel_⟩ := hbx_
  obtain ⟨n2', hn_⟩ : ∃ n, n = w.heap.size := ⟨_, rfl⟩
  rw [← hn_] at r2 ⊢
  replace hod := Nat.le_of_eq hn_.symm
  clear hn_ hbel_
  go_wp2_with (refine (from_any os cap xs.length W0).mono ?_)
  rintro e W1 ⟨rfl, rfl⟩
  have hbA : Below W0.heap.size W0 (W0.alloc (.cells #[.slice os xs.length cap, .int .i64 0] 116)) := (Below.refl _ _).alloc (Nat.le_refl _) _
  have hC2 := Cells2.new W0 (.slice os xs.length cap) (.int .i64 0) 116
  have hl2 := r2.lt
  replace r2 := r2.keep hbA
  have hX1 := hX.keep hbA
  have hoff : pvals xs ≠ [] → ∀ b o s, os = some ⟨b, o, s⟩ → b ≠ W0.heap.size := fun h b o s he => by
    obtain ⟨b', off', e1, hr⟩ := hX h
    rw [he] at e1; injection e1 with e1; injection e1 with e1 _ _
    have := hr.lt; omega
  have hS : Src (W0.alloc (.cells #[.slice os xs.length cap, .int .i64 0] 116)) W0.heap.size os cap xs := ⟨⟨0, by omega, hC2⟩, hX1, fun h => hoff (fun h0 => h (by simpa [pvals] using h0)), hxl⟩
  have HB1 := Lib.hid (below_call HB.out hbA)
  have hnS : w.heap.size ≤ W0.heap.size := HB.out.size
  clear hbA hC2 hX HB hoff
  have hsz : (W0.alloc (.cells #[.slice os xs.length cap, .int .i64 0] 116)).heap.size = W0.heap.size + 1 := by simp
  generalize W0.alloc (.cells #[.slice os xs.length cap, .int .i64 0] 116) = W1 at *
  generalize W0.heap.size = nS at *
  have hr2 : n2' ≠ nS := by omega
  have HSZ := Lib.hid hsz
  have HR21 := Lib.hid r2
  clear hX1 hsz
  go_upto_region 3 with fail
  have hR := Bx2.new W1 nS os cap xs 43 2 74 6 26 hS
  have hbA : Below W1.heap.size W1 (W1.alloc (.cells #[.slice none 0 0, .slice none 0 0] 26)) := (Below.refl _ _).alloc (Nat.le_refl _) _
  replace r2 := r2.keep hbA
  clear hS hbA
  generalize W1.alloc (.cells #[.slice none 0 0, .slice none 0 0] 26) = W2 at hR r2 ⊢
  generalize hn4 : W1.heap.size = n4 at hR ⊢
  have HN4 := Lib.hid hn4
  go_wp2_with fail
  refine (next_any _ nS os cap xs 3 hR.src (by omega) (by omega)).mono ?_
  rintro e W3 ⟨r, r0, r1, rfl, hg, hS, -⟩
  obtain ⟨r, rfl, hr3⟩ := nat_int (n := 3) r0 r1
  replace hR := hR.call hg hS
  replace r2 := r2.keepG hg hr2
  clear hg hS r0 r1 hn4
  have HR2 := Lib.hid r2
  go_wp2_with fail
  go_loopw [5] (fun i W => ∃ (ms : List Mp) (j : Nat) (v : Value), i = .int .i64 (j : Nat) ∧ ms.length + j = 1 + r ∧ (∀ m ∈ ms, MadeM m) ∧ Bx2 W1 nS n4 os cap xs 43 2 74 6 (ms.map Mp.vals) [] v (.slice none 0 0) W ∧ DoneM W (n4 + 1) ms v (.slice none 0 0)) (fun i _ => (intOf i).toNat)
  case atStart => exact ⟨[], 1 + r, .slice none 0 0, by simp, by simp, by simp, hR, ⟨by simp, by simp, by simp⟩⟩
  case round =>
    clear hR
    obtain ⟨ms, j, v, rfl, hj, hmk, hR, hD⟩ := hrel
    have HMK := Lib.hid hmk
    clear hmk
    by_cases hj0 : 0 < j
    · obtain ⟨Wb, rfl⟩ : ∃ X, X = wr := ⟨_, rfl⟩
      go_wp2_with fail
      have hM := Bx2.new Wb nS os cap xs 48 1 54 12 43 hR.src
      have HR := Lib.hid hR
      have HD := Lib.hid hD
      clear hR hD
      generalize Wb.alloc (.cells #[.slice none 0 0, .slice none 0 0] 43) = V1 at hM ⊢
      generalize hn6 : Wb.heap.size = n6 at hM ⊢
      have HN6 := Lib.hid hn6
      refine (next_any _ nS os cap xs 3 hM.src (by omega) (by omega)).mono ?_
      rintro e V2 ⟨q, q0, q1, rfl, hg, hS, -⟩
      obtain ⟨q, rfl, hq3⟩ := nat_int (n := 3) q0 q1
      replace hM := hM.call hg hS
      clear hg hS q0 q1 hn6
      go_wp2_with fail
      obtain ⟨kk, hkk⟩ : ∃ kk : Nat, kk = 2 + q := ⟨_, rfl⟩
      have hkk' : (2 : Int) + (q : Int) = (kk : Int) := by omega
      have hk2 : 2 ≤ kk ∧ kk ≤ 4 := by omega
      rw [hkk']
      clear hkk hkk' hq3
      go_loopw [8] (fun i W => ∃ (r1 : List (List Value)) (vP : Value), i = .int .i64 (r1.length : Nat) ∧ r1.length ≤ kk ∧ Bx2 Wb nS n6 os cap xs 48 1 54 12 r1 [] vP (.slice none 0 0) W) (fun i _ => kk - (intOf i).toNat)
      case atStart => exact ⟨[], _, rfl, by simp, hM⟩
      case round =>
        clear hM
        obtain ⟨r1, vP, rfl, hkl, hM⟩ := hrel
        by_cases hlt : r1.length < kk
        · have c0 := hM.b3.c 0 _ rfl
          have f0 := hM.b3.f 0
          have l6 := hM.b3.lt
          obtain ⟨i0, hi, hz0, hz1, hz2⟩ := info_parts info48
          have hB := ((Below.refl wr.heap.size wr).alloc (Nat.le_refl _) (.cells #[.int .i64 (r1.length : Nat)] 2)).alloc (by simp) (.cells #[.slice (some ⟨wr.heap.size, 0, none⟩) 1 1] 48)
          have HC := Lib.hid (hM.bel hB)
          have hcc := new_cells (wr.alloc (.cells #[.int .i64 (r1.length : Nat)] 2)) [.slice (some ⟨wr.heap.size, 0, none⟩) 1 1] 48
          have HCC := Lib.hid hcc
          clear hcc hB
          go_wp2_with (at_builtin; go_loud (refine wpList_append_lies _ rfl _ _ 40 rfl (n6 + 1) 48 i0 (.slice none 0 0) 1 24 under40 hi hz0 hz1 hz2 rfl (by decide) _ _ _ rfl HC.out.o1 ⟨wr.heap.size + 1, 0, none⟩ 1 1 [.slice (some ⟨wr.heap.size, 0, none⟩) 1 1] rfl rfl ?c1 ?c2 (by decide) ?c3 ?c4 ?c5 _ rfl ?_))
          case c1 => simpa using HCC.out
          case c2 => intro u hu; simp at hu; subst hu; rfl
          case c3 => unfold maxLen; omega
          case c4 => omega
          case c5 => exact HC.out.hb
          intro g c W1' hown hgrow hat hlt3
          have HA := Lib.hid (HC.out.app1 _ g c hown hgrow (by simpa using hat))
          have hB3 := HC.out.b3.low (Nat.lt_succ_self _) (grown_below HC.out.o1 hgrow HC.out.hb)
          have c04 := hB3.c 0 _ rfl
          have f04 := hB3.f 0
          clear hown hgrow hat HC hM hi hz0 hz1 hz2 c0 f0 hB3
          go_wp2
          go_roundw
          case rel => exact ⟨_, _, by simp, by simp; omega, HA.out⟩
          case measure => simp [intOf]; omega
        · have hke : kk = r1.length := by omega
          have HKE := Lib.hid hke
          clear hke
          go_wp2_with fail
          go_loopw [9, 10] (fun i _ W => ∃ (u : Nat) (es : List Ed) (vE : Value), i = .int .i64 (u : Nat) ∧ u ≤ kk ∧ EdsTo kk es u 0 ∧ Bx2 Wb nS n6 os cap xs 48 1 54 12 r1 (es.map Ed.vals) vP vE W) (fun i _ _ => kk - (intOf i).toNat)
          case atStart => exact ⟨0, [], _, rfl, by omega, EdsTo.nil _ _ _, hM⟩
          case round =>
            clear hM
            obtain ⟨u, es, vE, rfl, hu, hE, hM⟩ := hrel
            by_cases hlt : u < kk
            · go_wp2_with fail
              go_loopw [10] (fun i W => ∃ (v : Nat) (es : List Ed) (vE : Value), i = .int .i64 (v : Nat) ∧ u + 1 ≤ v ∧ v ≤ kk ∧ EdsTo kk es u v ∧ Bx2 Wb nS n6 os cap xs 48 1 54 12 r1 (es.map Ed.vals) vP vE W) (fun i _ => kk - (intOf i).toNat)
              case atStart => exact ⟨u + 1, es, vE, by simp, by omega, by omega, hE.mono (by omega) (by omega), hM⟩
              case round =>
                clear hM hE
                obtain ⟨y, es, vE, rfl, hy1, hy2, hE, hM⟩ := hrel
                have HE := Lib.hid hE
                clear hE
                by_cases hlt2 : y < kk
                · go_upto_block 7 with fail
                  go_cut [] (fun W => ∃ (es' : List Ed) (vE' : Value), EdsTo kk es' u (y + 1) ∧ Bx2 Wb nS n6 os cap xs 48 1 54 12 r1 (es'.map Ed.vals) vP vE' W)
                  case first =>
                    go_wp2_with fail
                    refine (next_any _ nS os cap xs 3 hM.src (by omega) (by omega)).mono ?_
                    rintro e V3 ⟨q, q0, q1, rfl, hg, hS, -⟩
                    obtain ⟨q, rfl, hq3⟩ := nat_int (n := 3) q0 q1
                    replace hM := hM.call hg hS
                    clear hg hS q0 q1
                    by_cases hq0 : 0 < q
                    · go_upto_region 19 with fail
                      obtain ⟨i0, hi, hz0, hz1, hz2⟩ := info_parts info54
                      have c1 : V3.cell? ⟨n6, 1, none⟩ = some vE := hM.b3.c 1 _ rfl
                      have f1 := hM.b3.f 1
                      have l6 := hM.b3.lt
                      have HEL := Lib.hid HE.out.len
                      have HM := Lib.hid (hM.bel (Below.refl _ _).drew)
                      clear hM
                      go_region_law (first
                        | (go_simp
                           go_at_call 27
                           refine (claim_any _).mono ?_
                           rintro e V5 ⟨b, rfl, hb⟩
                           have HM := Lib.hid (HM.out.bel hb)
                           have c1 := HM.out.b3.c 1 _ rfl
                           have f1 := HM.out.b3.f 1
                           have l6 := HM.out.b3.lt
                           clear hb
                           try (
                             have hcc := HC.out.1
                             have HA := Lib.hid (HM.out.bel (W' := V5.alloc (.cells #[.int .i64 u, .int .i64 y, .int .i64 (IntKind.i64.wrap (1 + c)), .int .i64 1, .int .i64 1, .slice (some ⟨b, 0, none⟩) 1 1, .int .i64 0, .int .i64 0, .slice none 0 0, .int .i64 0, .slice none 0 0, .slice none 0 0] 54)) ((Below.refl _ _).alloc (Nat.le_refl _) _))
                             have HO2 : Hid (World.ownsRow _ _ _ _ _ es.length _) := Lib.hid (by have := HA.out.o2; rwa [List.length_map] at this)))
                        | (go_simp
                           go_at_call 26
                           refine (next_any _ nS os cap xs 4 HM.out.src (by omega) (by omega)).mono ?_
                           rintro e V5 ⟨c, c0, c4, rfl, hg, hS, -⟩
                           have HM := Lib.hid (HM.out.call hg hS)
                           have c1 := HM.out.b3.c 1 _ rfl
                           have f1 := HM.out.b3.f 1
                           have l6 := HM.out.b3.lt
                           have HC : Hid (0 ≤ IntKind.i64.wrap (1 + c) ∧ IntKind.i64.wrap (1 + c) ≤ 1099511627776) := Lib.hid (by rw [IntWalk.i64_in _ (by omega)]; omega)
                           clear hg hS
                           try (
                             have hbb := b
                             have HA := Lib.hid (HM.out.bel (W' := V5.alloc (.cells #[.int .i64 u, .int .i64 y, .int .i64 (IntKind.i64.wrap (1 + c)), .int .i64 1, .int .i64 1, .slice (some ⟨b, 0, none⟩) 1 1, .int .i64 0, .int .i64 0, .slice none 0 0, .int .i64 0, .slice none 0 0, .slice none 0 0] 54)) ((Below.refl _ _).alloc (Nat.le_refl _) _))
                             have HO2 : Hid (World.ownsRow _ _ _ _ _ es.length _) := Lib.hid (by have := HA.out.o2; rwa [List.length_map] at this)))
                        | (have hxx := HA; clear hxx
                           refine step_append_lies _ rfl (.tmp 54) (.tmp 62) 41 rfl (n6 + 1) 54 i0 _ 12 160 under41 hi hz0 hz1 hz2 rfl (by decide) vE es.length _ (by simp [Act.eval]) HO2.out ⟨V5.heap.size, 0, none⟩ 1 1 (Ed.vals ⟨u, y, IntKind.i64.wrap (1 + c), 1, 1, ⟨some ⟨b, 0, none⟩, 1, 1⟩, 0, 0, ⟨none, 0, 0⟩, 0, ⟨none, 0, 0⟩, ⟨none, 0, 0⟩⟩) (by simp [Act.eval]) rfl (new_cells _ _ _) (Ed.one _) (by decide) (by unfold maxLen; have := HEL.out; omega) (by have := HEL.out; omega) HA.out.hb _ rfl ?_
                           intro g c' W9 hown hgrow hat hlt9
                           have hB3 := HA.out.b3.low (Nat.lt_succ_self _) (grown_below HA.out.o2 hgrow HA.out.hb)
                           have c19 := hB3.c 1 _ rfl
                           have f19 := hB3.f 1
                           have HO := Lib.hid hown
                           clear hown))
                      all_goals
                        go_wp2_with fail
                        go_meet
                        exact ⟨_, _, HE.out.snoc _ rfl rfl (by omega) (by omega) HC.out rfl, appE HA.out g c' HO.out hgrow hat⟩
                    · go_wp2_with fail
                      go_meet
                      exact ⟨es, vE, HE.out.mono (by omega) (by omega), hM⟩
                  case rest =>
                    clear hM
                    obtain ⟨es', vE', hE', hM⟩ := hcut
                    have HE' := Lib.hid hE'
                    clear hE'
                    go_wp2
                    go_roundw
                    case rel => exact ⟨y + 1, es', vE', by simp, by omega, by omega, HE'.out, hM⟩
                    case measure => simp [intOf]; omega
                · have hye : y = kk := by omega
                  have HYE := Lib.hid hye
                  clear hye
                  go_wp2
                  go_roundw
                  case rel => exact ⟨u + 1, es, vE, by simp, by omega, HE.out.mono (by omega) (by omega), hM⟩
                  case measure => simp [intOf]; omega
            · have hue : u = kk := by omega
              have HUE := Lib.hid hue
              clear hue
              obtain ⟨op, cp, rfl⟩ := own_slice hM.o1
              obtain ⟨oe, ce, rfl⟩ := own_slice hM.o2
              have hn6 := HN6.out
              have hR := HR.out.call hM.gr hM.src
              have hb4 := HR.out.hb
              have hs1 := HR.out.hs
              have hD := HD.out.keepG hM.gr (by have := hR.h3; omega)
              have hmade : MadeM ⟨kk, op, cp, oe, ce, es⟩ := hE.made (by rw [HUE.out]; omega) hk2.1 hk2.2 op oe cp ce
              have hown : wr.ownsRow (n4 + 1) 54 12 (Mp.ev ⟨kk, op, cp, oe, ce, es⟩) es.length (es.map Ed.vals).flatten := by
                have := own_base hM.o2 (base' := n4 + 1) (by omega)
                rw [List.length_map] at this
                exact this
              have hD1 : DoneM wr (n4 + 1) (ms ++ [⟨kk, op, cp, oe, ce, es⟩]) v (.slice none 0 0) := hD.snoc _ hown fun g hg => by
                have hg' : (Value.slice oe (es.map Ed.vals).length ce).ownBlock = some g := by rw [List.length_map]; exact hg
                have h1 := own_lt hM.o2 g hg'
                refine ⟨fun a ha hc => ?_, fun hc => ?_, fun hc => by cases hc⟩
                · have := own_lt (HD.out.own a ha) g hc; omega
                · have := own_lt HR.out.o1 g hc; omega
              have c0 := hM.b3.c 0 _ rfl
              have c1 := hM.b3.c 1 _ rfl
              have l6 := hM.b3.lt
              have d0 := hR.b3.c 0 _ rfl
              have g0 := hR.b3.f 0
              have l4 := hR.b3.lt
              rw [HKE.out.symm] at c0 ⊢
              rw [List.length_map] at c1
              obtain ⟨i0, hi, hz0, hz1, hz2⟩ := info_parts info43
              have hB := (Below.refl wr.heap.size wr).alloc (Nat.le_refl _) (.cells #[.slice op kk cp, .slice oe es.length ce] 43)
              have HC := Lib.hid (hR.bel hB)
              have HD1 := Lib.hid (hD1.keep hB)
              have HMM := Lib.hid hmade
              have HO1 : Hid (World.ownsRow _ _ _ _ v ms.length _) := Lib.hid (by have := HC.out.o1; rwa [List.length_map] at this)
              have HML := Lib.hid (show ms.length ≤ 3 by omega)
              clear hR hD hmade hown hD1 hB hM hE hb4 hs1 hn6
              go_wp2_with (at_builtin; go_loud (refine wpList_append_lies _ rfl _ _ 23 rfl (n4 + 1) 43 i0 (.agg #[.slice none 0 0, .slice none 0 0]) 2 48 under23 hi hz0 hz1 hz2 rfl (by decide) _ _ _ rfl HO1.out ⟨wr.heap.size, 0, none⟩ 1 1 [.slice op kk cp, .slice oe es.length ce] rfl rfl ?c1 ?c2 (by decide) ?c3 ?c4 ?c5 _ rfl ?_))
              case c1 => exact new_cells _ _ _
              case c2 => intro u hu; simp at hu; rcases hu with rfl | rfl <;> rfl
              case c3 => unfold maxLen; have := HML.out; omega
              case c4 => have := HML.out; omega
              case c5 => exact HC.out.hb
              intro g c W1' hown hgrow hat hlt3
              have HA := Lib.hid (HC.out.app1 (Mp.vals ⟨kk, op, cp, oe, ce, es⟩) g c (by rw [List.length_map]; exact hown) hgrow (by simpa using hat))
              have HDA := Lib.hid (HD1.out.keepQ (v' := .slice (some ⟨g, 0, none⟩) (ms.length + 1) c) (u' := .slice none 0 0) (fun q hq hl h1 _ => HC.out.far1 hgrow (.slice (some ⟨g, 0, none⟩) (ms.length + 1) c) q hl h1 (by omega)) (fun q hq => by
                simp [Value.ownBlock] at hq
                subst hq
                rcases hat with h | h
                · exact .inl h
                · exact .inr (by simp; omega)) (fun q hq => by cases hq))
              have hB3 := HC.out.b3.low (Nat.lt_succ_self _) (grown_below HC.out.o1 hgrow HC.out.hb)
              have c04 := hB3.c 0 _ rfl
              have f04 := hB3.f 0
              clear hown hgrow hat HC HD1 hi hz0 hz1 hz2 c0 c1 d0 g0 hB3 hlt3
              go_wp2
              go_roundw
              case rel =>
                refine ⟨ms ++ [⟨kk, op, cp, oe, ce, es⟩], j - 1, .slice (some ⟨g, 0, none⟩) (ms.length + 1) c, by simp; omega, by simp; omega, fun m hm => ?_, ?_, HDA.out⟩
                · rcases List.mem_append.1 hm with hm | hm
                  · exact HMK.out m hm
                  · simp at hm; subst hm; exact HMM.out
                · have := HA.out
                  rw [List.length_map] at this
                  rw [List.map_append]
                  exact this
              case measure => simp [intOf]; omega
    · have hj00 : j = 0 := by omega
      have HML := Lib.hid (show 1 ≤ ms.length ∧ ms.length ≤ 3 by omega)
      obtain ⟨om, cm, rfl⟩ := own_slice hR.o1
      rw [List.length_map] at hR hD
      clear hj hr3
      go_wp2_with fail
      refine (next_any _ nS os cap xs 12 hR.src (by omega) (by omega)).mono ?_
      rintro e V1 ⟨nc, q0, q1, rfl, hg, hS, -⟩
      obtain ⟨nc, rfl, hnc⟩ := nat_int (n := 12) q0 q1
      have hR1 := hR.call hg hS
      have hD1 := hD.keepG hg (by have := hR.hs; have := hR.h3; omega)
      clear hg hS q0 q1 hR hD
      go_wp2_with fail
      go_loopw [11] (fun i W => ∃ (cs : List Cf) (k : Nat) (u : Value), i = .int .i64 (k : Nat) ∧ cs.length + k ≤ 11 ∧ (∀ c ∈ cs, c.a.arm ≠ c.b.arm ∧ legB ⟨ms, cs⟩ c.a = true ∧ legB ⟨ms, cs⟩ c.b = true) ∧ Bx2 W1 nS n4 os cap xs 43 2 74 6 (ms.map Mp.vals) (cs.map Cf.vals) (.slice om ms.length cm) u W ∧ DoneM W (n4 + 1) ms (.slice om ms.length cm) u) (fun i _ => (intOf i).toNat)
      case atStart => exact ⟨[], nc, _, rfl, by simp; omega, by simp, hR1, hD1⟩
      case round =>
        clear hR1 hD1
        obtain ⟨cs, k, u, rfl, hk, hcf, hR, hD⟩ := hrel
        have HCF := Lib.hid hcf
        clear hcf
        have d0 := hR.b3.c 0 _ rfl
        have d1 := hR.b3.c 1 _ rfl
        have l4 := hR.b3.lt
        by_cases hk0 : 0 < k
        · by_cases hm1 : 1 < ms.length
          · have hml := HML.out
            have HK := Lib.hid hk
            go_upto_block 9 with fail
            go_cut [] (fun W => ∃ (c : Cf) (u' : Value), (c.a.arm ≠ c.b.arm ∧ legB ⟨ms, cs⟩ c.a = true ∧ legB ⟨ms, cs⟩ c.b = true) ∧ Bx2 W1 nS n4 os cap xs 43 2 74 6 (ms.map Mp.vals) ((cs ++ [c]).map Cf.vals) (.slice om ms.length cm) u' W ∧ DoneM W (n4 + 1) ms (.slice om ms.length cm) u')
            case first =>
              go_wp2_with fail
              refine (next_any _ nS os cap xs ms.length hR.src (by omega) (by omega)).mono ?_
              rintro e V2 ⟨a, a0, a1, rfl, hg, hS, -⟩
              obtain ⟨a, rfl, ha⟩ := nat_int a0 a1
              replace hR := hR.call hg hS
              replace hD := hD.keepG hg (by have := hR.hs; have := hR.h3; omega)
              clear hg hS a0 a1 d0 d1 l4
              go_upto_region 25 with fail
              have d0 := hR.b3.c 0 _ rfl
              have l4 := hR.b3.lt
              have hw1 : IntKind.i64.wrap ((a : Int) + 1) = (a : Int) + 1 := IntWalk.i64_in _ (by omega)
              have hw2 : IntKind.i64.wrap ((ms.length : Int) - 1) = (ms.length : Int) - 1 := IntWalk.i64_in _ (by omega)
              have hz0 : ((ms.length : Int) == 0) = false := nat_bne (b := 0) (by omega)
              have hz1 : ¬ ms = [] := fun h => by rw [h] at hm1; simp at hm1
              have hz2 : ¬ ms.length = 0 := by omega
              go_cut [13] (fun s W => ∃ b : Nat, s = .int .i64 (b : Nat) ∧ b < ms.length ∧ a ≠ b ∧ Bx2 W1 nS n4 os cap xs 43 2 74 6 (ms.map Mp.vals) (cs.map Cf.vals) (.slice om ms.length cm) u W ∧ DoneM W (n4 + 1) ms (.slice om ms.length cm) u)
              case first =>
                go_region_held3 (fun X => X.cell? ⟨n4, 0, none⟩ = some (.slice om ms.length cm))
                  (first | exact d0 | exact HR2.out.b3.c 0 _ rfl | fail)
                  (first
                    | (go_at_call 26
                       refine (next_any _ nS os cap xs ((ms.length : Int) - 1) (hR.src.keep (Below.refl _ _).drew) (by omega) (by omega)).mono ?_
                       rintro e V4 ⟨q, q0, q1, rfl, hg, hS, -⟩
                       have HR2 := Lib.hid ((hR.bel (Below.refl _ _).drew).call hg hS)
                       have HD2 := Lib.hid ((hD.keep (Below.refl _ _).drew).keepG hg (by have := hR.hs; have := hR.h3; omega))
                       have hw3 : IntKind.i64.wrap ((a : Int) + 1 + q) = (a : Int) + 1 + q := IntWalk.i64_in _ (by omega)
                       clear hg hS))
                go_wp2_with fail
                go_meet
                obtain ⟨qn, rfl, hqn⟩ : ∃ k : Nat, q = k ∧ k + 1 < ms.length := ⟨q.toNat, by omega, by omega⟩
                obtain ⟨h1, h2, h3⟩ := other_arm a qn ms.length ha hqn
                exact ⟨_, by rw [h1], h2, h3, HR2.out, HD2.out⟩
              case rest =>
                clear hR hD d0 l4 hw1 hw2 hz0 hz1 hz2
                obtain ⟨b, rfl, hb, hab, hR, hD⟩ := hcut
                obtain ⟨oc, cc, rfl⟩ := own_slice hR.o2
                rw [List.length_map] at hR hD
                obtain ⟨ma, hma⟩ : ∃ m, ms[a]? = some m := ⟨_, List.getElem?_eq_getElem ha⟩
                obtain ⟨mb, hmb⟩ : ∃ m, ms[b]? = some m := ⟨_, List.getElem?_eq_getElem hb⟩
                have HMA := Lib.hid (HMK.out ma (List.mem_of_getElem? hma))
                have HMB := Lib.hid (HMK.out mb (List.mem_of_getElem? hmb))
                have hns : nS < n4 + 1 := by have := hR.hs; have := hR.h3; omega
                have HNA := Lib.hid (own_ne (hD.own ma (List.mem_of_getElem? hma)) hns)
                have HNB := Lib.hid (own_ne (hD.own mb (List.mem_of_getElem? hmb)) hns)
                have HHA := Lib.hid hma
                have HHB := Lib.hid hmb
                have HAB := Lib.hid hab
                clear hma hmb hab
                obtain ⟨i0, hi, hz0, hz1, hz2⟩ := info_parts info74
                go_upto_region 26 with fail
                have d0 : wc.cell? ⟨n4, 0, none⟩ = some (.slice om ms.length cm) := hR.b3.c 0 _ rfl
                have d1 : wc.cell? ⟨n4, 1, none⟩ = some (.slice oc cs.length cc) := hR.b3.c 1 _ rfl
                have f1 := hR.b3.f 1
                have l4 := hR.b3.lt
                have HR := Lib.hid (hR.bel (Below.refl _ _).drew)
                have HD := Lib.hid (hD.keep (Below.refl _ _).drew)
                clear hR hD
                go_region_law (first
                  | (go_simp
                     go_at_call 28
                     with_reducible refine (move_x om oc cm cc ms cs a ma _ nS os cap xs (by omega) HHA.out HMA.out HR.out.src (bx_team HR.out HD.out) HNA.out).mono ?_
                     rintro e V5 ⟨A, hA, hlA, rfl, hg, hS⟩
                     have HA1 := Lib.hid hA
                     have HA2 := Lib.hid hlA
                     have HR := Lib.hid (HR.out.call hg hS)
                     have HD := Lib.hid (HD.out.keepG hg hns)
                     have d0 : V5.cell? ⟨n4, 0, none⟩ = some (.slice om ms.length cm) := HR.out.b3.c 0 _ rfl
                     have d1 : V5.cell? ⟨n4, 1, none⟩ = some (.slice oc cs.length cc) := HR.out.b3.c 1 _ rfl
                     have f1 := HR.out.b3.f 1
                     have l4 := HR.out.b3.lt
                     clear hg hS hA hlA
                     try (
                       have hbb := HB1.out
                       have hqq := (Below.refl V5.heap.size V5).alloc (Nat.le_refl _) (.cells #[.int .i64 (A.arm : Nat), .int .i64 (A.x : Nat), .int .i64 (A.y : Nat), .int .i64 (B.arm : Nat), .int .i64 (B.x : Nat), .int .i64 (B.y : Nat)] 74)
                       have HQ := Lib.hid (HR.out.bel hqq)
                       have HDQ := Lib.hid (HD.out.keep hqq)
                       have HO2 : Hid (World.ownsRow _ _ _ _ _ cs.length _) := Lib.hid (by have := HQ.out.o2; rwa [List.length_map] at this)
                       clear hqq hbb
                      ))
                  | (go_simp
                     go_at_call 28
                     with_reducible refine (move_x om oc cm cc ms cs b mb _ nS os cap xs (by omega) HHB.out HMB.out HR.out.src (bx_team HR.out HD.out) HNB.out).mono ?_
                     rintro e V5 ⟨B, hB, hlB, rfl, hg, hS⟩
                     have HB1 := Lib.hid hB
                     have HB2 := Lib.hid hlB
                     have HR := Lib.hid (HR.out.call hg hS)
                     have HD := Lib.hid (HD.out.keepG hg hns)
                     have d0 : V5.cell? ⟨n4, 0, none⟩ = some (.slice om ms.length cm) := HR.out.b3.c 0 _ rfl
                     have d1 : V5.cell? ⟨n4, 1, none⟩ = some (.slice oc cs.length cc) := HR.out.b3.c 1 _ rfl
                     have f1 := HR.out.b3.f 1
                     have l4 := HR.out.b3.lt
                     clear hg hS hB hlB
                     try (
                       have hbb := HA1.out
                       have hqq := (Below.refl V5.heap.size V5).alloc (Nat.le_refl _) (.cells #[.int .i64 (A.arm : Nat), .int .i64 (A.x : Nat), .int .i64 (A.y : Nat), .int .i64 (B.arm : Nat), .int .i64 (B.x : Nat), .int .i64 (B.y : Nat)] 74)
                       have HQ := Lib.hid (HR.out.bel hqq)
                       have HDQ := Lib.hid (HD.out.keep hqq)
                       have HO2 : Hid (World.ownsRow _ _ _ _ _ cs.length _) := Lib.hid (by have := HQ.out.o2; rwa [List.length_map] at this)
                       clear hqq hbb
                      ))
                  | (have hxx := HQ; clear hxx
                     refine step_append_lies _ rfl (.tmp 102) (.tmp 112) 24 rfl (n4 + 1) 74 i0 _ 6 48 under24 hi hz0 hz1 hz2 rfl (by decide) (.slice oc cs.length cc) cs.length _ (by simp [Act.eval]) HO2.out ⟨V5.heap.size, 0, none⟩ 1 1 (Cf.vals ⟨A, B⟩) (by simp [Act.eval]) rfl (new_cells _ _ _) (Cf.one _) (by decide) (by unfold maxLen; have := HK.out; omega) (by have := HK.out; omega) HQ.out.hb _ rfl ?_
                     intro g c' W9 hown hgrow hat hlt9
                     have hB3 := HQ.out.b3.low (Nat.lt_succ_self _) (grown_below HQ.out.o2 hgrow HQ.out.hb)
                     have d19 := hB3.c 1 _ rfl
                     have f19 := hB3.f 1
                     have HO := Lib.hid hown
                     clear hown))
                all_goals
                  go_wp2_with fail
                  go_meet
                  exact ⟨⟨A, B⟩, _, ⟨by rw [HA1.out, HB1.out]; exact HAB.out, HA2.out, HB2.out⟩, appC HQ.out g c' HO.out hgrow (by simpa using hat), HDQ.out.keepQ (fun q hq hl _ h1 => HQ.out.far2 hgrow _ q hl h1 (by omega)) (fun q hq => .inl hq) (fun q hq => by
                    simp [Value.ownBlock] at hq
                    subst hq
                    rcases hat with h | h
                    · exact .inl h
                    · exact .inr (by simp at h ⊢; omega))⟩

            case rest =>
              clear hR hD
              obtain ⟨c, u', hc, hR, hD⟩ := hcut
              have HC := Lib.hid hc
              clear hc
              go_wp2
              go_roundw
              case rel =>
                refine ⟨cs ++ [c], k - 1, u', by simp; omega, by simp; have := HK.out; omega, fun d hd => ?_, hR, hD⟩
                rcases List.mem_append.1 hd with hd | hd
                · exact HCF.out d hd
                · simp at hd; subst hd; exact HC.out
              case measure => simp [intOf]; omega
          · have hm2 : decide ((1 : Int) < (ms.length : Int)) = false := decide_eq_false (by omega)
            clear hm1
            obtain ⟨oc, cc, rfl⟩ := own_slice hR.o2
            rw [List.length_map] at d1 hR hD
            have R2 := HR21.out.keepG hR.gr hr2
            have e0 := R2.c 0 _ rfl
            have e1 := R2.c 1 _ rfl
            have g0 := R2.f 0
            have g1 := R2.f 1
            have l2 := R2.lt
            have HRR := Lib.hid hR
            have HDD := Lib.hid hD
            clear hR hD
            have HTOK : Hid (TeamOk ⟨ms, cs⟩) := Lib.hid ⟨HML.out.1, by have := HML.out.2; show ms.length ≤ 4; omega, fun m hm => (HMK.out m hm).ok, by show cs.length ≤ 100; omega, HCF.out⟩
            go_wp2_with fail
            have hbl := grown_fresh HB1.out HRR.out.gr hnS
            have hn4 := HN4.out
            have hhs := HRR.out.hs
            have hh3 := HRR.out.h3
            have hq : ∀ q, n4 + 1 ≤ q → ((wr.setCell ⟨n2', 0, none⟩ (.slice om ms.length cm)).setCell ⟨n2', 1, none⟩ (.slice oc cs.length cc)).heap[q]? = wr.heap[q]? := fun q hq => set2_heap wr n2' _ _ q (by omega)
            have hDD : DoneM ((wr.setCell ⟨n2', 0, none⟩ (.slice om ms.length cm)).setCell ⟨n2', 1, none⟩ (.slice oc cs.length cc)) (n4 + 1) ms (.slice om ms.length cm) (.slice oc cs.length cc) := HDD.out.keepQ (fun q h1 _ _ _ => hq q h1) (fun _ h => .inl h) (fun _ h => .inl h)
            refine bodyPost_ret (v := .agg #[.slice om ms.length cm, .slice oc cs.length cc]) (by simp [results, Try.results9, go_sem, e0, e1]) rfl ⟨⟨ms, cs⟩, om, oc, cm, cc, n4 + 1, rfl, HTOK.out, HMK.out, team_own (own_blk HRR.out.o1 fun q _ _ h => hq q h) (own_blk HRR.out.o2 fun q _ _ h => hq q h) hDD, hDD, by omega, (hbl.setCell (p := ⟨n2', 0, none⟩) hod _).setCell (p := ⟨n2', 1, none⟩) hod _⟩
        · skip
          obtain ⟨oc, cc, rfl⟩ := own_slice hR.o2
          rw [List.length_map] at d1 hR hD
          have R2 := HR21.out.keepG hR.gr hr2
          have e0 := R2.c 0 _ rfl
          have e1 := R2.c 1 _ rfl
          have g0 := R2.f 0
          have g1 := R2.f 1
          have l2 := R2.lt
          have HRR := Lib.hid hR
          have HDD := Lib.hid hD
          clear hR hD
          have HTOK : Hid (TeamOk ⟨ms, cs⟩) := Lib.hid ⟨HML.out.1, by have := HML.out.2; show ms.length ≤ 4; omega, fun m hm => (HMK.out m hm).ok, by show cs.length ≤ 100; omega, HCF.out⟩
          go_wp2_with fail
          have hbl := grown_fresh HB1.out HRR.out.gr hnS
          have hn4 := HN4.out
          have hhs := HRR.out.hs
          have hh3 := HRR.out.h3
          have hq : ∀ q, n4 + 1 ≤ q → ((wr.setCell ⟨n2', 0, none⟩ (.slice om ms.length cm)).setCell ⟨n2', 1, none⟩ (.slice oc cs.length cc)).heap[q]? = wr.heap[q]? := fun q hq => set2_heap wr n2' _ _ q (by omega)
          have hDD : DoneM ((wr.setCell ⟨n2', 0, none⟩ (.slice om ms.length cm)).setCell ⟨n2', 1, none⟩ (.slice oc cs.length cc)) (n4 + 1) ms (.slice om ms.length cm) (.slice oc cs.length cc) := HDD.out.keepQ (fun q h1 _ _ _ => hq q h1) (fun _ h => .inl h) (fun _ h => .inl h)
          refine bodyPost_ret (v := .agg #[.slice om ms.length cm, .slice oc cs.length cc]) (by simp [results, Try.results9, go_sem, e0, e1]) rfl ⟨⟨ms, cs⟩, om, oc, cm, cc, n4 + 1, rfl, HTOK.out, HMK.out, team_own (own_blk HRR.out.o1 fun q _ _ h => hq q h) (own_blk HRR.out.o2 fun q _ _ h => hq q h) hDD, hDD, by omega, (hbl.setCell (p := ⟨n2', 0, none⟩) hod _).setCell (p := ⟨n2', 1, none⟩) hod _⟩
end Go.Proofs.Jn
end

section
/-
  Walks: JointAccepted.
-/
namespace Go.Proofs.Jn
open Go.RowKit Go.Shelf

theorem round_nat (x : Int) (n : Nat) (h : 1 ≤ n) (hn : n ≤ 1000) : ∃ r : Nat, x % (n : Int) = (r : Int) ∧ r < n := by
  have h1 := Int.emod_nonneg x (show (n : Int) ≠ 0 by omega)
  have h2 := Int.emod_lt_of_pos x (show (0 : Int) < (n : Int) by omega)
  exact ⟨(x % (n : Int)).toNat, by omega, by omega⟩
theorem keepT9 {V X X' : World} {n7 : Nat} {a b : Value} (l7 : n7 < V.heap.size) (h : X.cell? ⟨n7, 0, none⟩ = some a ∧ X.cell? ⟨n7, 1, none⟩ = some b ∧ Below V.heap.size V X) (hb : Below X.heap.size X X') : X'.cell? ⟨n7, 0, none⟩ = some a ∧ X'.cell? ⟨n7, 1, none⟩ = some b ∧ Below V.heap.size V X' := by
  obtain ⟨h1, h2, h3⟩ := h
  have m7 := Nat.lt_of_lt_of_le l7 h3.size
  exact ⟨(hb.cell (p := ⟨n7, 0, none⟩) m7).trans h1, (hb.cell (p := ⟨n7, 1, none⟩) m7).trans h2, below_call h3 hb⟩
set_option maxRecDepth 100000 in
set_option maxHeartbeats 4000000 in
theorem accepted_any (o1 o2 o3 : Option Addr) (c1 c2 c3 : Nat) (xs ys zs : List Int) (tk : Int) (w : World) (h1 : Sl w o1 1 (pvals xs)) (h2 : Sl w o2 1 (pvals ys)) (h3 : Sl w o3 1 (pvals zs)) (lx : xs.length ≤ 9223372036854775807) (ly : ys.length ≤ 9223372036854775807) (lz : zs.length ≤ 9223372036854775807) :
    Calls Try.prog 3 #[.slice o1 xs.length c1, .slice o2 ys.length c2, .slice o3 zs.length c3, .int .i64 tk] w fun e w' => e = .returned (.bool true) ∧ Below w.heap.size w w' := by
  have HTM := Lib.hid (team_any o1 c1 xs w h1 lx)
  obtain ⟨r, hr, hr8⟩ := round_nat tk 8 (by omega) (by omega)
  have hrd : ∀ X, Calls Try.prog 11 #[.int .i64 tk, .int .i64 8] X fun e X' => e = .returned (.int .i64 (r : Nat)) ∧ X' = X := fun X => (round_any tk 8 X (by omega) (by omega)).mono fun _ _ ⟨h, h'⟩ => ⟨by rw [h, show (8 : Int) = ((8 : Nat) : Int) from rfl, hr], h'.symm⟩
  have HRD := Lib.hid hrd
  clear hr hrd
  have hw1 : IntKind.i64.wrap (1 + (r : Int)) = 1 + (r : Int) := IntWalk.i64_in _ (by omega)
  go_enter Try.func3, Try.ntmps3
  go_wp2_with fail
  refine HTM.out.mono ?_
  rintro e W1 ⟨T, om, oc, cm, cc, base, rfl, hO, hmk, hT, -, -, hb⟩
  unfold Tm.val
  replace h2 := h2.keep hb
  replace h3 := h3.keep hb
  have HB1 := Lib.hid hb
  have HO := Lib.hid hO
  have HMK := Lib.hid hmk
  clear hb h1 hO hmk HTM
  go_upto_region 2 with fail
  have hbx_ := boxes1 W1 [.slice om T.ms.length cm, .slice oc T.cs.length cc] 26
  replace hT := hT.keep hbx_.2
  replace h2 := h2.keep hbx_.2
  replace h3 := h3.keep hbx_.2
  have HB := Lib.hid (below_call HB1.out (hbx_.2))
  generalize W1.alloc (.cells #[.slice om T.ms.length cm, .slice oc T.cs.length cc] 26) = W2 at hbx_ hT h2 h3 HB ⊢
  obtain ⟨r9, hbel_⟩ := hbx_
  obtain ⟨n9, hn_⟩ : ∃ n, n = W1.heap.size := ⟨_, rfl⟩
  rw [← hn_] at r9 ⊢
  clear hn_ hbel_
  have hS0 : W2.cell? ⟨n9, 0, none⟩ = some (.slice om T.ms.length cm) ∧ W2.cell? ⟨n9, 1, none⟩ = some (.slice oc T.cs.length cc) ∧ Below W2.heap.size W2 W2 := ⟨r9.c 0 _ rfl, r9.c 1 _ rfl, Below.refl _ _⟩
  have l9 := r9.lt
  have HT := Lib.hid hT
  have H2 := Lib.hid h2
  have H3 := Lib.hid h3
  have HR9 := Lib.hid r9
  clear hT h2 h3 r9
  have hva : ∀ X, Below W2.heap.size W2 X → Calls Try.prog 10 #[.agg #[.slice om T.ms.length cm, .slice oc T.cs.length cc], .slice o2 ys.length c2] X (VertP T X) := fun X hX => verts_any om oc o2 cm cc c2 T ys X HO.out (HT.out.keep hX) (H2.out.keep hX) ly
  have hvb : ∀ X, Below W2.heap.size W2 X → Calls Try.prog 10 #[.agg #[.slice om T.ms.length cm, .slice oc T.cs.length cc], .slice o3 zs.length c3] X (VertP T X) := fun X hX => verts_any om oc o3 cm cc c3 T zs X HO.out (HT.out.keep hX) (H3.out.keep hX) lz
  have HVA := Lib.hid hva
  have HVB := Lib.hid hvb
  clear hva hvb
  go_cut [10, 11, 12] (fun v10 v11 v12 X => ∃ ps oa ca qs ob cb, v10 = .slice oa (List.length ps) ca ∧ v11 = .slice ob (List.length qs) cb ∧ v12 = .int .i64 ((r + 1 : Nat) : Int) ∧ InR T ps ∧ InR T qs ∧ Sl X oa 1 (nvals ps) ∧ Sl X ob 1 (nvals qs) ∧ Below W2.heap.size W2 X)
  case first =>
    go_region_held3 (fun X => X.cell? ⟨n9, 0, none⟩ = some (.slice om T.ms.length cm) ∧ X.cell? ⟨n9, 1, none⟩ = some (.slice oc T.cs.length cc) ∧ Below W2.heap.size W2 X)
      (first
        | assumption
        | exact hS0
        | exact keepT9 l9 (by assumption) (by assumption)
        | exact keepT9 l9 (by assumption) (Below.refl _ _).drew)
      (first
        | (go_at_call 11
           with_reducible refine (HRD.out _).mono ?_
           rintro e Xc ⟨rfl, rfl⟩)
        | (go_at_call 10
           with_reducible refine (HVA.out _ (by assumption : _ ∧ _ ∧ Below W2.heap.size W2 _).2.2).mono ?_
           rintro e Xa ⟨ps, oa, ca, rfl, hla, hra, hsa, hba, -⟩
           have HLA := Lib.hid hla
           clear hla)
        | (go_at_call 10
           with_reducible refine (HVB.out _ (by assumption : _ ∧ _ ∧ Below W2.heap.size W2 _).2.2).mono ?_
           rintro e Xb ⟨qs, ob, cb, rfl, hlb, hrb, hsb, hbb, -⟩
           have HLB := Lib.hid hlb
           clear hlb))
    all_goals
      have hfin := (by assumption : _ ∧ _ ∧ Below W2.heap.size W2 _).2.2
      have HRA := Lib.hid hra
      have HRB := Lib.hid hrb
      have HSA := Lib.hid hsa
      have HSB := Lib.hid hsb
      have HBA := Lib.hid hba
      have HBB := Lib.hid hbb
      have hci : 1 + (r : Int) = ((r + 1 : Nat) : Int) := by omega
      clear hra hrb hsa hsb hba hbb hS0
      go_wp2_with fail
      go_meet
      first
        | exact ⟨ps, oa, ca, qs, ob, cb, rfl, rfl, by rw [hci], ⟨HLA.out, HRA.out⟩, ⟨HLB.out, HRB.out⟩, HSA.out.keep HBB.out, HSB.out, by assumption⟩
        | exact ⟨ps, oa, ca, qs, ob, cb, rfl, rfl, by rw [hci], ⟨HLA.out, HRA.out⟩, ⟨HLB.out, HRB.out⟩, HSA.out, HSB.out.keep HBA.out, by assumption⟩
  case rest =>
    clear hS0
    obtain ⟨ps, oa, ca, qs, ob, cb, rfl, rfl, rfl, hp, hq, hsa, hsb, hb⟩ := hcut
    obtain ⟨W3, rfl⟩ : ∃ X, X = wc := ⟨_, rfl⟩
    have hsol := solve_any om oc oa ob cm cc ca cb T ps qs (r + 1) W3 HO.out hp hq (fun m hm => ⟨(HMK.out m hm).n4.2, (HMK.out m hm).n6⟩) (HT.out.keep hb) hsa hsb (by omega) (by omega)
    unfold Tm.val at hsol
    have HSOL := Lib.hid hsol
    have r9 := HR9.out.keep hb
    have a0 : W3.cell? ⟨n9, 0, none⟩ = some (.slice om T.ms.length cm) := r9.c 0 _ rfl
    have a1 : W3.cell? ⟨n9, 1, none⟩ = some (.slice oc T.cs.length cc) := r9.c 1 _ rfl
    have l9b := r9.lt
    have HP := Lib.hid hp
    have HQ := Lib.hid hq
    have HSA := Lib.hid hsa
    have HSB := Lib.hid hsb
    have HB3 := Lib.hid hb
    clear hsol hp hq hsa hsb hb r9 hw1
    go_wp2_with fail
    refine HSOL.out.mono ?_
    rintro e W4 ⟨hb, ⟨rfl, -⟩ | ⟨gp, rows, rfl, hrl, hLL, hS⟩⟩
    · have HB4 := Lib.hid (below_call HB.out (below_call HB3.out hb))
      clear hb a0 a1 l9b HSOL HSA HSB
      go_wp2_with (go_at_call 13; refine (Try.awake _).mono ?_; rintro e X ⟨rfl, hb⟩)
      go_ret
      exact ⟨by simp, below_call HB4.out hb⟩
    · obtain ⟨n', P, hn1', hn2', rfl, hP, -⟩ := hS
      have hvp := vplan_of HO.out HP.out hP
      have hB34 := below_call HB3.out hb
      have hrl0 := hrl
      obtain ⟨row, hrow0⟩ : ∃ row, (rowsP T.ms.length n' P)[0]? = some row := ⟨_, List.getElem?_eq_getElem (by rw [hrl]; exact HO.out.n1)⟩
      have hrl1 := rowsP_len row (List.mem_of_getElem? hrow0)
      obtain ⟨vs, hSl, hvl, hvr⟩ := hLL
      obtain ⟨v0, hv0⟩ : ∃ v, vs[0]? = some v := ⟨_, List.getElem?_eq_getElem (by rw [hvl, hrl]; exact HO.out.n1)⟩
      obtain ⟨o0, c0, rfl, -⟩ := hvr 0 v0 row hv0 hrow0
      obtain ⟨bg, offg, hgp, hGr⟩ := hSl (map_ne (k := 0) (by rw [hvl, hrl]; exact HO.out.n1))
      injection hgp with hgp
      injection hgp with hg1 hg2 _
      subst hg1 hg2
      have hLLk : ∀ X, Below W4.heap.size W4 X → LL X (some ⟨gp, 0, none⟩) (rowsP T.ms.length n' P) := fun X hX => LL.keep ⟨vs, hSl, hvl, hvr⟩ hX
      have hval : ∀ X, Below W4.heap.size W4 X → Calls Try.prog 14 #[.agg #[.slice om T.ms.length cm, .slice oc T.cs.length cc], .slice oa ps.length ca, .slice ob qs.length cb, .slice (some ⟨gp, 0, none⟩) T.ms.length T.ms.length] X (BoolP true X) := fun X hX => by
        have := valid_any om oc oa ob (some ⟨gp, 0, none⟩) cm cc ca cb T.ms.length T ps qs n' (rowsP T.ms.length n' P) X HO.out HP.out HQ.out (HT.out.keep (below_call hB34 hX)) (HSA.out.keep (below_call hb hX)) (HSB.out.keep (below_call hb hX)) hvp hn1' (by omega) (hLLk X hX)
        rw [hrl] at this
        exact this
      have HVAL := Lib.hid hval
      have HB4 := Lib.hid (below_call HB.out hB34)
      have hx0 : ∀ X, Below W4.heap.size W4 X → X.cell? ⟨gp, 0, none⟩ = some (.slice o0 (n' + 1) c0) ∧ gp < X.heap.size := fun X hX => by
        have := (hGr.keep hX).c 0 _ (map_get hv0) 0 _ rfl
        rw [hrl1] at this
        exact ⟨by simpa using this, (hGr.keep hX).lt⟩
      have hbx : ∀ X, Below W4.heap.size W4 X → X.cell? ⟨n9, 0, none⟩ = some (.slice om T.ms.length cm) ∧ X.cell? ⟨n9, 1, none⟩ = some (.slice oc T.cs.length cc) ∧ n9 < X.heap.size := fun X hX => by
        have r9 := HR9.out.keep (below_call hB34 hX)
        exact ⟨r9.c 0 _ rfl, r9.c 1 _ rfl, r9.lt⟩
      have HX0 := Lib.hid hx0
      have HBX := Lib.hid hbx
      have hN0 : (0 : Int) < (T.ms.length : Int) := by have := HO.out.n1; omega
      clear hval hx0 hbx hLLk hvr hv0 hrow0 hrl1 hSl hvl hGr hvp hrl hrl0 hP hB34 hb a0 a1 l9b HSOL HSA HSB
      go_wp2_with fail
      refine (Try.awake _).mono ?_
      rintro e X ⟨rfl, hb⟩
      obtain ⟨a0, a1, l9c⟩ := HBX.out X hb
      have HB5 := Lib.hid hb
      clear hb
      go_wp2_with fail
      with_reducible refine (HVAL.out X HB5.out).mono ?_
      rintro e Y ⟨rfl, hb⟩
      obtain ⟨x0, lg⟩ := HX0.out Y (below_call HB5.out hb)
      have HB6 := Lib.hid (below_call HB4.out (below_call HB5.out hb))
      have d1 : decide ((n' : Int) + 1 ≥ 2) = true := decide_eq_true (by omega)
      have hw2 : IntKind.i64.wrap ((r : Int) + 1 + 1) = (r : Int) + 1 + 1 := IntWalk.i64_in _ (by omega)
      have d2 : decide ((n' : Int) + 1 ≤ (r : Int) + 1 + 1) = true := decide_eq_true (by omega)
      clear hb a0 a1 l9c
      go_wp2
      go_ret
      exact ⟨by simp; omega, HB6.out⟩
end Go.Proofs.Jn
end

