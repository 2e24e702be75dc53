/-
  Texts put together: Cj Ck Cl.
-/
import Derived.Test.YtlpcihfkkgifkaaGreatDoorZFormatTrajectoriesCard10
set_option linter.unusedVariables false
section
/-
  Walks: the reference's reader: kinds; a line.
-/
namespace Go.Proofs.Ng
open Go.RowKit

set_option maxRecDepth 100000 in
set_option maxHeartbeats 4000000 in
theorem kindOf12 (s : ByteArray) (W : World) : Calls Tryz.prog 12 #[.string s] W (fun e W' => e = .returned (.int .i64 (kindN s.data.toList : Nat)) ∧ Below W.heap.size W W') := by
  have HP := Lib.hid (fun p X => prefix27 s p X)
  generalize hK : kindN s.data.toList = kk
  unfold kindN at hK
  have HK := Lib.hid hK
  have hb1 : Below W.heap.size W (W.alloc (.cells #[.string ⟨#[112, 97, 116, 104, 32]⟩, .string ⟨#[99, 117, 116, 32]⟩, .string ⟨#[116, 114, 97, 106, 101, 99, 116, 111, 114, 121, 32]⟩] 9)) := (Below.refl _ _).alloc (Nat.le_refl _) _
  have HX := Lib.hid (Bx.new W [.string ⟨#[112, 97, 116, 104, 32]⟩, .string ⟨#[99, 117, 116, 32]⟩, .string ⟨#[116, 114, 97, 106, 101, 99, 116, 111, 114, 121, 32]⟩] 9)
  have HB := Lib.hid hb1
  clear hb1 hK
  go_enter Tryz.func12, Tryz.ntmps12
  go_wp2_with fail
  generalize W.alloc (.cells #[.string ⟨#[112, 97, 116, 104, 32]⟩, .string ⟨#[99, 117, 116, 32]⟩, .string ⟨#[116, 114, 97, 106, 101, 99, 116, 111, 114, 121, 32]⟩] 9) = W1 at HX HB ⊢
  generalize W.heap.size = n at HX ⊢
  go_loopw [4] (fun i X => ∃ k : Nat, k ≤ 3 ∧ i = .int .i64 (k : Nat) ∧ X = W1 ∧ (0 < k → Lib.hasPrefix s.data.toList [112, 97, 116, 104, 32] = false) ∧ (1 < k → Lib.hasPrefix s.data.toList [99, 117, 116, 32] = false) ∧ (2 < k → Lib.hasPrefix s.data.toList [116, 114, 97, 106, 101, 99, 116, 111, 114, 121, 32] = false)) (fun i _ => 3 - (intOf i).toNat)
  case atStart => exact ⟨0, by omega, rfl, rfl, by omega, by omega, by omega⟩
  case round =>
    obtain ⟨k, hk, rfl, rfl, h1, h2, h3⟩ := hrel
    have x0 := HX.out.c 0 _ rfl
    have x1 := HX.out.c 1 _ rfl
    have x2 := HX.out.c 2 _ rfl
    have xl := HX.out.lt
    have hcase : k = 0 ∨ k = 1 ∨ k = 2 ∨ k = 3 := by omega
    rcases hcase with rfl | rfl | rfl | rfl
    · clear h1 h2 h3
      go_wp2_with fail
      refine (HP.out _ _).mono ?_
      rintro e X ⟨rfl, hX⟩
      subst hX
      cases hp : Lib.hasPrefix s.data.toList [112, 97, 116, 104, 32] with
      | true =>
        go_wp2
        go_ret
        exact ⟨by rw [← HK.out, if_pos hp]; rfl, HB.out⟩
      | false =>
        have HPF := Lib.hid hp
        clear hp
        go_wp2_with fail
        go_roundw
        case rel => exact ⟨1, by omega, by first | rfl | simp, by first | rfl | trivial, fun _ => HPF.out, by omega, by omega⟩
        case measure => simp [intOf]
    · have H1 := Lib.hid (h1 (by omega))
      clear h1 h2 h3
      go_wp2_with fail
      refine (HP.out _ _).mono ?_
      rintro e X ⟨rfl, hX⟩
      subst hX
      cases hp : Lib.hasPrefix s.data.toList [99, 117, 116, 32] with
      | true =>
        go_wp2
        go_ret
        exact ⟨by rw [← HK.out, if_neg (by rw [H1.out]; decide), if_pos hp]; rfl, HB.out⟩
      | false =>
        have HPF := Lib.hid hp
        clear hp
        go_wp2_with fail
        go_roundw
        case rel => exact ⟨2, by omega, by first | rfl | simp, by first | rfl | trivial, fun _ => H1.out, fun _ => HPF.out, by omega⟩
        case measure => simp [intOf]
    · have H1 := Lib.hid (h1 (by omega))
      have H2 := Lib.hid (h2 (by omega))
      clear h1 h2 h3
      go_wp2_with fail
      refine (HP.out _ _).mono ?_
      rintro e X ⟨rfl, hX⟩
      subst hX
      cases hp : Lib.hasPrefix s.data.toList [116, 114, 97, 106, 101, 99, 116, 111, 114, 121, 32] with
      | true =>
        go_wp2
        go_ret
        exact ⟨by rw [← HK.out, if_neg (by rw [H1.out]; decide), if_neg (by rw [H2.out]; decide), if_pos hp]; rfl, HB.out⟩
      | false =>
        have HPF := Lib.hid hp
        clear hp
        go_wp2_with fail
        go_roundw
        case rel => exact ⟨3, by omega, by first | rfl | simp, by first | rfl | trivial, fun _ => H1.out, fun _ => H2.out, fun _ => HPF.out⟩
        case measure => simp [intOf]
    · have H1 := Lib.hid (h1 (by omega))
      have H2 := Lib.hid (h2 (by omega))
      have H3 := Lib.hid (h3 (by omega))
      clear h1 h2 h3
      go_wp2
      go_ret
      exact ⟨by rw [← HK.out, if_neg (by rw [H1.out]; decide), if_neg (by rw [H2.out]; decide), if_neg (by rw [H3.out]; decide)]; rfl, HB.out⟩
/-- The reference's reader: its box, and the lines that are left. -/
structure RfS (W : World) (b gL : Nat) (L q : List (List UInt8)) (bad : Bool) : Prop where
  ex : ∃ i : Nat, i ≤ L.length ∧ (bad = false → q = L.drop i) ∧ Bx W b [.slice (some ⟨gL, 0, none⟩) L.length L.length, .int .i64 (i : Nat), .bool bad] 95
  ln : Bx W gL (strs L) 9
  ne : gL ≠ b
  lo : 8 ≤ b
  sz : ∀ l ∈ L, l.length ≤ 1048576
  ll : L.length ≤ 1048577
section
variable {W W' : World} {b gL : Nat} {L q : List (List UInt8)} {bad : Bool}
theorem RfS.keep (h : RfS W b gL L q bad) (hb : Below W.heap.size W W') : RfS W' b gL L q bad := by
  obtain ⟨i, h1, h2, h3⟩ := h.ex
  exact ⟨⟨i, h1, h2, h3.keep hb⟩, h.ln.keep hb, h.ne, h.lo, h.sz, h.ll⟩
theorem RfS.low {B : Nat} (h : RfS W b gL L q bad) (hb : Below B W W') (h1 : b < B) (h2 : gL < B) : RfS W' b gL L q bad := by
  obtain ⟨i, h3, h4, h5⟩ := h.ex
  exact ⟨⟨i, h3, h4, h5.low hb h1⟩, h.ln.low hb h2, h.ne, h.lo, h.sz, h.ll⟩
theorem RfS.lt (h : RfS W b gL L q bad) : b < W.heap.size := by
  obtain ⟨i, _, _, h3⟩ := h.ex
  exact h3.lt
theorem RfS.set {i : Nat} {bad2 : Bool} (h : RfS W b gL L q bad) {v : Value} {q2 : List (List UInt8)} (n : Nat) (hX : Bx (W.setCell ⟨b, n, none⟩ v) b [.slice (some ⟨gL, 0, none⟩) L.length L.length, .int .i64 (i : Nat), .bool bad2] 95) (hi : i ≤ L.length) (hq : bad2 = false → q2 = L.drop i) : RfS (W.setCell ⟨b, n, none⟩ v) b gL L q2 bad2 :=
  ⟨⟨i, hi, hq, hX⟩, h.ln.other h.ne n v, h.ne, h.lo, h.sz, h.ll⟩
theorem Bx.put3 {n : Nat} {x y z : Value} {ty : TypeId} (h : Bx W n [x, y, z] ty) (u : Value) : Bx (W.setCell ⟨n, 1, none⟩ u) n [x, u, z] ty ∧ Bx (W.setCell ⟨n, 2, none⟩ u) n [x, y, u] ty :=
  ⟨⟨by simp [World.setCell, Array.getElem?_modify, h.h]⟩, ⟨by simp [World.setCell, Array.getElem?_modify, h.h]⟩⟩
end
/-- What a function of the reference's reader answers. -/
def RrP {A : Type} (b gL : Nat) (L : List (List UInt8)) (V : Value → A → World → Prop) (Z : Value → World → Prop) (W : World) (o : Option (A × List (List UInt8))) (e : Ending) (W' : World) : Prop :=
  (match o with
  | some (x, r) => ∃ v, e = .returned v ∧ New W.heap.size W' (V v x) ∧ RfS W' b gL L r false
  | none => ∃ v, e = .returned v ∧ New W.heap.size W' (Z v) ∧ RfS W' b gL L [] true) ∧ W.grownBy W' (some b)
section
variable {A : Type} {b gL : Nat} {L : List (List UInt8)} {V : Value → A → World → Prop} {Z : Value → World → Prop} {W W' : World} {e : Ending} {x : A} {r : List (List UInt8)} {v : Value} {o : Option (A × List (List UInt8))}
theorem RrP.mk (ho : o = some (x, r)) (h1 : New W.heap.size W' (V v x)) (h2 : RfS W' b gL L r false) (h3 : W.grownBy W' (some b)) : RrP b gL L V Z W o (.returned v) W' := by
  subst ho
  exact ⟨⟨v, rfl, h1, h2⟩, h3⟩
theorem RrP.mkno (ho : o = none) (h1 : New W.heap.size W' (Z v)) (h2 : RfS W' b gL L [] true) (h3 : W.grownBy W' (some b)) : RrP b gL L V Z W o (.returned v) W' := by
  subst ho
  exact ⟨⟨v, rfl, h1, h2⟩, h3⟩
theorem RrP.yes (h : RrP b gL L V Z W (some (x, r)) e W') : ∃ v, e = .returned v ∧ New W.heap.size W' (V v x) ∧ RfS W' b gL L r false ∧ W.grownBy W' (some b) := by
  obtain ⟨⟨v, h1, h2, h3⟩, h4⟩ := h
  exact ⟨v, h1, h2, h3, h4⟩
theorem RrP.no (h : RrP b gL L V Z W none e W') : ∃ v, e = .returned v ∧ New W.heap.size W' (Z v) ∧ RfS W' b gL L [] true ∧ W.grownBy W' (some b) := by
  obtain ⟨⟨v, h1, h2, h3⟩, h4⟩ := h
  exact ⟨v, h1, h2, h3, h4⟩
end
def NilV (v : Value) (_ : World) : Prop := v = .slice none 0 0
theorem RfS.any {W : World} {b gL : Nat} {L q q2 : List (List UInt8)} (h : RfS W b gL L q true) : RfS W b gL L q2 true := by
  obtain ⟨i, h1, _, h3⟩ := h.ex
  exact ⟨⟨i, h1, nofun, h3⟩, h.ln, h.ne, h.lo, h.sz, h.ll⟩
set_option maxRecDepth 100000 in
set_option maxHeartbeats 4000000 in
theorem read74_bad (W : World) (b gL : Nat) (L q : List (List UInt8)) (kw : ByteArray) (h : RfS W b gL L q true) :
    Calls Tryz.prog 74 #[.pointer (some ⟨b, 0, none⟩), .string kw] W (RrP b gL L NumV NilV W none) := by
  obtain ⟨⟨i, hi, hq, hX⟩, hln, hne, h8, hsz, hll⟩ := h
  have c2 := hX.c 2 _ rfl
  have cl := hX.lt
  have HS := Lib.hid (show RfS W b gL L [] true from ⟨⟨i, hi, nofun, hX⟩, hln, hne, h8, hsz, hll⟩)
  have HX := Lib.hid hX
  clear hX hln hsz hq
  go_enter Tryz.func74, Tryz.ntmps74
  go_wp2_with fail
  go_quiet (fail)
  have hbq := below_drew W nq
  have hX2 := HX.out.keep hbq
  have HS2 := Lib.hid (HS.out.keep hbq)
  have HG := Lib.hid (grown_of_below hbq (r := some b))
  clear c2 cl hbq
  generalize W.drewN nq = V at hX2 HS2 HG ⊢
  have c2 := hX2.c 2 _ rfl
  have f2 := hX2.f 2
  have cl := hX2.lt
  have hS3 := HS2.out.set (q2 := []) (bad2 := true) 2 (hX2.put3 (.bool true)).2 hi nofun
  have HS3 := Lib.hid hS3
  clear hX2 hS3
  go_wp2
  go_ret
  exact RrP.mkno rfl (fun _ _ => rfl) HS3.out (grown_trans HG.out (grown_set V b 2 _))
end Go.Proofs.Ng
end

section
/-
  Walks: the reference's reader: a line.
-/
namespace Go.Proofs.Ng
open Go.RowKit

set_option maxRecDepth 100000 in
set_option maxHeartbeats 8000000 in
theorem read74 (W : World) (b gL : Nat) (L q : List (List UInt8)) (kw : ByteArray) (h : RfS W b gL L q false) (hL : LibW W) :
    Calls Tryz.prog 74 #[.pointer (some ⟨b, 0, none⟩), .string kw] W (RrP b gL L NumV NilV W (Fm.rdLine kw.data.toList q)) := by
  generalize hO : Fm.rdLine kw.data.toList q = o
  have HO := Lib.hid hO
  clear hO
  obtain ⟨⟨i, hi, hq, hX⟩, hln, hne, h8, hsz, hll⟩ := h
  obtain rfl := hq rfl
  have c0 := hX.c 0 _ rfl
  have c1 := hX.c 1 _ rfl
  have c2 := hX.c 2 _ rfl
  have cl := hX.lt
  have HS := Lib.hid (show RfS W b gL L (L.drop i) false from ⟨⟨i, hi, fun _ => rfl, hX⟩, hln, hne, h8, hsz, hll⟩)
  have HX := Lib.hid hX
  have HLN := Lib.hid hln
  have HL := Lib.hid hL
  have HSZ := Lib.hid hsz
  clear hX hln hsz hL
  by_cases hlt : i < L.length
  · have hd : decide ((L.length : Int) ≤ (i : Int)) = false := decide_eq_false (by omega)
    obtain ⟨l, hl⟩ : ∃ l, L[i]? = some l := ⟨_, List.getElem?_eq_getElem hlt⟩
    have hdr : L.drop i = l :: L.drop (i + 1) := by
      rw [List.drop_eq_getElem_cons hlt]
      rw [List.getElem?_eq_getElem hlt] at hl
      injection hl with hl
      rw [hl]
    obtain ⟨w, ws, hsp⟩ := List.exists_cons_of_ne_nil (Fm.splitC_ne 32 l)
    have HO := Lib.hid (show (if w = kw.data.toList then (ws.mapM Fm.spelledL).map (fun ns => (ns, L.drop (i + 1))) else none) = o by rw [← rdLine_cons hsp, ← hdr]; exact HO.out)
    have HSP := Lib.hid hsp
    have HLl := Lib.hid (HSZ.out l (List.mem_of_getElem? hl))
    have HGL := Lib.hid hl
    clear hdr hsp hl
    go_enter Tryz.func74, Tryz.ntmps74
    go_wp2_with fail
    go_quiet (fail)
    have hbq := below_drew W nq
    have hX2 := HX.out.keep hbq
    have hLN2 := HLN.out.keep hbq
    have HS2 := Lib.hid (HS.out.keep hbq)
    have HG := Lib.hid (grown_of_below hbq (r := some b))
    have HL2 := Lib.hid (HL.out.keep hbq)
    clear c0 c1 c2 cl hbq hd
    generalize W.drewN nq = V at hX2 HS2 HG hLN2 HL2 ⊢
    have c0 := hX2.c 0 _ rfl
    have c1 := hX2.c 1 _ rfl
    have cl := hX2.lt
    have x0 : V.cell? ⟨gL, i, none⟩ = some (.string ⟨l.toArray⟩) := hLN2.c i _ (strs_get HGL.out)
    have xl := hLN2.lt
    have hi1 : (i : Int) < (L.length : Int) := by omega
    have HX2 := Lib.hid hX2
    clear hX2 hLN2
    go_upto_region 4 with fail
    go_still_tail 10, (by kernel_rfl)
    change wpList _ _ _ _ _ V.drew
    have hbd : Below V.heap.size V V.drew := (Below.refl _ _).drew
    have HX3 := Lib.hid (HX2.out.keep hbd)
    have HS3 := Lib.hid (HS2.out.keep hbd)
    have HL3 := Lib.hid (HL2.out.keep hbd)
    have HG3 := Lib.hid (grown_call HG.out hbd)
    clear c0 c1 cl x0 xl hbd HX2 HS2 HL2 HG
    generalize V.drew = V3 at HX3 HS3 HL3 HG3 ⊢
    have HSp := Lib.hid (split73 ⟨l.toArray⟩ 32 V3 (by show l.toArray.size ≤ 1048576; rw [List.size_toArray]; exact HLl.out) HL3.out)
    go_wp2_with fail
    refine HSp.out.mono ?_
    rintro e W4 ⟨rfl, rfl⟩
    rw [HSP.out]
    have hbN : Below V3.heap.size V3 (V3.alloc (.cells (strs (w :: ws)).toArray 9)) := (Below.refl _ _).alloc (Nat.le_refl _) _
    have hBk := Blk.new V3 (strs (w :: ws)) 9
    have HG4 := Lib.hid (grown_call HG3.out hbN)
    have hX4 := HX3.out.keep hbN
    have HS4 := Lib.hid (HS3.out.keep hbN)
    have HL4 := Lib.hid (HL3.out.keep hbN)
    have hNe : b < V3.heap.size := HX3.out.lt
    clear HSp HL3 HG3 HX3 HS3 hbN
    generalize V3.alloc (.cells (strs (w :: ws)).toArray 9) = W5 at HG4 hX4 HS4 HL4 hBk ⊢
    generalize V3.heap.size = N at hBk hNe ⊢
    rw [List.length_cons]
    have b1 := hX4.c 1 _ rfl
    have bf := hX4.f 1
    have bl := hX4.lt
    have hw1 : IntKind.i64.wrap ((i : Int) + 1) = (i : Int) + 1 := IntWalk.i64_in _ (by omega)
    have hX5 := (hX4.put3 (.int .i64 ((i : Int) + 1))).1
    have hS5 := HS4.out.set (q2 := L.drop (i + 1)) (i := i + 1) (bad2 := false) 1 (v := .int .i64 ((i : Int) + 1)) hX5 (by omega) (fun _ => rfl)
    have HS5 := Lib.hid hS5
    have HG5 := Lib.hid (grown_trans HG4.out (grown_set W5 b 1 (.int .i64 ((i : Int) + 1))))
    have HL5 := Lib.hid (HL4.out.keepG (grown_set W5 b 1 (.int .i64 ((i : Int) + 1))) h8)
    have HBK := Lib.hid (show Blk (W5.setCell ⟨b, 1, none⟩ (.int .i64 ((i : Int) + 1))) N (strs (w :: ws)) from hBk.keepG (grown_set W5 b 1 _) (by omega))
    have HX5 := Lib.hid hX5
    clear hX4 HS4 HL4 HG4 hX5 hS5 hBk
    go_upto_region 6 with fail
    clear b1 bf bl hw1
    generalize W5.setCell ⟨b, 1, none⟩ (.int .i64 ((i : Int) + 1)) = W6 at HS5 HG5 HL5 HBK HX5 ⊢
    have x0 : W6.cell? ⟨N, 0, none⟩ = some (.string ⟨w.toArray⟩) := HBK.out.c 0 _ rfl
    have nlt := HBK.out.lt
    by_cases hkw : w = kw.data.toList
    · have HO := Lib.hid ((if_pos hkw).symm.trans HO.out)
      have hke := bytes_eq kw w hkw.symm
      rw [hke] at x0
      clear hkw
      have hwn : ws.length ≤ 1048576 := by
        have h1 := Fm.splitC_len 32 l
        rw [HSP.out, List.length_cons] at h1
        have := HLl.out
        omega
      go_wp2_with fail
      clear x0 nlt
      go_loopw [6, 7] (fun v j X => ∃ (k : Nat) (ns : List Int), k ≤ ws.length ∧ j = .int .i64 ((k : Nat) + 1 : Int) ∧ (ws.take k).mapM Fm.spelledL = some ns ∧ X.ownsRow W6.heap.size 2 1 v k (pflat ns) ∧ Below W6.heap.size W6 X) (fun _ j _ => ws.length + 1 - (intOf j).toNat)
      case atStart => exact ⟨0, [], Nat.zero_le _, rfl, rfl, World.ownsRow_nil _ _ _ _, Below.refl _ _⟩
      case round =>
        obtain ⟨k, ns, hk, rfl, hM, hOw, hB⟩ := hrel
        have HM := Lib.hid hM
        have HOW := Lib.hid hOw
        have HB := Lib.hid hB
        clear hM hOw hB
        by_cases hlt2 : k < ws.length
        · obtain ⟨x, hx⟩ : ∃ x, ws[k]? = some x := ⟨_, List.getElem?_eq_getElem hlt2⟩
          have hBk := HBK.out.keep HB.out
          have x0 : wr.cell? ⟨N, k + 1, none⟩ = some (.string ⟨x.toArray⟩) := hBk.c (k + 1) _ (strs_get hx)
          have nlt := hBk.lt
          have hxs : (⟨x.toArray⟩ : ByteArray).size ≤ 1048576 := by
            have h1 := Fm.splitC_each 32 l x (by rw [HSP.out]; exact List.mem_cons_of_mem _ (List.mem_of_getElem? hx))
            show x.toArray.size ≤ _
            rw [List.size_toArray]
            have := HLl.out
            omega
          have HN := Lib.hid (spelled84 ⟨x.toArray⟩ wr hxs)
          have HXX := Lib.hid hx
          have hq1 : decide ((k : Int) + 1 < (ws.length : Int) + 1) = true := decide_eq_true (by omega)
          clear hBk hxs hx
          go_wp2_with fail
          refine HN.out.mono ?_
          rintro e W7 ⟨⟨z, ok, rfl, hok, hz⟩, hb7⟩
          have HB7 := Lib.hid (below_call HB.out hb7)
          have HO7 := Lib.hid (own_keep HOW.out hb7)
          clear HN hb7 HB HOW x0 nlt hq1
          cases hsx : Fm.spelledL x with
          | none =>
            have hok2 : ok = false := by rw [hok]; show (Fm.spelledL x).isSome = false; rw [hsx]; rfl
            subst hok2
            have HNO := Lib.hid (Fm.mapM_none (f := Fm.spelledL) (List.mem_of_getElem? HXX.out) hsx)
            have hX8 := HX5.out.keep HB7.out
            have b2 := hX8.c 2 _ rfl
            have bf := hX8.f 2
            have bl := hX8.lt
            have hS6 := (HS5.out.keep HB7.out).set (q2 := []) (i := i + 1) (bad2 := true) 2 (v := .bool true) (hX8.put3 (.bool true)).2 (by omega) nofun
            have HS6 := Lib.hid hS6
            clear hS6 hX8 hsx hok hz
            go_wp2
            go_ret
            exact RrP.mkno (by rw [← HO.out, HNO.out]; rfl) (fun _ _ => rfl) HS6.out (grown_trans (grown_call HG5.out HB7.out) (grown_set W7 b 2 _))
          | some n =>
            have hok2 : ok = true := by rw [hok]; show (Fm.spelledL x).isSome = true; rw [hsx]; rfl
            subst hok2
            obtain rfl := hz n hsx
            have HMT := Lib.hid (Fm.mapM_take HXX.out HM.out hsx)
            clear hsx hok hz
            obtain ⟨i0, hi0, hz0, hz1, hz2⟩ := info_parts info2
            have hb2 : Below W7.heap.size W7 (W7.alloc (.cells #[.int .i64 z] 2)) := (Below.refl _ _).alloc (Nat.le_refl _) _
            have HO2 := Lib.hid (own_keep HO7.out hb2)
            have HBC := Lib.hid (below_call HB7.out hb2)
            clear hb2 HB7 HO7
            go_wp2_with (at_builtin; refine wpList_append_own _ rfl _ _ 42 rfl W6.heap.size 2 i0 (.int .i64 0) 1 8 under42 hi0 hz0 hz1 hz2 rfl (by decide) _ _ _ rfl HO2.out ⟨W7.heap.size, 0, none⟩ 1 1 [.int .i64 z] rfl rfl ?c1 ?c2 ?c3 ?c4 ?c5 ?_)
            case c1 => exact new_cells _ _ _
            case c2 => intro u hu; simp at hu; subst hu; rfl
            case c3 => unfold maxLen; omega
            case c4 => omega
            case c5 => exact HBC.out.size
            intro v' w' hown' hgrow _
            have HO3 : Hid (w'.ownsRow W6.heap.size 2 1 v' (k + 1) (pflat (ns ++ [z]))) := Lib.hid (by rw [pflat_app]; exact hown')
            have HB3 := Lib.hid (HBC.out.trans (grown_below HO2.out hgrow HBC.out.size))
            have hw2 : IntKind.i64.wrap ((k : Int) + 1 + 1) = (k : Int) + 1 + 1 := IntWalk.i64_in _ (by omega)
            clear hown' hgrow HO2 HBC hi0 hz0 hz1 hz2
            go_wp2_with fail
            go_roundw
            case rel => exact ⟨k + 1, ns ++ [z], by omega, by simp, HMT.out, HO3.out, HB3.out⟩
            case measure => simp [intOf]; omega
        · have hke2 : k = ws.length := by omega
          subst hke2
          have hq1 : decide ((ws.length : Int) + 1 < (ws.length : Int) + 1) = false := decide_eq_false (by omega)
          rw [List.take_of_length_le (Nat.le_refl _)] at HM
          go_wp2
          go_ret
          exact RrP.mk (x := ns) (r := L.drop (i + 1)) (by rw [← HO.out, HM.out]; rfl) (NumV.mk (Fm.mapM_len HM.out) HOW.out HG5.out.size) (HS5.out.keep HB.out) (grown_call HG5.out HB.out)
    · have HO := Lib.hid ((if_neg hkw).symm.trans HO.out)
      have hnk : (w == kw.toList) = false := by rw [ByteArray.toList_eq, beq_eq_false_iff_ne]; exact hkw
      have b2 := HX5.out.c 2 _ rfl
      have bf := HX5.out.f 2
      have bl := HX5.out.lt
      have hS6 := HS5.out.set (q2 := []) (i := i + 1) (bad2 := true) 2 (v := .bool true) (HX5.out.put3 (.bool true)).2 (by omega) nofun
      have HS6 := Lib.hid hS6
      clear hS6
      go_wp2
      go_ret
      exact RrP.mkno HO.out.symm (fun _ _ => rfl) HS6.out (grown_trans HG5.out (grown_set W6 b 2 _))
  · have hd : decide ((L.length : Int) ≤ (i : Int)) = true := decide_eq_true (by omega)
    have HON : Hid (o = none) := Lib.hid (by
      rw [← HO.out, List.drop_of_length_le (by omega)]
      rfl)
    go_enter Tryz.func74, Tryz.ntmps74
    go_wp2_with fail
    go_quiet (fail)
    have hbq := below_drew W nq
    have hX2 := HX.out.keep hbq
    have HS2 := Lib.hid (HS.out.keep hbq)
    have HG := Lib.hid (grown_of_below hbq (r := some b))
    clear c0 c1 c2 cl hbq hd
    generalize W.drewN nq = V at hX2 HS2 HG ⊢
    have c2 := hX2.c 2 _ rfl
    have f2 := hX2.f 2
    have cl := hX2.lt
    have hS3 := HS2.out.set (q2 := []) (bad2 := true) 2 (hX2.put3 (.bool true)).2 hi nofun
    have HS3 := Lib.hid hS3
    clear hX2 hS3
    go_wp2
    go_ret
    exact RrP.mkno HON.out (fun _ _ => rfl) HS3.out (grown_trans HG.out (grown_set V b 2 _))
end Go.Proofs.Ng
end

section
/-
  Walks: the reference's reader: n numbers, a count, ints, normals.
-/
namespace Go.Proofs.Ng
open Go.RowKit

/-- Nothing is read once the reader is bad. -/
def gd {A : Type} (bad : Bool) (o : Option A) : Option A := if bad = true then none else o
theorem read74_gen (W : World) (b gL : Nat) (L q : List (List UInt8)) (kw : ByteArray) (bad : Bool) (h : RfS W b gL L q bad) (hL : LibW W) :
    Calls Tryz.prog 74 #[.pointer (some ⟨b, 0, none⟩), .string kw] W (RrP b gL L NumV NilV W (gd bad (Fm.rdLine kw.data.toList q))) := by
  cases bad with
  | true => exact read74_bad W b gL L q kw h
  | false => exact read74 W b gL L q kw h hL
/-- What numbers answers: always n of them. -/
def NrP (b gL : Nat) (L : List (List UInt8)) (n : Nat) (W : World) (o : Option (List Int × List (List UInt8))) (e : Ending) (W' : World) : Prop :=
  ∃ v ns, e = .returned v ∧ ns.length = n ∧ (∀ x ∈ ns, Fm.inR64 x) ∧ New W.heap.size W' (NumV v ns) ∧ W.grownBy W' (some b) ∧ (match o with
    | some (x, r) => x = ns ∧ RfS W' b gL L r false
    | none => ns = List.replicate n 0 ∧ RfS W' b gL L [] true)
theorem NrP.mk {b gL n : Nat} {L r : List (List UInt8)} {W W' : World} {o : Option (List Int × List (List UInt8))} {v : Value} {ns : List Int} (ho : o = some (ns, r)) (hn : ns.length = n) (hr : ∀ x ∈ ns, Fm.inR64 x) (h1 : New W.heap.size W' (NumV v ns)) (h2 : RfS W' b gL L r false) (h3 : W.grownBy W' (some b)) : NrP b gL L n W o (.returned v) W' := by
  subst ho
  exact ⟨v, ns, rfl, hn, hr, h1, h3, rfl, h2⟩
theorem NrP.mkno {b gL n : Nat} {L : List (List UInt8)} {W W' : World} {o : Option (List Int × List (List UInt8))} {v : Value} (ho : o = none) (h1 : New W.heap.size W' (NumV v (List.replicate n 0))) (h2 : RfS W' b gL L [] true) (h3 : W.grownBy W' (some b)) : NrP b gL L n W o (.returned v) W' := by
  subst ho
  exact ⟨v, _, rfl, by simp, fun x hx => by rw [List.mem_replicate] at hx; rw [hx.2]; unfold Fm.inR64; omega, h1, h3, rfl, h2⟩
theorem made_zero (n : Nat) : madeCells #[Value.int .i64 0] n = (pflat (List.replicate n 0)).toArray := by
  apply Array.ext
  · simp [madeCells, pflat]
  · intro i h1 h2
    simp [madeCells, Nat.mod_one, pflat]
theorem run_make42 (n : Nat) (hn : n ≤ 1048576) (u : World) : (Instr.makeSlice 42 (.int .i64 (n : Nat)) (.int .i64 (n : Nat))).run Tryz.prog u = .ok (.slice (some ⟨u.heap.size, 0, none⟩) n n) (u.alloc (.cells (pflat (List.replicate n 0)).toArray 2)) := by
  obtain ⟨i, hi, hz, hs, hb⟩ := info_parts info2
  have := run_makeSlice (P := Tryz.prog) u 42 2 i (.int .i64 0) under42 hi hz .i64 .i64 n n (by omega) (Int.le_refl _) (by rw [hs]; simp; omega) (by rw [hb]; simp; omega) (by omega)
  rw [hs] at this
  simp only [Int.toNat_natCast, Nat.mul_one] at this
  have hc : madeCells (Value.int .i64 0).cells n = (pflat (List.replicate n 0)).toArray := made_zero n
  rw [this, hc]
theorem nums_made (u : World) (ns : List Int) : New u.heap.size (u.alloc (.cells (pflat ns).toArray 2)) (NumV (.slice (some ⟨u.heap.size, 0, none⟩) ns.length ns.length) ns) := by
  intro X hX
  have hb : X.heap[u.heap.size]? = some (.cells (pflat ns).toArray 2) := by
    rw [hX _ ⟨Nat.le_refl _, by simp⟩]
    show (u.heap.push _)[u.heap.size]? = _
    exact Array.getElem?_push_size
  refine ⟨_, _, rfl, Nat.le_refl _, fun _ => ⟨_, 0, rfl, (Array.getElem?_eq_some_iff.1 hb).1, fun i r hi k v hv => ?_⟩⟩
  have hi' : ns[i]?.map (fun p => [Value.int .i64 p]) = some r := by simpa [pvals] using hi
  rw [Option.map_eq_some_iff] at hi'
  obtain ⟨x, hx, rfl⟩ := hi'
  have hk0 : k = 0 := by
    rcases Nat.eq_zero_or_pos k with h | h
    · exact h
    · rw [List.getElem?_eq_none (by simp; omega)] at hv; cases hv
  subst hk0
  simp at hv
  subst hv
  simp [World.cell?, hb, pflat, hx]
set_option maxRecDepth 100000 in
set_option maxHeartbeats 4000000 in
theorem numbers52 (W : World) (b gL : Nat) (L q : List (List UInt8)) (kw : ByteArray) (n : Nat) (hn : n ≤ 1048576) (bad : Bool) (h : RfS W b gL L q bad) (hL : LibW W) :
    Calls Tryz.prog 52 #[.pointer (some ⟨b, 0, none⟩), .string kw, .int .i64 (n : Nat)] W (NrP b gL L n W (gd bad (Fm.rdN kw.data.toList n q))) := by
  have HC := Lib.hid (read74_gen W b gL L q kw bad h hL)
  have h8 := h.lo
  have hmk := run_make42 n hn
  generalize hO : gd bad (Fm.rdN kw.data.toList n q) = o
  have hO2 : o = match gd bad (Fm.rdLine kw.data.toList q) with | some (ns, r) => if ns.length = n then some (ns, r) else none | none => none := by
    rw [← hO]
    cases bad <;> rfl
  have HIN : Hid (∀ ns r, gd bad (Fm.rdLine kw.data.toList q) = some (ns, r) → ∀ x ∈ ns, Fm.inR64 x) := Lib.hid (fun ns r e => by
    cases bad with
    | true => cases e
    | false => exact Fm.rdLine_in e)
  clear h hL hO
  generalize gd bad (Fm.rdLine kw.data.toList q) = o1 at HC hO2 HIN
  have HO := Lib.hid hO2
  clear hO2
  go_enter Tryz.func52, Tryz.ntmps52
  go_wp2_with fail
  refine HC.out.mono ?_
  rintro e W1 h1
  clear HC
  rcases o1 with _ | ⟨ns, r⟩
  · obtain ⟨v, rfl, hz, hS, hG⟩ := h1.no
    obtain rfl : v = .slice none 0 0 := hz.now
    have HON : Hid (o = none) := Lib.hid HO.out
    clear h1 hz
    obtain ⟨⟨i, hi, -, hX⟩, -⟩ := id hS
    have c2 := hX.c 2 _ rfl
    have f2 := hX.f 2
    have cl := hX.lt
    have HG := Lib.hid hG
    by_cases hn0 : n = 0
    · subst hn0
      have HS := Lib.hid hS
      clear hS hG hX
      go_wp2
      go_ret
      exact NrP.mkno HON.out (fun _ _ => ⟨none, 0, rfl, Nat.le_refl _, fun h => absurd rfl h⟩) HS.out HG.out
    · have hq : ((0 : Int) != (n : Int)) = true := by simp; omega
      have hS2 := (hS.set (q2 := []) (i := i) (bad2 := true) 2 (v := .bool true) (hX.put3 (.bool true)).2 hi nofun)
      have hb9 : Below (W1.setCell ⟨b, 2, none⟩ (.bool true)).heap.size (W1.setCell ⟨b, 2, none⟩ (.bool true)) ((W1.setCell ⟨b, 2, none⟩ (.bool true)).alloc (.cells (pflat (List.replicate n 0)).toArray 2)) := (Below.refl _ _).alloc (Nat.le_refl _) _
      have HS9 := Lib.hid (hS2.keep hb9)
      have HG9 := Lib.hid (grown_call (grown_trans hG (grown_set W1 b 2 (.bool true))) hb9)
      have HNM := Lib.hid (nums_made (W1.setCell ⟨b, 2, none⟩ (.bool true)) (List.replicate n 0))
      have HSZ : Hid (W.heap.size ≤ (W1.setCell ⟨b, 2, none⟩ (.bool true)).heap.size) := Lib.hid (by simp [World.setCell]; exact hG.size)
      clear hS hG hX hS2 hb9
      go_wp2
      go_ret
      refine NrP.mkno HON.out (fun X hX => ?_) HS9.out HG9.out
      have := HNM.out X fun k hk => hX k ⟨Nat.le_trans HSZ.out hk.1, hk.2⟩
      rw [List.length_replicate] at this
      simpa [World.setCell] using this
  · obtain ⟨v, rfl, hN, hS, hG⟩ := h1.yes
    obtain ⟨oa, cap, rfl, hcap, hs⟩ := hN.now
    have HI := Lib.hid (HIN.out ns r rfl)
    clear h1 hs hcap
    by_cases hnl : ns.length = n
    · have HON : Hid (o = some (ns, r)) := Lib.hid (by rw [HO.out]; exact if_pos hnl)
      have HN := Lib.hid hN
      have HS := Lib.hid hS
      have HG := Lib.hid hG
      clear hN hS hG
      subst hnl
      have hq : ((ns.length : Int) != (ns.length : Int)) = false := by simp
      go_wp2
      go_ret
      exact NrP.mk HON.out rfl HI.out HN.out HS.out HG.out
    · have HON : Hid (o = none) := Lib.hid (by rw [HO.out]; exact if_neg hnl)
      have hq : ((ns.length : Int) != (n : Int)) = true := by simp; omega
      obtain ⟨⟨i, hi, -, hX⟩, -⟩ := id hS
      have c2 := hX.c 2 _ rfl
      have f2 := hX.f 2
      have cl := hX.lt
      have hS2 := (hS.set (q2 := []) (i := i) (bad2 := true) 2 (v := .bool true) (hX.put3 (.bool true)).2 hi nofun)
      have hb9 : Below (W1.setCell ⟨b, 2, none⟩ (.bool true)).heap.size (W1.setCell ⟨b, 2, none⟩ (.bool true)) ((W1.setCell ⟨b, 2, none⟩ (.bool true)).alloc (.cells (pflat (List.replicate n 0)).toArray 2)) := (Below.refl _ _).alloc (Nat.le_refl _) _
      have HS9 := Lib.hid (hS2.keep hb9)
      have HG9 := Lib.hid (grown_call (grown_trans hG (grown_set W1 b 2 (.bool true))) hb9)
      have HNM := Lib.hid (nums_made (W1.setCell ⟨b, 2, none⟩ (.bool true)) (List.replicate n 0))
      have HSZ : Hid (W.heap.size ≤ (W1.setCell ⟨b, 2, none⟩ (.bool true)).heap.size) := Lib.hid (by simp [World.setCell]; exact hG.size)
      clear hS hG hX hS2 hb9 hN
      go_wp2
      go_ret
      refine NrP.mkno HON.out (fun X hX => ?_) HS9.out HG9.out
      have := HNM.out X fun k hk => hX k ⟨Nat.le_trans HSZ.out hk.1, hk.2⟩
      rw [List.length_replicate] at this
      simpa [World.setCell] using this
/-- What count answers. -/
def CntP (b gL : Nat) (L q : List (List UInt8)) (bad : Bool) (n : Int) (W : World) (e : Ending) (W' : World) : Prop :=
  e = .returned (.int .i64 (if Fm.cntOk n = true then n else 0)) ∧ RfS W' b gL L q (bad || !Fm.cntOk n) ∧ W.grownBy W' (some b)
set_option maxRecDepth 100000 in
set_option maxHeartbeats 4000000 in
theorem count53 (W : World) (b gL : Nat) (L q : List (List UInt8)) (bad : Bool) (n : Int) (h : RfS W b gL L q bad) :
    Calls Tryz.prog 53 #[.pointer (some ⟨b, 0, none⟩), .int .i64 n] W (CntP b gL L q bad n W) := by
  by_cases hc : Fm.cntOk n = true
  · have hcc := hc
    unfold Fm.cntOk at hcc
    rw [decide_eq_true_eq] at hcc
    have h1 : decide (n < 0) = false := decide_eq_false (by omega)
    have h2 : decide (1048576 < n) = false := decide_eq_false (by omega)
    have hw : IntKind.i64.wrap n = n := IntWalk.i64_in _ (by omega)
    have HF : Hid (CntP b gL L q bad n W (.returned (.int .i64 n)) W) := Lib.hid ⟨by rw [if_pos hc], by rw [hc, Bool.not_true, Bool.or_false]; exact h, World.grownBy.refl _ _⟩
    clear h hc hcc
    go_enter Tryz.func53, Tryz.ntmps53
    go_wp2
    go_ret
    exact HF.out
  · have hc2 : Fm.cntOk n = false := by simpa using hc
    obtain ⟨⟨i, hi, -, hX⟩, -⟩ := id h
    have c2 := hX.c 2 _ rfl
    have f2 := hX.f 2
    have cl := hX.lt
    have hS2 := (h.set (q2 := q) (i := i) (bad2 := true) 2 (v := .bool true) (hX.put3 (.bool true)).2 hi nofun)
    have HF : Hid (CntP b gL L q bad n W (.returned (.int .i64 0)) (W.setCell ⟨b, 2, none⟩ (.bool true))) := Lib.hid ⟨by rw [if_neg hc], by rw [hc2, Bool.not_false, Bool.or_true]; exact hS2, grown_set W b 2 _⟩
    have hcc := hc
    unfold Fm.cntOk at hcc
    rw [decide_eq_true_eq] at hcc
    clear h hX hS2 hc hc2
    by_cases hn : n < 0
    · have h1 : decide (n < 0) = true := decide_eq_true hn
      go_enter Tryz.func53, Tryz.ntmps53
      go_wp2
      go_ret
      exact HF.out
    · have h1 : decide (n < 0) = false := decide_eq_false hn
      have h2 : decide (1048576 < n) = true := decide_eq_true (by omega)
      go_enter Tryz.func53, Tryz.ntmps53
      go_wp2
      go_ret
      exact HF.out
set_option maxRecDepth 100000 in
set_option maxHeartbeats 4000000 in
theorem narrow54 (w : World) (on : Option Addr) (nc : Nat) (ns : List Int) (hN : Sl w on 1 (pvals ns)) (hr : ∀ n ∈ ns, Fm.inR64 n) (hm : ns.length ≤ 1048576) :
    Calls Tryz.prog 54 #[.slice on ns.length nc] w (fun e W' => ∃ v, e = .returned v ∧ New w.heap.size W' (NumV v ns) ∧ Below w.heap.size w W') := by
  have HN := Lib.hid hN
  have HR := Lib.hid hr
  clear hN hr
  go_enter Tryz.func54, Tryz.ntmps54
  go_wp2_with fail
  go_loopw [3, 4] (fun v i W => ∃ k : Nat, k ≤ ns.length ∧ i = .int .i64 (k : Nat) ∧ W.ownsRow w.heap.size 3 1 v k (pflat (ns.take k)) ∧ Below w.heap.size w W) (fun _ i _ => ns.length - (intOf i).toNat)
  case atStart => exact ⟨0, Nat.zero_le _, rfl, World.ownsRow_nil _ _ _ _, Below.refl _ _⟩
  case round =>
    obtain ⟨k, hk, rfl, hO, hB⟩ := hrel
    by_cases hlt : k < ns.length
    · obtain ⟨x, hx⟩ : ∃ x, ns[k]? = some x := ⟨_, List.getElem?_eq_getElem hlt⟩
      obtain ⟨g, off, hon, x0, glt⟩ := pv_get (HN.out.keep hB) hx
      subst hon
      have hxw := wrap_in (HR.out x (List.mem_of_getElem? hx))
      obtain ⟨i0, hi, hz0, hz1, hz2⟩ := info_parts info3
      have hb2 : Below wr.heap.size wr (wr.alloc (.cells #[.int .i64 x] 3)) := (Below.refl _ _).alloc (Nat.le_refl _) _
      have HO2 := Lib.hid (own_keep hO hb2)
      have HBC := Lib.hid (below_call hB hb2)
      have HTK := Lib.hid (pflat_take hx)
      clear hO hB hb2 hx
      go_wp2_with (at_builtin; refine wpList_append_own _ rfl _ _ 26 rfl w.heap.size 3 i0 (.int .i64 0) 1 8 under26 hi hz0 hz1 hz2 rfl (by decide) _ _ _ rfl HO2.out ⟨wr.heap.size, 0, none⟩ 1 1 [.int .i64 x] rfl rfl ?c1 ?c2 ?c3 ?c4 ?c5 ?_)
      case c1 => exact new_cells _ _ _
      case c2 => intro u hu; simp at hu; subst hu; rfl
      case c3 => unfold maxLen; omega
      case c4 => omega
      case c5 => exact HBC.out.size
      intro v' w' hown' hgrow _
      have HO : Hid (w'.ownsRow w.heap.size 3 1 v' (k + 1) (pflat (ns.take (k + 1)))) := Lib.hid (by rw [HTK.out]; exact hown')
      have HB := Lib.hid (HBC.out.trans (grown_below HO2.out hgrow HBC.out.size))
      clear hown' hgrow HO2 HBC hi hz0 hz1 hz2 x0 glt
      go_wp2_with fail
      go_roundw
      case rel => exact ⟨k + 1, by omega, by simp, HO.out, HB.out⟩
      case measure => simp [intOf]; omega
    · have hke : k = ns.length := by omega
      subst hke
      rw [List.take_length] at hO
      have HO := Lib.hid hO
      have HB := Lib.hid hB
      clear hO hB
      go_wp2
      go_ret
      exact ⟨_, rfl, NumV.mk rfl HO.out (Nat.le_refl _), HB.out⟩
end Go.Proofs.Ng
end

