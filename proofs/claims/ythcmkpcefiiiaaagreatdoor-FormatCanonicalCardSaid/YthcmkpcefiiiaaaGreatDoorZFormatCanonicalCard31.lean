/-
  Texts put together: Pp Ug Uh Co FormatCanonical.
-/
import Derived.Test.YthcmkpcefiiiaaaGreatDoorZFormatCanonicalCard26
import Derived.Test.YthcmkpcefiiiaaaGreatDoorZFormatCanonicalCard30
import Derived.Test.YthcmkpcefiiiaaaGreatDoorZFormatCanonicalCard1
import Derived.Deep.Slices
import Derived.OpenShut
import Derived.ChangeArms
import Derived.ProofKit
import Derived.ChangeSame
import Derived.Carry
import Derived.Below
import Derived.Lib.SmallJoins
import Derived.Test.YthcmkpcefiiiaaaGreatDoorZFormatCanonicalCard6
import Derived.Test.YthcmkpcefiiiaaaGreatDoorRows
import Derived.WalkKit
import Derived.SizedLaws
import Derived.JoinedCond
import Derived.Deep.DeepHandedRow
import Derived.Deep.DeepWitnessRowRef
set_option linter.unusedVariables false
section
/-
  The plain law of documents: the numbers of what was read are int64, its lists not too long.
-/
namespace Go.Proofs.Fm
open Go.Lib
theorem cnt_le {n : Int} (h : cntOk n = true) : n.toNat ≤ 1048576 := by
 unfold cntOk at h
 rw [decide_eq_true_eq] at h
 omega
theorem rep_all {α : Type} {f : Rd α} {P : α → Prop} (hf : ∀ ls r x, f ls = some (x, r) → P x) : ∀ {n : Nat} {ls r : List (List UInt8)} {xs : List α}, rep f n ls = some (xs, r) → ∀ x ∈ xs, P x
 | 0, ls, r, xs, h => by simp only [rep] at h; injection h with h; injection h with h1 h2; subst h1; intro x hx; cases hx
 | n + 1, ls, r, xs, h => by
  rw [rep] at h
  split at h
  ·rename_i e
   split at h
   ·rename_i e2
    injection h with h
    injection h with h1 h2
    subst h1
    intro x hx
    rw [List.mem_cons] at hx
    rcases hx with rfl | hx
    ·exact hf _ _ _ e
    ·exact rep_all hf e2 x hx
   ·cases h
  ·cases h
theorem rdNormal_in (ls r : List (List UInt8)) (v : Int × Int × Int) (h : rdNormal ls = some (v, r)) : ∀ n ∈ vecL v, inR64 n := by
 unfold rdNormal at h
 split at h
 ·rename_i x y z r' e
  injection h with h
  injection h with h1 h2
  subst h1 h2
  exact rdN_in e
 ·cases h
theorem rdUse_in (ls r : List (List UInt8)) (u : UseD) (h : rdUse ls = some (u, r)) : ∀ n ∈ u.depth :: u.index :: u.nums, inR64 n := by
 unfold rdUse at h
 split at h
 ·rename_i d i ns r' e
  injection h with h
  injection h with h1 h2
  subst h1 h2
  exact rdLine_in e
 ·cases h
theorem rdEdge_in (ls r : List (List UInt8)) (e : EdgeD) (h : rdEdge ls = some (e, r)) : e.table.length ≤ 1048576 ∧ e.uses.length ≤ 1048576 ∧ (∀ v ∈ e.table, ∀ n ∈ vecL v, inR64 n) ∧ ∀ u ∈ e.uses, ∀ n ∈ u.depth :: u.index :: u.nums, inR64 n := by
 unfold rdEdge at h
 split at h
 ·rename_i a b q e1
  split at h
  ·rename_i hc
   rw [Bool.and_eq_true] at hc
   split at h
   ·rename_i tb r2 e2
    split at h
    ·rename_i us r3 e3
     injection h with h
     injection h with h1 h2
     subst h1 h2
     have l2 := rep_len e2
     have l3 := rep_len e3
     have c2 := cnt_le hc.1
     have c3 := cnt_le hc.2
     exact ⟨by simp only; omega, by simp only; omega, rep_all rdNormal_in e2, rep_all rdUse_in e3⟩
    ·cases h
   ·cases h
  ·cases h
 ·cases h
theorem rdPath_ok {ls r : List (List UInt8)} {p : PathD} (h : rdPath ls = some (p, r)) : PathOk p := by
 unfold rdPath at h
 split at h
 ·rename_i n q e1
  split at h
  ·rename_i hc
   split at h
   ·rename_i ps r2 e2
    split at h
    ·rename_i es r3 e3
     injection h with h
     injection h with h1 h2
     subst h1 h2
     have l2 := rep_len e2
     have c2 := cnt_le hc
     exact ⟨rep_all (P := fun ns => ∀ n ∈ ns, inR64 n) (fun _ _ _ h => rdLine_in h) e2, by simp only; omega, rep_all rdEdge_in e3⟩
    ·cases h
   ·cases h
  ·cases h
 ·cases h
theorem parse_ok {s : List UInt8} {p : PathD} (h : parseP s = some p) : PathOk p ∧ rightP p = true := by
 unfold parseP at h
 split at h
 ·rename_i p' r e
  split at h
  ·rename_i hc
   injection h with h
   subst h
   exact ⟨rdPath_ok e, hc.1⟩
  ·cases h
 ·cases h
theorem rdProf_in (ls r : List (List UInt8)) (x : ProfD) (h : rdProf ls = some (x, r)) : x.levels.length ≤ 1048576 ∧ x.steps.length ≤ 1048576 ∧ (∀ n ∈ x.levels, inR64 n) ∧ ∀ n ∈ x.steps, inR64 n := by
 unfold rdProf at h
 split at h
 ·rename_i a b q e1
  split at h
  ·rename_i hc
   rw [Bool.and_eq_true] at hc
   split at h
   ·rename_i lv r2 e2
    split at h
    ·rename_i st r3 e3
     injection h with h
     injection h with h1 h2
     subst h1 h2
     have l2 := (rdN_un e2).2
     have l3 := (rdN_un e3).2
     have c2 := cnt_le hc.1
     have c3 := cnt_le hc.2
     exact ⟨by simp only; omega, by simp only; omega, rdN_in e2, rdN_in e3⟩
    ·cases h
   ·cases h
  ·cases h
 ·cases h
theorem parse_okT {s : List UInt8} {t : TrajD} (h : parseTr s = some t) : TrajOk t := by
 unfold parseTr at h
 split at h
 ·rename_i t' r e
  split at h
  ·injection h with h
   subst h
   unfold rdTraj at e
   split at e
   ·rename_i g x y z q e1
    split at e
    ·rename_i p r2 e2
     split at e
     ·rename_i fs r3 e3
      injection e with e
      injection e with h1 h2
      subst h1 h2
      exact ⟨rdPath_ok e2, rdN_in e1, rep_all rdProf_in e3⟩
     ·cases e
    ·cases e
   ·cases e
  ·cases h
 ·cases h
theorem pairs_in : ∀ {ns : List Int}, (∀ n ∈ ns, inR64 n) → ∀ a ∈ pairs ns, inR64 a.1 ∧ inR64 a.2
 | [], _, a, ha => by cases ha
 | [_], _, a, ha => by cases ha
 | x :: y :: r, h, a, ha => by
  rw [pairs, List.mem_cons] at ha
  rcases ha with rfl | ha
  ·exact ⟨h _ (by simp), h _ (by simp)⟩
  ·exact pairs_in (fun n hn => h n (by simp [hn])) a ha
theorem rdWit_in {ls r : List (List UInt8)} {p : Int} {l m : List Int} (h : rdWit ls = some ((p, l, m), r)) : inR64 p ∧ l.length ≤ 1048576 ∧ m.length ≤ 1048576 ∧ (∀ n ∈ l, inR64 n) ∧ ∀ n ∈ m, inR64 n := by
 unfold rdWit at h
 split at h
 ·rename_i p' l' rest r' e
  split at h
  ·rename_i hc
   split at h
   ·rename_i m' em
    split at h
    ·rename_i hm
     injection h with h
     injection h with h1 h2
     injection h1 with h3 h4
     injection h4 with h5 h6
     subst h3 h2
     have hin := rdLine_in e
     have c1 := cnt_le hc.1
     have c2 := cnt_le hm.1
     refine ⟨hin _ (by simp), ?_, ?_, ?_, ?_⟩
     ·rw [← h5, List.length_take]; omega
     ·rw [← h6, List.length_drop]; omega
     ·intro n hn; rw [← h5] at hn; exact hin n (by simp [List.mem_of_mem_take hn])
     ·intro n hn; rw [← h6] at hn; exact hin n (by simp [List.mem_of_mem_drop hn])
    ·cases h
   ·cases h
  ·cases h
 ·cases h
theorem rdCell_in (ls r : List (List UInt8)) (c : CellD) (h : rdCell ls = some (c, r)) : inR64 c.joint ∧ inR64 c.low ∧ inR64 c.high ∧ inR64 c.verd.kind ∧ inR64 c.verd.pair ∧ c.verd.normals.length ≤ 1048576 ∧ c.verd.left.length ≤ 1048576 ∧ c.verd.right.length ≤ 1048576 ∧ (∀ v ∈ c.verd.normals, ∀ n ∈ vecL v, inR64 n) ∧ (∀ n ∈ c.verd.left, inR64 n) ∧ ∀ n ∈ c.verd.right, inR64 n := by
 have hm : inR64 (-1) := by unfold inR64; omega
 have h0 : inR64 0 := by unfold inR64; omega
 unfold rdCell at h
 split at h
 ·cases h
 ·split at h
  ·unfold rdSplit at h
   split at h
   ·rename_i j l' h' r' e
    split at h
    ·cases h
    ·injection h with h
     injection h with h1 h2
     subst h1 h2
     have hi := rdN_in e
     exact ⟨hi _ (by simp), hi _ (by simp), hi _ (by simp), h0, h0, Nat.zero_le _, Nat.zero_le _, Nat.zero_le _, nofun, nofun, nofun⟩
   ·cases h
  ·unfold rdLeaf at h
   split at h
   ·rename_i k n r' e
    split at h
    ·rename_i hc
     split at h
     ·rename_i ns r2 e2
      have hi := rdN_in e
      have hnl := rep_len e2
      have c1 := cnt_le hc
      have hns := rep_all rdNormal_in e2
      split at h
      ·split at h
       ·rename_i p l' m r3 e3
        injection h with h
        injection h with h1 h2
        subst h1 h2
        obtain ⟨w1, w2, w3, w4, w5⟩ := rdWit_in e3
        exact ⟨hm, hm, hm, hi _ (by simp), w1, by simp only; omega, w2, w3, hns, w4, w5⟩
       ·cases h
      ·injection h with h
       injection h with h1 h2
       subst h1 h2
       exact ⟨hm, hm, hm, hi _ (by simp), h0, by simp only; omega, Nat.zero_le _, Nat.zero_le _, hns, nofun, nofun⟩
     ·cases h
    ·cases h
   ·cases h
theorem parse_okC {s : List UInt8} {t : TreeD} (h : parseC s = some t) : TreeOk t := by
 unfold parseC at h
 split at h
 ·rename_i t' r e
  split at h
  ·injection h with h
   subst h
   unfold rdTree at e
   split at e
   ·rename_i a b r1 e1
    split at e
    ·rename_i hc
     rw [Bool.and_eq_true] at hc
     split at e
     ·rename_i ns r2 e2
      split at e
      ·rename_i cs r3 e3
       injection e with e
       injection e with h1 h2
       subst h1 h2
       have hp := pairs_flat (rdN_un e2).2
       have c1 := cnt_le hc.1
       have c2 := cnt_le hc.2
       have l3 := rep_len e3
       exact ⟨by simp only; omega, by simp only; omega, pairs_in (rdN_in e2), rep_all rdCell_in e3⟩
      ·cases e
     ·cases e
    ·cases e
   ·cases e
  ·cases h
 ·cases h
end Go.Proofs.Fm
end

section
/-
 Walks: what can be read is written as it was. Printed by gen_ug.py.
-/
namespace Go.Proofs.Ng
open Go.RowKit
/-- What an answer of a reader says of the text. -/
def CanP {A : Type} (At : World → Value → A → Prop) (ok : A → Prop) (doc : A → List UInt8) (s : ByteArray) (W : World) (e : Ending) (W' : World) : Prop :=
 ∃ v x c, e = .returned (.tuple #[v, .int .i64 c]) ∧ At W' v x ∧ Below W.heap.size W W' ∧ ((c = 0 ∧ ok x ∧ doc x = s.data.toList ∧ (doc x).length ≤ 1048576) ∨ (c == 0) = false)
theorem bytes_back {s : ByteArray} {l : List UInt8} (h : l = s.data.toList) : (⟨l.toArray⟩ : ByteArray) = s := by
 subst h
 rcases s with ⟨⟨l⟩⟩
 rfl
theorem can_parP (s : ByteArray) (W : World) (hs : s.size ≤ 9223372036854775807) (hL : LibW W) : Calls Tryz.prog 13 #[.string s] W (CanP PathAt (fun p => Fm.PathOk p ∧ Fm.rightP p = true) Fm.docT s W) := by
 refine (parsePath17 s W hs hL).mono ?_
 rintro e W' ⟨v, rfl, hN, hb⟩
 refine ⟨v, _, _, rfl, hN.now.at, hb, ?_⟩
 unfold parseRes
 split
 ·exact Or.inr rfl
 ·rename_i hl
  split
  ·split
   ·rename_i p hp
    have hd := Fm.parse_doc hp
    exact Or.inl ⟨rfl, Fm.parse_ok hp, hd, by rw [hd]; omega⟩
   ·exact Or.inr rfl
  ·exact Or.inr rfl
theorem can_parC (s : ByteArray) (W : World) (hs : s.size ≤ 9223372036854775807) (hL : LibW W) : Calls Tryz.prog 14 #[.string s] W (CanP TreeAt (fun t => Fm.TreeOk t ∧ Fm.validT t = true) Fm.docC s W) := by
 refine (parseCut14 s W hs hL).mono ?_
 rintro e W' ⟨v, rfl, hN, hb⟩
 refine ⟨v, _, _, rfl, hN.now.at, hb, ?_⟩
 unfold parseResC
 split
 ·exact Or.inr rfl
 ·rename_i hl
  split
  ·split
   ·rename_i p hp
    have hd := Fm.parse_docC hp
    exact Or.inl ⟨rfl, ⟨Fm.parse_okC hp, hd.2⟩, hd.1, by rw [hd.1]; omega⟩
   ·exact Or.inr rfl
  ·exact Or.inr rfl
theorem can_parT (s : ByteArray) (W : World) (hs : s.size ≤ 9223372036854775807) (hL : LibW W) : Calls Tryz.prog 15 #[.string s] W (CanP TrajAt (fun t => Fm.TrajOk t ∧ Fm.rightT t = true) Fm.docTr s W) := by
 refine (parseTraj31 s W hs hL).mono ?_
 rintro e W' ⟨v, rfl, hN, hb⟩
 refine ⟨v, _, _, rfl, hN.now.at, hb, ?_⟩
 unfold parseResT
 split
 ·exact Or.inr rfl
 ·rename_i hl
  split
  ·split
   ·rename_i p hp
    have hd := Fm.parse_docTr hp
    exact Or.inl ⟨rfl, ⟨Fm.parse_okT hp, hd.2⟩, hd.1, by rw [hd.1]; omega⟩
   ·exact Or.inr rfl
  ·exact Or.inr rfl
theorem can_fmtP {s : ByteArray} {p : Fm.PathD} (h : Fm.PathOk p ∧ Fm.rightP p = true) (hd : Fm.docT p = s.data.toList) (hl : (Fm.docT p).length ≤ 1048576) {X : World} {v : Value} (hP : PathAt X v p) (hL : LibW X) : Calls Tryz.prog 18 #[v] X (fun e W' => e = .returned (.tuple #[.string s, .int .i64 0]) ∧ Below X.heap.size X W') := by
 have HF := formatPath16 X v p hP h.1 hl hL.tabs
 rw [formatP_yes h.2 hl] at HF
 unfold fmtV at HF
 simp only [bytes_back hd] at HF
 exact HF
theorem can_fmtC {s : ByteArray} {t : Fm.TreeD} (h : Fm.TreeOk t ∧ Fm.validT t = true) (hd : Fm.docC t = s.data.toList) (hl : (Fm.docC t).length ≤ 1048576) {X : World} {v : Value} (hP : TreeAt X v t) (hL : LibW X) : Calls Tryz.prog 19 #[v] X (fun e W' => e = .returned (.tuple #[.string s, .int .i64 0]) ∧ Below X.heap.size X W') := by
 have hz : t.root.length ≤ 10 ∧ t.cells.length ≤ 2048 := by
  have hv := h.2
  unfold Fm.validT Fm.boxesT at hv
  split at hv
  ·rename_i hz
   unfold Fm.sizeB at hz
   rw [Bool.and_eq_true, decide_eq_true_eq] at hz
   exact ⟨hz.1.2.1, hz.1.2.2.2⟩
  ·cases hv
 have HF := formatCut19 X v t hP h.2 h.1 hl (by omega) (by omega) hL.tabs
 unfold fmtV at HF
 simp only [bytes_back hd] at HF
 exact HF
theorem can_fmtT {s : ByteArray} {t : Fm.TrajD} (h : Fm.TrajOk t ∧ Fm.rightT t = true) (hd : Fm.docTr t = s.data.toList) (hl : (Fm.docTr t).length ≤ 1048576) {X : World} {v : Value} (hP : TrajAt X v t) (hL : LibW X) : Calls Tryz.prog 20 #[v] X (fun e W' => e = .returned (.tuple #[.string s, .int .i64 0]) ∧ Below X.heap.size X W') := by
 have hr := h.2
 unfold Fm.rightT at hr
 rw [Bool.and_eq_true, decide_eq_true_eq] at hr
 have HF := formatTraj30 X v t hP h.1 hl hL.tabs
 rw [formatTr_yes hr.1 hr.2 hl] at HF
 unfold fmtV at HF
 simp only [bytes_back hd] at HF
 exact HF
set_option maxRecDepth 100000 in
set_option maxHeartbeats 8000000 in
theorem canonical25 (s : ByteArray) (w : World) (hs : s.size ≤ 9223372036854775807) (hL : LibW w) : Calls Tryz.prog 25 #[.string s] w (BoolP true w) := by
 have HL := Lib.hid (fun X (hX : Below w.heap.size w X) => hL.keep hX)
 have HS := Lib.hid hs
 have heq : (s.toList == s.toList) = true := by simp
 have HC := Lib.hid (can_parP s w hs hL)
 clear hs hL
 go_enter Tryz.func25, Tryz.ntmps25
 go_wp2_with fail
 refine HC.out.mono ?_
 clear HC
 rintro e W0 ⟨v, p, c, rfl, hP, hb, hc⟩
 have hP0 := hP
 obtain ⟨op, np, oe, ne, rfl, -, -⟩ := hP
 have hb2 : Below W0.heap.size W0 (W0.alloc (.cells #[.slice op p.pts.length np, .slice oe p.edges.length ne] 29)) := (Below.refl _ _).alloc (Nat.le_refl _) _
 have hx := Bx.new W0 [.slice op p.pts.length np, .slice oe p.edges.length ne] 29
 have hp2 := hP0.keep hb2
 have hbb := below_call (Below.refl w.heap.size w) (below_call hb hb2)
 clear hb hb2 hP0
 rcases hc with ⟨rfl, hc⟩ | hc
 ·have HK := Lib.hid hc
  clear hc
  go_upto_region 3 with fail
  generalize W0.alloc (.cells #[.slice op p.pts.length np, .slice oe p.edges.length ne] 29) = X0 at hx hp2 hbb ⊢
  generalize W0.heap.size = n0 at hx ⊢
  have a0 := hx.c 0 _ rfl
  have a1 := hx.c 1 _ rfl
  have la := hx.lt
  have HB := Lib.hid hbb
  have HC := Lib.hid (can_fmtP HK.out.1 HK.out.2.1 HK.out.2.2 hp2 (HL.out _ hbb))
  clear hx hp2 hbb
  go_wp2_with fail
  refine HC.out.mono ?_
  rintro e Y ⟨rfl, hb⟩
  have HBY := Lib.hid (below_call HB.out hb)
  clear hb HB HC a0 a1 la
  go_wp2
  go_ret
  exact boolP_mk rfl HBY.out
 ·have HBX := Lib.hid hbb
  clear hx hp2 hbb
  go_upto_region 5 with fail
  generalize W0.alloc (.cells #[.slice op p.pts.length np, .slice oe p.edges.length ne] 29) = X0 at HBX ⊢
  have HB0 := HBX
  clear HBX hc
  have HC := Lib.hid (can_parC s X0 HS.out (HL.out _ HB0.out))
  go_wp2_with fail
  refine HC.out.mono ?_
  clear HC
  rintro e W1 ⟨v, t, c, rfl, hP, hb, hc⟩
  have hP0 := hP
  obtain ⟨or, cr, oc, cc, rfl, -, -⟩ := hP
  have hb2 : Below W1.heap.size W1 (W1.alloc (.cells #[.slice or t.root.length cr, .slice oc t.cells.length cc] 36)) := (Below.refl _ _).alloc (Nat.le_refl _) _
  have hx := Bx.new W1 [.slice or t.root.length cr, .slice oc t.cells.length cc] 36
  have hp2 := hP0.keep hb2
  have hbb := below_call (HB0.out) (below_call hb hb2)
  clear hb hb2 hP0 HB0
  rcases hc with ⟨rfl, hc⟩ | hc
  ·have HK := Lib.hid hc
   clear hc
   go_upto_region 7 with fail
   generalize W1.alloc (.cells #[.slice or t.root.length cr, .slice oc t.cells.length cc] 36) = X1 at hx hp2 hbb ⊢
   generalize W1.heap.size = n1 at hx ⊢
   have a0 := hx.c 0 _ rfl
   have a1 := hx.c 1 _ rfl
   have la := hx.lt
   have HB := Lib.hid hbb
   have HC := Lib.hid (can_fmtC HK.out.1 HK.out.2.1 HK.out.2.2 hp2 (HL.out _ hbb))
   clear hx hp2 hbb
   go_wp2_with fail
   refine HC.out.mono ?_
   rintro e Y ⟨rfl, hb⟩
   have HBY := Lib.hid (below_call HB.out hb)
   clear hb HB HC a0 a1 la
   go_wp2
   go_ret
   exact boolP_mk rfl HBY.out
  ·have HBX := Lib.hid hbb
   clear hx hp2 hbb
   go_upto_region 9 with fail
   generalize W1.alloc (.cells #[.slice or t.root.length cr, .slice oc t.cells.length cc] 36) = X1 at HBX ⊢
   have HB1 := HBX
   clear HBX hc
   have HC := Lib.hid (can_parT s X1 HS.out (HL.out _ HB1.out))
   go_wp2_with fail
   refine HC.out.mono ?_
   clear HC
   rintro e W2 ⟨v, x, c, rfl, hP, hb, hc⟩
   have hP0 := hP
   obtain ⟨xp, xnp, xe, xne, f, nf, rfl, -, -, -⟩ := hP
   have hb2 : Below W2.heap.size W2 (W2.alloc (.cells #[.slice xp x.path.pts.length xnp, .slice xe x.path.edges.length xne, .int .i64 x.grav.1, .int .i64 x.grav.2.1, .int .i64 x.grav.2.2, .int .i64 x.grid, .slice f x.profs.length nf] 43)) := (Below.refl _ _).alloc (Nat.le_refl _) _
   have hx := Bx.new W2 [.slice xp x.path.pts.length xnp, .slice xe x.path.edges.length xne, .int .i64 x.grav.1, .int .i64 x.grav.2.1, .int .i64 x.grav.2.2, .int .i64 x.grid, .slice f x.profs.length nf] 43
   have hp2 := hP0.keep hb2
   have hbb := below_call (HB1.out) (below_call hb hb2)
   clear hb hb2 hP0 HB1
   rcases hc with ⟨rfl, hc⟩ | hc
   ·have HK := Lib.hid hc
    clear hc
    go_upto_region 11 with fail
    generalize W2.alloc (.cells #[.slice xp x.path.pts.length xnp, .slice xe x.path.edges.length xne, .int .i64 x.grav.1, .int .i64 x.grav.2.1, .int .i64 x.grav.2.2, .int .i64 x.grid, .slice f x.profs.length nf] 43) = X2 at hx hp2 hbb ⊢
    generalize W2.heap.size = n2 at hx ⊢
    have a0 := hx.c 0 _ rfl
    have a1 := hx.c 1 _ rfl
    have a2 := hx.c 2 _ rfl
    have a3 := hx.c 3 _ rfl
    have a4 := hx.c 4 _ rfl
    have a5 := hx.c 5 _ rfl
    have a6 := hx.c 6 _ rfl
    have la := hx.lt
    have HB := Lib.hid hbb
    have HC := Lib.hid (can_fmtT HK.out.1 HK.out.2.1 HK.out.2.2 hp2 (HL.out _ hbb))
    clear hx hp2 hbb
    go_wp2_with fail
    refine HC.out.mono ?_
    rintro e Y ⟨rfl, hb⟩
    have HBY := Lib.hid (below_call HB.out hb)
    clear hb HB HC a0 a1 a2 a3 a4 a5 a6 la
    go_wp2
    go_ret
    exact boolP_mk rfl HBY.out
   ·have HBX := Lib.hid hbb
    clear hx hp2 hbb
    go_wp2
    go_ret
    exact boolP_mk rfl HBX.out
end Go.Proofs.Ng
end

section
/-
 Walks: the law FormatCanonical. Printed by gen_uh.py.
-/
namespace Go.Proofs.Ng
open Go.RowKit
set_option maxRecDepth 100000 in
set_option maxHeartbeats 8000000 in
theorem formatCanonical5 (w : World) (text : ByteArray) (ol : Option Addr) (cl : Nat) (ls : List Int) (om : Option Addr) (cm : Nat) (ms : List Int) (kind how at' x : Int) (hI : Sl w ol 1 (pvals ls)) (hl : ls.length ≤ 9223372036854775807) (hIm : Sl w om 1 (pvals ms)) (hlm : ms.length ≤ 9223372036854775807) (hL : LibW w) :
  Calls Tryz.prog 5 #[.string text, .slice ol ls.length cl, .slice om ms.length cm, .int .i64 kind, .int .i64 how, .int .i64 at', .int .i64 x] w (BoolP true w) := by
 have HL := Lib.hid (fun X (hX : Below w.heap.size w X) => hL.keep hX)
 have HA := Lib.hid (fun X (hX : Below w.heap.size w X) => awake6 X (hL.keep hX))
 have HCN := Lib.hid (fun (s : ByteArray) X (hs : s.size ≤ 9223372036854775807) (hX : Below w.heap.size w X) => canonical25 s X hs (hL.keep hX))
 have HB := Lib.hid (Below.refl w.heap.size w)
 by_cases htx : 2000 < text.size
 ·have hgt : decide ((text.size : Int) > 2000) = true := decide_eq_true (by omega)
  have hgt2 : (2000 : Int) < (text.size : Int) := by omega
  clear hI hl hIm hlm hL htx
  go_enter Tryz.func5, Tryz.ntmps5
  go_wp2_with fail
  refine (HA.out w HB.out).mono ?_
  rintro e W1 ⟨rfl, hb⟩
  have HB1 := Lib.hid hb
  clear hb
  go_wp2
  go_ret
  exact boolP_mk rfl HB1.out
 ·have hgt : decide ((text.size : Int) > 2000) = false := decide_eq_false (by omega)
  have hgt2 : ¬ (2000 : Int) < (text.size : Int) := by omega
  have HSZ : Hid (text.size ≤ 9223372036854775807) := Lib.hid (by omega)
  have HP := Lib.hid (Path7 w ol cl ls hI hl)
  have HTR := Lib.hid (tree10 w ol cl ls hI hl)
  have HTJ := Lib.hid (trajectory13 w ol cl ls om cm ms hI hl hIm hlm)
  have HRD := Lib.hid (round26 kind 4 (by decide) (by decide) w)
  clear hI hl hIm hlm hL htx
  go_enter Tryz.func5, Tryz.ntmps5
  go_wp2_with fail
  clear hgt hgt2
  refine HRD.out.mono ?_
  clear HRD
  rintro e W0 ⟨rfl, hw0⟩
  subst hw0
  have hcase : kind % 4 = 0 ∨ kind % 4 = 1 ∨ kind % 4 = 2 ∨ kind % 4 = 3 := by omega
  rcases hcase with h | h | h | h
  ·rw [h]
   clear h HTR HTJ
   go_wp2_with fail
   refine HP.out.mono ?_
   clear HP
   rintro e W1 ⟨v, p, rfl, hP, hmk, hb⟩
   have hdl := docT_le (mk_small hmk) (mk_in hmk)
   have HF := Lib.hid (refFormatPath8 W1 v p hP (pathOk_of (mk_small hmk) (mk_in hmk)) (by omega) (HL.out _ hb).tabs)
   rw [formatP_yes hmk.rt (by omega)] at HF
   have HB1 := Lib.hid hb
   have hbl := bytes_len (Fm.docT p)
   obtain ⟨u, hu, hcu⟩ := damaged10 ⟨(Fm.docT p).toArray⟩ how at' x (by omega)
   have HU : Hid (u.size ≤ 9223372036854775807) := Lib.hid (by omega)
   unfold fmtV at HF
   have HD := Lib.hid hcu
   clear hP hmk hb hdl hu hcu hbl
   go_wp2_with fail
   refine HF.out.mono ?_
   clear HF
   rintro e W2 ⟨rfl, hb⟩
   have HB2 := Lib.hid (below_call HB1.out hb)
   clear hb HB1
   go_wp2_with fail
   refine (HD.out W2).mono ?_
   clear HD
   rintro e W3 ⟨rfl, hb⟩
   have HB3 := Lib.hid (below_call HB2.out hb)
   clear hb HB2
   go_wp2_with fail
   refine (HA.out _ HB3.out).mono ?_
   rintro e W4 ⟨rfl, hb⟩
   have HB4 := Lib.hid (below_call HB3.out hb)
   clear hb
   have HC := Lib.hid (HCN.out u W4 HU.out HB4.out)
   go_wp2_with fail
   refine HC.out.mono ?_
   rintro e W5 ⟨rfl, hb⟩
   have HB5 := Lib.hid (below_call HB4.out hb)
   clear hb
   go_wp2
   go_ret
   exact boolP_mk rfl HB5.out
  ·rw [h]
   clear h HP HTJ
   go_wp2_with fail
   refine HTR.out.mono ?_
   clear HTR
   rintro e W1 ⟨v, t, rows, rfl, hP, hmk, hn, hb⟩
   have hdl := docC_le hmk hn
   have HF := Lib.hid (refCut9 W1 v t hP.at hmk hn (by omega) (HL.out _ hb).tabs)
   have HB1 := Lib.hid hb
   have hbl := bytes_len (Fm.docC t)
   obtain ⟨u, hu, hcu⟩ := damaged10 ⟨(Fm.docC t).toArray⟩ how at' x (by omega)
   clear hn
   have HU : Hid (u.size ≤ 9223372036854775807) := Lib.hid (by omega)
   unfold fmtV at HF
   have HD := Lib.hid hcu
   clear hP hmk hb hdl hu hcu hbl
   go_wp2_with fail
   refine HF.out.mono ?_
   clear HF
   rintro e W2 ⟨rfl, hb⟩
   have HB2 := Lib.hid (below_call HB1.out hb)
   clear hb HB1
   go_wp2_with fail
   refine (HD.out W2).mono ?_
   clear HD
   rintro e W3 ⟨rfl, hb⟩
   have HB3 := Lib.hid (below_call HB2.out hb)
   clear hb HB2
   go_wp2_with fail
   refine (HA.out _ HB3.out).mono ?_
   rintro e W4 ⟨rfl, hb⟩
   have HB4 := Lib.hid (below_call HB3.out hb)
   clear hb
   have HC := Lib.hid (HCN.out u W4 HU.out HB4.out)
   go_wp2_with fail
   refine HC.out.mono ?_
   rintro e W5 ⟨rfl, hb⟩
   have HB5 := Lib.hid (below_call HB4.out hb)
   clear hb
   go_wp2
   go_ret
   exact boolP_mk rfl HB5.out
  ·rw [h]
   clear h HP HTR
   go_wp2_with fail
   refine HTJ.out.mono ?_
   clear HTJ
   rintro e W1 ⟨v, t, rfl, hP, hmk, hb⟩
   have hdl := docTr_le (mkT_small hmk) (mkT_in hmk)
   have HF := Lib.hid (refFormatTraj14 W1 v t hP (trajOk_of (mkT_small hmk) (mkT_in hmk)) (by omega) (HL.out _ hb).tabs)
   rw [formatTr_yes hmk.path.rt hmk.rt (by omega)] at HF
   have HB1 := Lib.hid hb
   have hbl := bytes_len (Fm.docTr t)
   obtain ⟨u, hu, hcu⟩ := damaged10 ⟨(Fm.docTr t).toArray⟩ how at' x (by omega)
   have HU : Hid (u.size ≤ 9223372036854775807) := Lib.hid (by omega)
   unfold fmtV at HF
   have HD := Lib.hid hcu
   clear hP hmk hb hdl hu hcu hbl
   go_wp2_with fail
   refine HF.out.mono ?_
   clear HF
   rintro e W2 ⟨rfl, hb⟩
   have HB2 := Lib.hid (below_call HB1.out hb)
   clear hb HB1
   go_wp2_with fail
   refine (HD.out W2).mono ?_
   clear HD
   rintro e W3 ⟨rfl, hb⟩
   have HB3 := Lib.hid (below_call HB2.out hb)
   clear hb HB2
   go_wp2_with fail
   refine (HA.out _ HB3.out).mono ?_
   rintro e W4 ⟨rfl, hb⟩
   have HB4 := Lib.hid (below_call HB3.out hb)
   clear hb
   have HC := Lib.hid (HCN.out u W4 HU.out HB4.out)
   go_wp2_with fail
   refine HC.out.mono ?_
   rintro e W5 ⟨rfl, hb⟩
   have HB5 := Lib.hid (below_call HB4.out hb)
   clear hb
   go_wp2
   go_ret
   exact boolP_mk rfl HB5.out
  ·rw [h]
   clear h HP HTR HTJ
   go_wp2_with fail
   refine (HA.out _ HB.out).mono ?_
   rintro e W4 ⟨rfl, hb⟩
   have HB4 := Lib.hid hb
   clear hb
   have HC := Lib.hid (HCN.out text W4 HSZ.out HB4.out)
   go_wp2_with fail
   refine HC.out.mono ?_
   rintro e W5 ⟨rfl, hb⟩
   have HB5 := Lib.hid (below_call HB4.out hb)
   clear hb
   go_wp2
   go_ret
   exact boolP_mk rfl HB5.out
end Go.Proofs.Ng
end

section
/-
 What the readings of the arguments say of memory.
-/
namespace Go.Proofs.Ng
open Go.RowKit
theorem list_of {A : Type} (P : Nat → A → Prop) : ∀ n : Nat, (∀ i, i < n → ∃ r, P i r) → ∃ rs : List A, rs.length = n ∧ ∀ (i : Nat) (r : A), rs[i]? = some r → P i r
 | 0, _ => ⟨[], rfl, fun i r h => by simp at h⟩
 | n + 1, h => by
  obtain ⟨rs, hl, hr⟩ := list_of P n fun i hi => h i (by omega)
  obtain ⟨r, hp⟩ := h n (by omega)
  refine ⟨rs ++ [r], by simp [hl], fun i r' hi => ?_⟩
  rcases Nat.lt_or_ge i rs.length with hlt | hge
  ·rw [List.getElem?_append_left hlt] at hi
   exact hr i r' hi
  ·rw [List.getElem?_append_right hge] at hi
   have : i = n := by
    rcases Nat.eq_or_lt_of_le hge with h | h
    ·omega
    ·rw [List.getElem?_eq_none (by simp; omega)] at hi; cases hi
   subst this
   have e : i - rs.length = 0 := by omega
   rw [e] at hi
   simp at hi
   subst hi
   exact hp
/-- A slice that is read lies in memory, row for row. -/
theorem open_rows {H : Type} {enc : TypeId × Value → H} {P : Program} {w : World} {base : Nat} {spare : Nat → Bool} {held : Bool} {A : Type} (f : A → List Value) {t e : TypeId} {n fuel : Nat} {v : Value} {x : DataW H × List MemPlace} (ht : P.underlying t = some (.slice e)) (hc : P.cellsOf e = n) (hn : 0 < n)
  (hrow : ∀ (m : Nat) (cs : List Value) (y : DataW H × List MemPlace), cs.length = n → DataW.trod enc P w base spare held m e cs = some y → ∃ r : A, cs = f r)
  (h : DataW.trod enc P w base spare held fuel t [v] = some x) : ∃ (oa : Option Addr) (cap : Nat) (rs : List A), v = .slice oa rs.length cap ∧ rs.length ≤ 9223372036854775807 ∧ Sl w oa n (rs.map f) ∧ (oa = none → rs = [] ∧ cap = 0) ∧ (x.1 = .nil ∧ rs = [] ∨ ∃ elems spare, x.1 = .slice elems spare ∧ elems.length = rs.length) := by
 rcases Go.Deep.open_slice ht h with ⟨h0, hx0⟩ | ⟨a, len, cap, m, k, D, Pl, h1, hb, hl, hm, hmm, hx0, hx⟩
 ·injection h0 with h0 _
  subst h0
  exact ⟨none, 0, [], rfl, by simp, fun h => absurd rfl h, fun _ => ⟨rfl, rfl⟩, .inl ⟨by rw [hx0], rfl⟩⟩
 ·injection h1 with h1 _
  subst h1
  have hlm : len ≤ m := by rw [hmm]; split <;> omega
  obtain ⟨rs, hrl, hr⟩ := list_of (fun i r => w.cells? base (a.add (i * n)) n = some (f r)) len (fun i hi => by
   obtain ⟨cs, c1, c2⟩ := hx i (by omega)
   rw [hc] at c1
   obtain ⟨r, rfl⟩ := hrow _ _ _ (World.cells?_some c1).2.1 c2
   exact ⟨r, c1⟩)
  subst hrl
  refine ⟨some a, cap, rs, rfl, by unfold maxLen at hm; omega, fun hne => ?_, fun h => by (cases h), .inr ⟨_, _, by rw [hx0], by simp⟩⟩
  have hne' : rs ≠ [] := fun h => hne (by simp [h])
  have cell : ∀ (i : Nat) (r : A), rs[i]? = some r → ∀ q u, (f r)[q]? = some u → w.cell? ((a.add (i * n)).add q) = some u := by
   intro i r hi q u hq
   obtain ⟨_, c2, c3⟩ := World.cells?_some (hr i r hi)
   have hqn : q < n := by
    rcases Nat.lt_or_ge q (f r).length with h' | h'
    ·omega
    ·rw [List.getElem?_eq_none h'] at hq; cases hq
   rw [c3 q hqn, hq]
  -- the slice's address has no spot
  have sp : a.spot = none := by
   cases rs with
   | nil => exact absurd rfl hne'
   | cons r0 rt =>
    obtain ⟨_, c2, c3⟩ := World.cells?_some (hr 0 r0 rfl)
    have c4 := c3 0 hn
    have : (f r0)[0]? = some ((f r0)[0]'(by omega)) := List.getElem?_eq_getElem _
    rw [this] at c4
    cases hs : a.spot with
    | none => rfl
    | some s =>
     exfalso
     have e0 : ((a.add (0 * n)).add 0) = a := by simp [Addr.add]
     rw [e0] at c4
     unfold World.cell? at c4
     rw [hs] at c4
     revert c4
     cases w.heap[a.block]? with
     | none => simp
     | some o => cases o <;> simp
  obtain ⟨b, off, sp'⟩ := a
  simp at sp
  subst sp
  refine ⟨b, off, rfl, ?_, fun i r hi q u hq => ?_⟩
  ·cases rs with
   | nil => exact absurd rfl hne'
   | cons r0 rt =>
    obtain ⟨_, c2, c3⟩ := World.cells?_some (hr 0 r0 rfl)
    have c4 := c3 0 hn
    have : (f r0)[0]? = some ((f r0)[0]'(by omega)) := List.getElem?_eq_getElem _
    rw [this] at c4
    rcases Nat.lt_or_ge b w.heap.size with h' | h'
    ·exact h'
    ·exfalso
     have e0 : (((⟨b, off, none⟩ : Addr).add (0 * n)).add 0) = ⟨b, off, none⟩ := by simp [Addr.add]
     rw [e0] at c4
     simp [World.cell?, Array.getElem?_eq_none h'] at c4
  ·rw [List.getElem?_map] at hi
   cases hri : rs[i]? with
   | none => rw [hri] at hi; cases hi
   | some r' =>
    rw [hri] at hi
    simp at hi
    subst hi
    rw [← cell i r' hri q u hq]
    congr 1
    simp only [Addr.add]
    split <;> split <;> simp_all <;> omega
theorem row_int {H : Type} {enc : TypeId × Value → H} {w : World} {base : Nat} {spare : Nat → Bool} {held : Bool} (e : TypeId) (hu : Tryz.prog.underlying e = some (.int .i64)) (m : Nat) (cs : List Value) (y : DataW H × List MemPlace) (_ : cs.length = 1) (h : DataW.trod enc Tryz.prog w base spare held m e cs = some y) : ∃ r : Int, cs = [.int .i64 r] := by
 obtain ⟨n, rfl, _⟩ := DataW.trod_int hu h
 exact ⟨n, rfl⟩
theorem clo3 : Tryz.prog.cellsOf 3 = 1 := by kernel_rfl
theorem open_nums {H : Type} {enc : TypeId × Value → H} {w : World} {base : Nat} {spare : Nat → Bool} {held : Bool} {t e : TypeId} {fuel : Nat} {v : Value} {x : DataW H × List MemPlace} (ht : Tryz.prog.underlying t = some (.slice e)) (hu : Tryz.prog.underlying e = some (.int .i64)) (hc : Tryz.prog.cellsOf e = 1)
  (h : DataW.trod enc Tryz.prog w base spare held fuel t [v] = some x) : ∃ (oa : Option Addr) (cap : Nat) (rs : List Int), v = .slice oa rs.length cap ∧ rs.length ≤ 9223372036854775807 ∧ Sl w oa 1 (pvals rs) ∧ (oa = none → rs = [] ∧ cap = 0) ∧ (x.1 = .nil ∧ rs = [] ∨ ∃ elems spare, x.1 = .slice elems spare ∧ elems.length = rs.length) :=
 open_rows (fun p : Int => [.int .i64 p]) ht hc (by omega) (row_int e hu) h
theorem laidOut : laidOutB Tryz.prog = true := by kernel_rfl
open Go.ChangeShapes Go.WideShapes Go.ChangeAt
set_option linter.unusedVariables false
/-- The post, of a world of which it is known that nothing that stood before has changed. -/
theorem post_below {H : Type} {enc : TypeId × Value → H} {P : Program} {f : Func} {s : ChangeSpec} {apart fresh handsOn again : Bool} {W W' : World} {args : Array Value} {v : Value} {ds gs : List (DataW H)} {before pa pv : List MemPlace}
  (hW : DataW.Whole enc P f.params.toList s.vars apart W args.toList ds gs before)
  (hres : ∀ (b : Nat) (sp : Nat → Bool) (hd : Bool), DataW.TrodAll enc P W' b sp hd f.resultTypes.toList (v.resultList f.resultTypes.size) (s.fn H (ds ++ gs)).results [])
  (hargs : ∀ sp : Nat → Bool, (∀ p ∈ before, sp p.block = true) → DataW.TrodAll enc P W' 0 sp true f.params.toList args.toList (s.fn H (ds ++ gs)).args pa)
  (hvars : ∀ sp : Nat → Bool, (∀ p ∈ before, sp p.block = true) → DataW.TrodVars enc P W' sp s.vars (s.fn H (ds ++ gs)).vars pv)
  (hps : before = pa ++ pv) (hb : Below W.heap.size W W')
  (hok : ∀ (j : Nat) (t : TypeId) (r : Value), f.resultTypes[j]? = some t → (v.resultList f.resultTypes.size)[j]? = some r → Value.okWide P W' .any 0 t r) :
  s.post enc P f apart fresh handsOn again W args v W' := by
 have hlt : ∀ p ∈ before, p.block < W.heap.size := fun p hp => hW.lt p hp
 have hold : ∀ p ∈ before, (fun b => decide (b < W.heap.size)) p.block = true := fun p hp => by simpa using hlt p hp
 refine ⟨ds, gs, before, [], pa, pv, hW, hres _ _ _, hargs _ hold, hvars _ hold, World.keptBut_mono (fun p hp => ⟨hp, ?_⟩) (hb.frame (· ∈ before)), fun _ => ?_⟩
 ·rw [hps, List.mem_append] at hp
  exact Or.inr hp
 ·obtain ⟨_, _, _, _, _, hz, hn⟩ := hW
  refine ⟨hok, _, _, ([] ++ pa) ++ pv, ⟨[] ++ pa, pv, trodAll_append (hargs _ (fun _ _ => rfl)) (hres _ _ _), hvars _ (fun _ _ => rfl), rfl, ?_, ?_⟩, ?_⟩
  ·intro b off hp
   have hin : MemPlace.cell b off ∈ before := by rw [hps]; simpa using hp
   rw [hb.frozen (hlt _ hin)]
   exact hz b off hin
  ·intro ha
   have := hn ha
   rw [hps] at this
   simpa using this
  ·intro p hp _
   rw [hps]
   simpa using hp
/-- What was read reads as it did. -/
theorem stays {H : Type} {enc : TypeId × Value → H} {P : Program} (hl : laidOutB P = true) {W W' : World} {sp' : Nat → Bool} : ∀ (ts : List TypeId) (vs : List Value) (ds : List (DataW H)) (ps : List MemPlace), (∀ t ∈ ts, P.readableRec t = true ∧ t < P.types.size) →
  DataW.TrodAll enc P W 0 (fun _ => true) true ts vs ds ps → (∀ p ∈ ps, W.sameAt W' p) → (∀ p ∈ ps, sp' p.block = true) → DataW.TrodAll enc P W' 0 sp' true ts vs ds ps
 | [], [], [], ps, _, h, _, _ => h
 | t :: ts, v :: vs, d :: ds, ps, ht, h, h1, h2 => by
  obtain ⟨p, q, a, b, rfl⟩ := h
  exact ⟨p, q, WideElems.Trod_stays hl (ht t (by simp)).1 (ht t (by simp)).2 a (fun x hx => h1 x (by simp [hx])) (fun x hx => h2 x (by simp [hx])), stays hl ts vs ds q (fun t h => ht t (by simp [h])) b (fun x hx => h1 x (by simp [hx])) (fun x hx => h2 x (by simp [hx])), rfl⟩
 | [], _ :: _, _, _, _, h, _, _ => by simp [DataW.TrodAll] at h
 | [], [], _ :: _, _, _, h, _, _ => by simp [DataW.TrodAll] at h
 | _ :: _, [], _, _, _, h, _, _ => by simp [DataW.TrodAll] at h
 | _ :: _, _ :: _, [], _, _, h, _, _ => by simp [DataW.TrodAll] at h
theorem own24 : ownKnob Tryz.prog.godebug = none := by kernel_rfl
theorem read3 : Tryz.prog.readableRec 3 = true ∧ 3 < Tryz.prog.types.size := ⟨by kernel_rfl, of_decide_eq_true (by kernel_rfl)⟩
theorem read24 : Tryz.prog.readableRec 22 = true ∧ 22 < Tryz.prog.types.size := ⟨by kernel_rfl, of_decide_eq_true (by kernel_rfl)⟩
end Go.Proofs.Ng
end

section
/-
  FormatCanonical: for every text, all lists of numbers and every number, the law returns true: a text that a reader takes is the text that the writer makes of what was read.
  No condition; the listed variables hold what the program's text lays.
  The row's frame follows the kit's worked examples; the walk and all beneath it are this claim's own.
-/
set_option linter.unusedVariables false
namespace Go.Proofs.YthcmkpcefiiiaaaGreatDoor.formatCanonical
open Go.ChangeShapes Go.WideShapes Go.ChangeAt Go.RowKit

abbrev spec : OpenSpec := OpenSpec.ofChange Rows.formatCanonicalSpec
abbrev args0 : Array Value := #[.string ⟨#[]⟩, .slice none 0 0, .slice none 0 0, .int .i64 0, .int .i64 0, .int .i64 0, .int .i64 0]
def c1 : DataW Unit → List Value
  | .lit (.int k n) => [.int k n]
  | _ => []
def c2 : DataW Unit → List Value
  | .agg l => l.flatMap c1
  | d => c1 d
def c3 : DataW Unit → List Value
  | .agg l => l.flatMap c2
  | d => c2 d
/-- A world in which the listed variables hold their data. -/
noncomputable def laidWorld (os : Os) : World :=
  let N := (World.settled Tryz.prog os).heap.size
  let w0 := World.holding Tryz.prog os ⟨#[.cells #[.string ⟨#[118, 97, 108, 117, 101, 32, 111, 117, 116, 32, 111, 102, 32, 114, 97, 110, 103, 101]⟩] 213, .cells #[.string ⟨#[105, 110, 118, 97, 108, 105, 100, 32, 115, 121, 110, 116, 97, 120]⟩] 213], #[], []⟩
  let put (h : Array Obj) (g : Nat) (cs : Array Value) : Array Obj := h.modify g fun
    | .cells _ t frozen => .cells cs t frozen
    | o => o
  let h1 := put w0.heap 0 (c3 Rows.laid_internal_strconv_uint64pow10).toArray
  let h2 := put h1 2 (c3 Rows.laid_math_bits_deBruijn32tab).toArray
  let h3 := put h2 3 (c3 Rows.laid_math_bits_deBruijn64tab).toArray
  let h4 := put h3 4 #[.iface 211 (.pointer (some ⟨N + 1, 0, none⟩))]
  let h5 := put h4 5 #[.iface 211 (.pointer (some ⟨N, 0, none⟩))]
  let h6 := put h5 6 (c3 Rows.laid_unicode_utf8_first).toArray
  let h7 := put h6 7 (c3 Rows.laid_unicode_utf8_acceptRanges).toArray
  { w0 with heap := h7 }
theorem laid_met (os : Os) (args : Array Value) : laidMetH Tryz.prog Ng.laid43 ((laidWorld os).forCall (fun _ _ => 0) ⟨#[], args, []⟩).memory :=
  laidMetH_of_parts3 (fuel := 8) (laidMet_of_run' 8 (by kernel_rfl) (by kernel_rfl)) (by kernel_rfl) (by kernel_rfl)
set_option maxRecDepth 100000 in
theorem witness_row (os : Os) {H : Type} (enc : TypeId × Value → H) :
    spec.preRow enc Tryz.prog Tryz.f5 Rows.formatCanonicalRow.domain false Ng.laid43 ((laidWorld os).forCall (fun _ _ => 0) ⟨#[], args0, []⟩).memory args0 := by
  have hw : (DataW.whole enc Tryz.prog ((laidWorld os).forCall (fun _ _ => 0) ⟨#[], args0, []⟩).memory Tryz.f5.params.toList spec.vars false args0.toList 8).map (fun x => (x.1, x.2.1)) =
      some ([.lit (.string []), .nil, .nil, .lit (.int .i64 0), .lit (.int .i64 0), .lit (.int .i64 0), .lit (.int .i64 0)], []) := by kernel_rfl
  obtain ⟨⟨x1, x2, x3⟩, hx, hx1⟩ := Option.map_eq_some_iff.1 hw
  simp only [Prod.mk.injEq] at hx1
  obtain ⟨rfl, rfl⟩ := hx1
  exact OpenSpec.preRow_of_cond 8 hx (by kernel_rfl) (fun k hk => by cases hk) (by kernel_rfl) (laid_met os _)

theorem read9 : Tryz.prog.readableRec 9 = true ∧ 9 < Tryz.prog.types.size := ⟨by kernel_rfl, of_decide_eq_true (by kernel_rfl)⟩
theorem readables : ∀ t ∈ (#[9, 22, 22, 3, 3, 3, 3] : Array TypeId).toList, Tryz.prog.readableRec t = true ∧ t < Tryz.prog.types.size := by
  intro t ht
  have h : t = 9 ∨ t = 22 ∨ t = 3 := by simp at ht; exact ht
  rcases h with rfl | rfl | rfl
  · exact read9
  · exact Ng.read24
  · exact Ng.read3
set_option maxRecDepth 100000 in
theorem lifted (os : Os) (started : os.Started) (H : Type) (enc : TypeId × Value → H) (F : Stop.Interp) :
    ReturnsInHanded {} Tryz.checked os 5 .any (spec.preRow enc Tryz.prog Tryz.f5 Rows.formatCanonicalRow.domain false Rows.formatCanonicalRow.laid) ((spec.at F).post enc Tryz.prog Tryz.f5 false true false false) := by
  refine returnsInHanded_of_row (C := Tryz.checked) (s := spec) Ng.own24 started (by kernel_rfl) Tryz.func5
    (witness_row_atRef (enc := enc) (C := Tryz.checked) false (laidWorld os) args0 rfl (by kernel_rfl) (by kernel_rfl) (by kernel_rfl) (witness_row os enc)) ?_
  intro W base args ds gs before hval0 hW _ hcond0 _ hL hsh _
  have hlib := Ng.lib_of hL hsh
  have hval : ∀ (j : Nat) t v, Tryz.f5.params[j]? = some t → args[j]? = some v → Value.okWide Tryz.prog W .any base t v := hval0
  have hW' := hW
  obtain ⟨p, q, hA0, hV, rfl, hfz, hnd⟩ := hW
  have hA : DataW.TrodAll enc Tryz.prog W 0 (fun _ => true) true Tryz.f5.params.toList args.toList ds p := hA0
  have hAk := hA
  rw [Tryz.params5] at hA hval
  obtain ⟨v0, vs0, d0, ds0, p0, q0, hargs, rfl, rfl, h0, r0⟩ := trodAll_cons hA
  obtain ⟨v1, vs1, d1, ds1, p1, q1, rfl, rfl, rfl, h1, r1⟩ := trodAll_cons r0
  obtain ⟨v2, vs2, d2, ds2, p2, q2, rfl, rfl, rfl, h2, r2⟩ := trodAll_cons r1
  obtain ⟨v3, vs3, d3, ds3, p3, q3, rfl, rfl, rfl, h3, r3⟩ := trodAll_cons r2
  obtain ⟨v4, vs4, d4, ds4, p4, q4, rfl, rfl, rfl, h4, r4⟩ := trodAll_cons r3
  obtain ⟨v5, vs5, d5, ds5, p5, q5, rfl, rfl, rfl, h5, r5⟩ := trodAll_cons r4
  obtain ⟨v6, vs6, d6, ds6, p6, q6, rfl, rfl, rfl, h6, r6⟩ := trodAll_cons r5
  obtain ⟨rfl, rfl, rfl⟩ := trodAll_nil r6
  obtain rfl : args = #[v0, v1, v2, v3, v4, v5, v6] := by cases args; simp_all
  obtain ⟨rfl, rfl⟩ := trodVars_none hV
  obtain ⟨s, rfl, e0, -, hs⟩ := Go.ChangeMaps.open_string Tryz.underlying9 (hval 0 9 v0 rfl rfl) h0
  obtain ⟨a1, n1, c1, rfl⟩ := okWide_slice Tryz.underlying22 (hval 1 22 v1 rfl rfl)
  obtain ⟨a2, n2, c2, rfl⟩ := okWide_slice Tryz.underlying22 (hval 2 22 v2 rfl rfl)
  obtain ⟨x3, rfl⟩ := okWide_int Tryz.underlying3 (hval 3 3 v3 rfl rfl)
  obtain ⟨x4, rfl⟩ := okWide_int Tryz.underlying3 (hval 4 3 v4 rfl rfl)
  obtain ⟨x5, rfl⟩ := okWide_int Tryz.underlying3 (hval 5 3 v5 rfl rfl)
  obtain ⟨x6, rfl⟩ := okWide_int Tryz.underlying3 (hval 6 3 v6 rfl rfl)
  obtain ⟨f1, h1⟩ := h1
  obtain ⟨f2, h2⟩ := h2
  obtain ⟨ol, cl, ls, i1, hl, hI, -, -⟩ := Ng.open_nums Tryz.underlying22 Tryz.underlying3 Ng.clo3 (v := .slice a1 n1 c1) h1
  obtain ⟨om, cm, ms, i2, hlm, hIm, -, -⟩ := Ng.open_nums Tryz.underlying22 Tryz.underlying3 Ng.clo3 (v := .slice a2 n2 c2) h2
  rw [i1, i2] at hAk hW' ⊢
  clear hA0 hval0
  simp only [List.append_nil] at hW' hAk
  refine (Ng.formatCanonical5 W s ol cl ls om cm ms x3 x4 x5 x6 hI hl hIm hlm hlib).mono fun e W' ⟨he, hg⟩ => ?_
  subst he
  have hlt := fun p hp => hW'.lt p hp
  exact ⟨_, rfl, Ng.post_below (pv := []) hW' (fun _ _ _ => (trodAll_cons_mk (shut_bool Tryz.underlying4 _) trodAll_mk0)) (fun sp hsp => Ng.stays Ng.laidOut _ _ _ _ (by rw [Tryz.params5]; exact readables) hAk (fun x hx => hg.same (hlt x hx)) hsp) (fun _ _ => rfl) (by simp)
    hg (ok_one (by kernel_rfl) rfl (okWide_bool_mk Tryz.underlying4 _))⟩

/-- THE STATEMENT -/
theorem proved : Rows.FormatCanonicalSaid :=
  OpenClaim.holds_of_cond 5 Tryz.f5 rfl rfl rfl rfl rfl rfl rfl ⟨rfl, rfl, rfl, rfl, rfl⟩ rfl rfl rfl rfl rfl (by kernel_rfl) Tryz.func5 (by kernel_rfl)
    (of_decide_eq_true (by kernel_rfl)) (by unfold Func.isWrapper; first | (rw [if_pos (by decide +kernel)]; kernel_rfl) | (rw [if_neg (by decide +kernel)]; exact ⟨rfl, rfl⟩))
    (fun os started H enc _ F0 => by rw [OpenClaim.pre_eq_preRow]; exact lifted os started H enc F0)
#print axioms proved
end Go.Proofs.YthcmkpcefiiiaaaGreatDoor.formatCanonical
end

